/- The reference's reader: bytes in square brackets. (Printed by genset.py.) -/
import Derived.Test.YtnbghiaggapoiaaRefGrow
import Derived.Test.YtnbghiaggapoiaaMem2
import Derived.Deep.DeepCutAuto
namespace Go.Proofs.Ytnbghiaggapoiaa
set_option linter.unusedSimpArgs false
set_option linter.unusedVariables false
open Go.RowKit Go.Proofs
open Rx (NS Got)

theorem Try.infoB2 : (Try.prog.info? 83).map (fun i => (i.zero, i.size, i.bytes)) = some (some (.agg #[.int .u8 0, .int .u8 0]), 2, 2) := by kernel_rfl

/-- What is left of the text, where no error was told. -/
def leftOf (n : Nat) (w : World) (p : Nat) : Nat := match w.cell? ⟨p, 3, none⟩, w.cell? ⟨p, 1, none⟩ with
  | some e, some v => if intOf e = 0 then n + 1 - (intOf v).toNat else 0
  | _, _ => 0
theorem Pt.left0 {w : World} {p : Nat} {s : ByteArray} {i d pos : Nat} (h : Pt w p s i d 0 pos) (n : Nat) : leftOf n w p = n + 1 - i := by
  obtain ⟨_, c1, _, c3, _⟩ := h.cells
  simp [leftOf, c1, c3, intOf]
theorem Pt.left1 {w : World} {p : Nat} {s : ByteArray} {i d c pos : Nat} (h : Pt w p s i d c pos) (hc : c ≠ 0) (n : Nat) : leftOf n w p = 0 := by
  obtain ⟨_, c1, _, c3, _⟩ := h.cells
  simp [leftOf, c1, c3, intOf]
  omega

/-- What a row grows over is let go. -/
theorem At.lost {w W W1 : World} {p : Nat} {s : ByteArray} {i d bad pos : Nat} {bs : List (Nat × List Value)} {ts : List Tr} (h : At w W p s i d bad pos bs ts) (o : Obj) {row : Option Nat} (hg : (W.alloc o).grownBy W1 row)
    (hr : ∀ k, row = some k → k ∈ ts.flatMap (·.2.2)) : At w W1 p s i d bad pos bs [] :=
  (At.regrow (ts0 := ts) (ts := []) (by simpa using h) o hg hr (t := (⟨46, false, none, 0, 0, none, 0, 0⟩, .any, [])) .any (by simp) (by simp)).bare

def z4 : List Value := [.int .u8 0, .bool false, .slice none 0 0, .slice none 0 0]
/-- At the head of a round: a set so far, or an error. -/
def SetRun (w : World) (p : Nat) (s : ByteArray) (d R N : Nat) (no : Bool) (G : Got (Rx.BSet × Nat)) (wr : World) : Prop :=
  (∃ j pos a n c l F m f, At w wr p s j d 0 pos [(N, [.int .u8 99, .bool no, .slice a n c, .slice none 0 0]), (R, [.int .u8 0, .bool false, .slice none 0 0, .slice none 0 0])] [(⟨99, no, a, n, c, none, 0, 0⟩, .cls no l, F)] ∧
    Rx.mem2 (tx s) m f j = G ∧ (∀ c, c < 256 → f c = inSet l c) ∧ l.length ≤ j ∧ j ≤ s.size ∧ s.size + 1 ≤ m + j) ∨
  (∃ j k c x0 x1 x2 x3, At w wr p s j d c k [(N, [x0, x1, x2, x3]), (R, [.int .u8 0, .bool false, .slice none 0 0, .slice none 0 0])] [] ∧ c ≠ 0 ∧ j ≤ s.size ∧ G = .bad k c)

theorem has_true {s : ByteArray} {c j : Nat} (h : Rx.has (tx s) c j = true) : ∃ h : j < s.size, s[j].toNat = c := by
  simp only [Rx.has, Bool.and_eq_true, decide_eq_true_iff] at h
  have hj : j < s.size := by simpa using h.1
  exact ⟨hj, by rw [← bt_get s j hj]; exact h.2⟩
theorem has_false {s : ByteArray} {c j : Nat} (h : Rx.has (tx s) c j = false) : s.size ≤ j ∨ ∃ h : j < s.size, s[j].toNat ≠ c := by
  by_cases hj : j < s.size
  · right
    refine ⟨hj, fun e => ?_⟩
    have : Rx.has (tx s) c j = true := by
      simp only [Rx.has, Bool.and_eq_true, decide_eq_true_iff]
      exact ⟨by simpa using hj, by rw [bt_get s j hj]; exact e⟩
    rw [this] at h; cases h
  · left; omega

/-- The test of the next byte, as the reference has it: in the walk's spelling. -/
theorem test_true {s : ByteArray} {j n : Nat} (hj : j < s.size) (h : s[j].toNat = n) : (((s[j].toNat : Nat) : Int) == (n : Int)) = true := eq_u8 _ n h

theorem inSet_snoc {f : Rx.BSet} {l : List (Nat × Nat)} (h : ∀ c, c < 256 → f c = inSet l c) (x y : Nat) : ∀ c, c < 256 → Rx.orSet f (Rx.between x y) c = inSet (l ++ [(x, y)]) c := by
  intro c hc
  have h0 := h c hc
  unfold inSet at h0 ⊢
  simp only [Rx.orSet, Rx.between, h0, List.any_append, List.any_cons, List.any_nil, Bool.or_false]
theorem set_corr {f : Rx.BSet} {l : List (Nat × Nat)} (h : ∀ c, c < 256 → f c = inSet l c) (no : Bool) : Corr (.cls no l) (.set (if no then Rx.notSet f else f)) := by
  refine .cls (fun c hc => ?_)
  have h0 := h c hc
  unfold inSet at h0
  unfold takesN
  cases hi : l.any (fun p => decide (p.1 ≤ c) && decide (c ≤ p.2)) <;> rw [hi] at h0 <;> cases no <;> simp [h0, Rx.notSet]

set_option maxRecDepth 100000 in
set_option maxHeartbeats 4000000 in
theorem refset_any (w : World) (p : Nat) (s : ByteArray) (i d pos n : Nat) (h : Pt w p s i d 0 pos) (hi : i < s.size) (hs : s.size ≤ 1000) (hn : s.size + 1 ≤ n + (i + 1)) :
    Calls Try.prog 48 #[.pointer (some ⟨p, 0, none⟩)] w (NEnds ((Rx.cls (tx s) n (i + 1)).bind fun x => .ok (.set x.1, x.2)) w p s d) := by
  obtain ⟨i0, hi0, hz0, hz1, hz2⟩ := info_parts Try.infoB2
  have A1 := ((At.start h).alloc [.int .u8 0, .bool false, .slice none 0 0, .slice none 0 0]).alloc [.int .u8 99, .bool false, .slice none 0 0, .slice none 0 0]
  rw [show (w.alloc (.cells [Value.int .u8 0, .bool false, .slice none 0 0, .slice none 0 0].toArray 30)).heap.size = w.heap.size + 1 from by simp] at A1
  have hcl := Rx.cls_mem2 (tx s) n (i + 1) (by simp; omega) (by simp; omega)
  have hib : i < 1000 := by omega
  obtain ⟨c0, c1, c2, c3, c4, f1, f2⟩ := A1.pt.cells0
  have A2 := A1.setAt (i + 1) ((i : Int) + 1) (by omega)
  clear h
  obtain ⟨j0, hj0⟩ : ∃ j, j = i + 1 := ⟨_, rfl⟩
  rw [← hj0] at A2 hcl hn
  generalize hRES : ((Rx.cls (tx s) n (i + 1)).bind fun x => .ok (Rx.Re.set x.1, x.2)) = RES
  rw [← hj0, hcl] at hRES
  have Hcl := Lib.hid hRES.symm
  clear hRES hcl
  have hj1 : j0 ≤ s.size := by omega
  have Hj0 := Lib.hid hj0
  have hn0 : s.size + 1 ≤ n + j0 := hn
  clear hj0
  go_enter Try.func48, Try.ntmps48
  go_wp2_with fail
  generalize ((w.alloc (.cells #[.int .u8 0, .bool false, .slice none 0 0, .slice none 0 0] 30)).alloc (.cells #[.int .u8 99, .bool false, .slice none 0 0, .slice none 0 0] 30)).setCell ⟨p, 1, none⟩ (.int .i64 ((i : Int) + 1)) = W2 at *
  clear A1 c0 c1 c2 c3 c4 f1 f2
  have hjb : j0 ≤ 1000 := by omega
  clear hn hi hib Hj0
  have hn1 : s.size + 1 ≤ n + j0 := hn0
  clear hn0
  go_cut [38] (fun s38 wx => s38 = .bool (Rx.has (tx s) 94 j0) ∧ At w wx p s j0 d 0 pos [(w.heap.size + 1, [.int .u8 99, .bool false, .slice none 0 0, .slice none 0 0]), (w.heap.size, [.int .u8 0, .bool false, .slice none 0 0, .slice none 0 0])] [])
  case first =>
    obtain ⟨c0, c1, c2, c3, c4, f1, f2⟩ := A2.pt.cells0
    cases hno : Rx.has (tx s) 94 j0
    all_goals have Hno := Lib.hid hno
    case' true =>
      obtain ⟨hlt, h94⟩ := has_true hno
      have e94 : ((s[j0].toNat : Int) == 94) = true := eq_u8 _ 94 h94
      have hd : decide (j0 < s.size) = true := by simpa using hlt
      clear hno h94
    case' false =>
      have hcase : (decide (j0 < s.size) = false) ∨ (decide (j0 < s.size) = true ∧ ∃ h : j0 < s.size, s[j0].toNat ≠ 94) := by
        rcases has_false hno with h1 | ⟨h1, h2⟩
        · left; simp; omega
        · right; exact ⟨by simpa using h1, h1, h2⟩
      clear hno
      rcases hcase with hd | ⟨hd, hlt, h94⟩
      case' inr => have e94 : ((s[j0].toNat : Int) == 94) = false := ne_u8 _ 94 h94
    all_goals
      go_quiet (fail)
      go_wp2_with fail
      go_meet
      exact ⟨by rw [Hno.out], A2.drewN nq⟩
  case rest =>
    obtain ⟨rfl, A3⟩ := hcut
    clear A2
    go_upto_if 38 with (fail)
    go_cut [] (fun wx => ∃ no j1, At w wx p s j1 d 0 pos [(w.heap.size + 1, [.int .u8 99, .bool no, .slice none 0 0, .slice none 0 0]), (w.heap.size, [.int .u8 0, .bool false, .slice none 0 0, .slice none 0 0])] [] ∧ no = Rx.has (tx s) 94 j0 ∧ j1 = if Rx.has (tx s) 94 j0 then j0 + 1 else j0)
    case first =>
      obtain ⟨c0, c1, c2, c3, c4, f1, f2⟩ := A3.pt.cells0
      obtain ⟨n0, n1, n2, n3, g0, g1, g2, g3⟩ := A3.own
      have hpl := A3.plt
      cases hno : Rx.has (tx s) 94 j0
      · go_wp2_with fail
        go_meet
        exact ⟨_, _, A3, hno.symm, by simp [hno]⟩
      · have A4 := (A3.store1 1 (.bool true)).setAt (j0 + 1) ((j0 : Int) + 1) (by omega)
        simp only [List.set_cons_succ, List.set_cons_zero] at A4
        go_wp2_with fail
        go_meet
        exact ⟨_, _, A4, hno.symm, by simp [hno]⟩
    case rest =>
    obtain ⟨no, j1, A4, hno, hjj⟩ := hcut
    have Hok : Hid (∀ f j, Rx.mem2 (tx s) n Rx.noSet j1 = .ok (f, j) → RES = .ok (.set (if no then Rx.notSet f else f), j)) := Lib.hid (fun f j e => by
      rw [Hcl.out, ← hjj, ← hno, e]; rfl)
    have Hbad : Hid (∀ k c, Rx.mem2 (tx s) n Rx.noSet j1 = .bad k c → RES = .bad k c) := Lib.hid (fun k c e => by
      rw [Hcl.out, ← hjj, e]; rfl)
    have hj2 : j1 ≤ s.size := by
      rw [hjj]; split
      · rename_i h; obtain ⟨h, _⟩ := has_true h; omega
      · exact hj1
    have hn2 : s.size + 1 ≤ n + j1 := by
      rw [hjj]; split <;> omega
    clear hno hjj Hcl A3 hj1 hn1 hjb
    go_wp2_with fail
    obtain ⟨G, hGG⟩ : ∃ G, G = Rx.mem2 (tx s) n Rx.noSet j1 := ⟨_, rfl⟩
    rw [← hGG] at Hok Hbad
    have HGG := Lib.hid hGG
    clear hGG
    go_loopw [4] (fun _ wr => SetRun w p s d w.heap.size (w.heap.size + 1) no G wr) (fun _ wr => leftOf s.size wr p)
    case atStart =>
      exact .inl ⟨j1, pos, none, 0, 0, [], [], n, Rx.noSet, A4.tree0 (.cls (World.ownsRow_nil _ _ _ _)), HGG.out.symm, fun c _ => rfl, Nat.zero_le _, hj2, hn2⟩
    case round =>
      clear A4
      rcases hrel with ⟨j, pos', a, nn, cc, l, F, m, f, A, hG, hf, hl, hj, hm⟩ | ⟨j, k, c, x0, x1, x2, x3, A, hc, hj, hG⟩
      · obtain ⟨m, rfl⟩ : ∃ m', m = m' + 1 := ⟨m - 1, by omega⟩
        unfold Rx.mem2 at hG
        have hpl := A.plt
        obtain ⟨c0, c1, c2, c3, c4, f1, f2⟩ := A.pt.cells0
        go_wp2_with fail
        go_at_call 54
        refine (refbyte1_any wr p s j d pos' A.pt hj hs).mono ?_
        rintro e w1 hb
        clear c0 c1 c2 c3 c4 f1 f2
        rcases A.bnext hb with ⟨x, j1, pos1, hg1, rfl, B1⟩ | ⟨k, c', i', hg1, rfl, hi', hc', B1⟩
        · obtain ⟨hj1, hj1'⟩ := Rx.mem_lt hg1
          simp only [ByteArray.size_data, Array.length_toList] at hj1'
          rw [hg1] at hG
          simp only [Got.bind] at hG
          clear hg1 hb
          have hjb : j1 ≤ 1000 := by omega
          go_wp2_with fail
          go_cut [86] (fun v wx => v = .bool (Rx.has (tx s) 45 j1) ∧ At w wx p s j1 d 0 pos1 [(w.heap.size + 1, [.int .u8 99, .bool no, .slice a nn cc, .slice none 0 0]), (w.heap.size, [.int .u8 0, .bool false, .slice none 0 0, .slice none 0 0])] [(⟨99, no, a, nn, cc, none, 0, 0⟩, .cls no l, F)])
          case first =>
            obtain ⟨c0, c1, c2, c3, c4, f1, f2⟩ := B1.pt.cells0
            cases h45 : Rx.has (tx s) 45 j1
            all_goals have H45 := Lib.hid h45
            case' true =>
              obtain ⟨hlt, h4⟩ := has_true h45
              have e4 : ((s[j1].toNat : Int) == 45) = true := eq_u8 _ 45 h4
              have hd : decide (j1 < s.size) = true := by simpa using hlt
              clear h45 h4
            case' false =>
              have hcase : (decide (j1 < s.size) = false) ∨ (decide (j1 < s.size) = true ∧ ∃ h : j1 < s.size, s[j1].toNat ≠ 45) := by
                rcases has_false h45 with h1 | ⟨h1, h2⟩
                · left; simp; omega
                · right; exact ⟨by simpa using h1, h1, h2⟩
              clear h45
              rcases hcase with hd | ⟨hd, hlt, h4⟩
              case' inr => have e4 : ((s[j1].toNat : Int) == 45) = false := ne_u8 _ 45 h4
            all_goals
              go_quiet (fail)
              go_wp2_with fail
              go_meet
              exact ⟨by rw [H45.out], B1.drewN nq⟩
          case rest =>
          obtain ⟨rfl, B2⟩ := hcut
          clear B1
          obtain ⟨w2, rfl⟩ : ∃ w2, w2 = wc := ⟨_, rfl⟩
          cases h45 : Rx.has (tx s) 45 j1
          · rw [h45] at hG
            simp only [Bool.false_eq_true, if_false, Got.bind] at hG
            clear h45
            obtain ⟨c0, c1, c2, c3, c4, f1, f2⟩ := B2.pt.cells0
            obtain ⟨n0, n1, n2, n3, g0, g1, g2, g3⟩ := B2.own
            obtain ⟨a1, n1, k1, e1, hn1', hrow, hFF⟩ := NRep.cls_inv (B2.tree _ (List.mem_cons_self ..))
            simp only [NC.mk.injEq, true_and, and_true] at e1
            obtain ⟨rfl, rfl, rfl⟩ := e1
            subst hn1'
            have Hrow := Lib.hid hrow
            clear hrow hFF
            go_wp2_with (at_builtin; refine wpList_append_lies _ (by rfl) _ _ _ (by rfl) 0 83 i0 _ 2 2 Try.underlying27 hi0 hz0 hz1 hz2 rfl (by omega) _ _ _ (by rfl) (Hrow.out.alloc _)
                           ⟨w2.heap.size, 0, none⟩ 1 1 [.int .u8 (x : Int), .int .u8 (x : Int)] (by rfl) (by rfl) (World.news_of_block (cs := #[.int .u8 (x : Int), .int .u8 (x : Int)]) (t := 83) (fr := (0, 0)) (heap_alloc_at (w := w2) (by simp))) (by simp [Value.oneCell'])
                           (by omega) (by unfold maxLen; omega) (by omega) (by simp) (w2.heap.size + 1) (by simp) ?_
                         intro g cap wA hown hgrow hat hlt
                         have A4 := At.grow_set (x := x) (y := x) B2 _ hown hgrow hat hlt
                         clear hown hgrow hat hlt Hrow
                         obtain ⟨n0, n1, n2, n3, g0, g1, g2, g3⟩ := A4.own
                         have A5 := A4.store1 2 (.slice (some ⟨g, 0, none⟩) (l.length + 1) cap)
                         simp only [List.set_cons_succ, List.set_cons_zero] at A5)
            generalize wA.setCell ⟨w.heap.size + 1, 2, none⟩ (.slice (some ⟨g, 0, none⟩) (l.length + 1) cap) = w5 at *
            clear n0 n1 n2 n3 g0 g1 g2 g3 A4 c0 c1 c2 c3 c4 f1 f2
            have hJb : j1 ≤ 1000 := by omega
            go_cut [149] (fun v wx => v = .bool (Rx.has (tx s) 93 j1) ∧ At w wx p s j1 d 0 pos1 [(w.heap.size + 1, [.int .u8 99, .bool no, .slice (some ⟨g, 0, none⟩) (l.length + 1) cap, .slice none 0 0]), (w.heap.size, [.int .u8 0, .bool false, .slice none 0 0, .slice none 0 0])] [(⟨99, no, some ⟨g, 0, none⟩, l.length + 1, cap, none, 0, 0⟩, .cls no (l ++ [(x, x)]), [g])])
            case first =>
              obtain ⟨c0, c1, c2, c3, c4, f1, f2⟩ := A5.pt.cells0
              cases h93 : Rx.has (tx s) 93 j1
              all_goals have H93 := Lib.hid h93
              case' true =>
                obtain ⟨hlt, h9⟩ := has_true h93
                have e9 : ((s[j1].toNat : Int) == 93) = true := eq_u8 _ 93 h9
                have hd : decide (j1 < s.size) = true := by simpa using hlt
                clear h93 h9
              case' false =>
                have hcase : (decide (j1 < s.size) = false) ∨ (decide (j1 < s.size) = true ∧ ∃ h : j1 < s.size, s[j1].toNat ≠ 93) := by
                  rcases has_false h93 with h1 | ⟨h1, h2⟩
                  · left; simp; omega
                  · right; exact ⟨by simpa using h1, h1, h2⟩
                clear h93
                rcases hcase with hd | ⟨hd, hlt, h9⟩
                case' inr => have e9 : ((s[j1].toNat : Int) == 93) = false := ne_u8 _ 93 h9
              all_goals
                go_quiet (fail)
                go_wp2_with fail
                go_meet
                exact ⟨by rw [H93.out], A5.drewN nq⟩
            case rest =>
            obtain ⟨rfl, A6⟩ := hcut
            clear A5
            cases h93 : Rx.has (tx s) 93 j1
            · rw [h93, if_neg (by decide)] at hG
              have HG := Lib.hid hG
              have Hf := Lib.hid hf
              have hm1 := Lib.hid (A6.pt.left0 s.size)
              have hm2 := Lib.hid (A.pt.left0 s.size)
              clear h93 hG hf
              go_wp2_with fail
              go_roundw
              case rel => exact .inl ⟨j1, _, _, _, _, _, _, _, _, A6, HG.out, inSet_snoc Hf.out x x, by simp; omega, by omega, by omega⟩
              case measure => rw [hm1.out, hm2.out]; omega
            · obtain ⟨hlt, h9⟩ := has_true h93
              rw [h93, if_pos rfl] at hG
              have HG := Lib.hid hG
              have hpl := A6.plt
              clear h9 h93 hG
              have A7 := A6.setAt (j1 + 1) ((j1 : Int) + 1) (by omega)
              obtain ⟨c0, c1, c2, c3, c4, f1, f2⟩ := A6.pt.cells0
              obtain ⟨n0, n1, n2, n3, g0, g1, g2, g3⟩ := A6.own
              obtain ⟨r0, r1, r2, r3, q0, q1, q2, q3⟩ := A6.own2
              go_wp2
              have A8 := A7.swap.store4 (.int .u8 99) (.bool no) (.slice (some ⟨g, 0, none⟩) (l.length + 1) cap) (.slice none 0 0)
              exact bodyPost_ret (A8.done rfl rfl) rfl (A8.ends_ok (Hok.out _ _ HG.out.symm) rfl (set_corr (inSet_snoc hf x x) _) rfl)

          · rw [h45] at hG
            simp only [if_true, Got.bind] at hG
            obtain ⟨hlt1, _⟩ := has_true h45
            clear h45
            obtain ⟨c0, c1, c2, c3, c4, f1, f2⟩ := B2.pt.cells0
            have B3 := B2.setAt (j1 + 1) ((j1 : Int) + 1) (by omega)
            go_wp2_with fail
            clear c0 c1 c2 c3 c4 f1 f2
            generalize w2.setCell ⟨p, 1, none⟩ (.int .i64 ((j1 : Int) + 1)) = w3 at *
            clear B2
            go_at_call 54
            refine (refbyte1_any w3 p s (j1 + 1) d pos1 B3.pt (by omega) hs).mono ?_
            rintro e w4 hb
            rcases B3.bnext hb with ⟨y, j2, pos2, hg2, rfl, B4⟩ | ⟨k, c', i', hg2, rfl, hi', hc', B4⟩
            · obtain ⟨hj2', hj2''⟩ := Rx.mem_lt hg2
              simp only [ByteArray.size_data, Array.length_toList] at hj2''
              rw [hg2] at hG
              simp only [Got.bind] at hG
              clear hg2 hb B3
              obtain ⟨c0, c1, c2, c3, c4, f1, f2⟩ := B4.pt.cells0
              by_cases hyx : y < x
              · rw [if_pos hyx] at hG
                have HG := Lib.hid hG.symm
                have hyd : decide (y < x) = true := by simpa using hyx
                clear hG
                go_wp2_with fail
                go_at_call 22
                refine (B4.fail 2 (j1 + 1) _ _ rfl (by omega)).mono ?_
                rintro e w2 ⟨rfl, B5⟩
                have hc' : 2 ≠ 0 := by decide
                have hi' : j2 ≤ s.size := hj2''
                have hcb : ((2 : Int) == 0) = false := rfl
                clear B4 c0 c1 c2 c3 c4 f1 f2
                obtain ⟨c0, c1, c2, c3, c4, f1, f2⟩ := B5.pt.cells
                obtain ⟨n0, n1, n2, n3, g0, g1, g2, g3⟩ := B5.own
                obtain ⟨a1, n1, k1, e1, hn1', hrow, hFF⟩ := NRep.cls_inv (B5.tree _ (List.mem_cons_self ..))
                simp only [NC.mk.injEq, true_and, and_true] at e1
                obtain ⟨rfl, rfl, rfl⟩ := e1
                subst hn1'
                have Hrow := Lib.hid hrow
                have HFF := Lib.hid hFF
                clear hrow hFF
                go_wp2_with (at_builtin; refine wpList_append_lies _ (by rfl) _ _ _ (by rfl) 0 83 i0 _ 2 2 Try.underlying27 hi0 hz0 hz1 hz2 rfl (by omega) _ _ _ (by rfl) (Hrow.out.alloc _)
                               ⟨w2.heap.size, 0, none⟩ 1 1 [.int .u8 (x : Int), .int .u8 (y : Int)] (by rfl) (by rfl) (World.news_of_block (cs := #[.int .u8 (x : Int), .int .u8 (y : Int)]) (t := 83) (fr := (0, 0)) (heap_alloc_at (w := w2) (by simp))) (by simp [Value.oneCell'])
                               (by omega) (by unfold maxLen; omega) (by omega) (by simp) (w2.heap.size + 1) (by simp) ?_
                             intro g cap wA hown hgrow hat hlt
                             have A4 := At.lost B5 _ hgrow (fun k e => List.mem_flatMap.2 ⟨_, List.mem_cons_self .., by have h8 := HFF.out; dsimp only at h8 ⊢; rw [h8, e]; simp⟩)
                             clear hown hgrow hat hlt Hrow HFF
                             obtain ⟨n0, n1, n2, n3, g0, g1, g2, g3⟩ := A4.own
                             have A5 := A4.store1 2 (.slice (some ⟨g, 0, none⟩) (l.length + 1) cap)
                             simp only [List.set_cons_succ, List.set_cons_zero] at A5)
                generalize wA.setCell ⟨w.heap.size + 1, 2, none⟩ (.slice (some ⟨g, 0, none⟩) (l.length + 1) cap) = w5 at *
                clear n0 n1 n2 n3 g0 g1 g2 g3 A4
                obtain ⟨c0, c1, c2, c3, c4, f1, f2⟩ := A5.pt.cells
                have hm1 := Lib.hid ((A5.drewN 0).pt.left1 hc' s.size)
                go_quiet (fail)
                have A6 := A5.drewN nq
                have hm3 := Lib.hid (A6.pt.left1 hc' s.size)
                have hm2 := Lib.hid (A.pt.left0 s.size)
                go_wp2_with fail
                go_roundw
                case rel => exact .inr ⟨_, _, _, _, _, _, _, A6, hc', hi', HG.out⟩
                case measure => rw [hm3.out, hm2.out]; omega

              · rw [if_neg hyx] at hG
                simp only [] at hG
                have hyd : decide (y < x) = false := by simpa using hyx
                obtain ⟨n0, n1, n2, n3, g0, g1, g2, g3⟩ := B4.own
                obtain ⟨w2, hw2⟩ : ∃ w2, w2 = w4 := ⟨_, rfl⟩
                subst hw2
                obtain ⟨a1, n1, k1, e1, hn1', hrow, hFF⟩ := NRep.cls_inv (B4.tree _ (List.mem_cons_self ..))
                simp only [NC.mk.injEq, true_and, and_true] at e1
                obtain ⟨rfl, rfl, rfl⟩ := e1
                subst hn1'
                have Hrow := Lib.hid hrow
                clear hrow hFF
                go_wp2_with (at_builtin; refine wpList_append_lies _ (by rfl) _ _ _ (by rfl) 0 83 i0 _ 2 2 Try.underlying27 hi0 hz0 hz1 hz2 rfl (by omega) _ _ _ (by rfl) (Hrow.out.alloc _)
                               ⟨w2.heap.size, 0, none⟩ 1 1 [.int .u8 (x : Int), .int .u8 (y : Int)] (by rfl) (by rfl) (World.news_of_block (cs := #[.int .u8 (x : Int), .int .u8 (y : Int)]) (t := 83) (fr := (0, 0)) (heap_alloc_at (w := w2) (by simp))) (by simp [Value.oneCell'])
                               (by omega) (by unfold maxLen; omega) (by omega) (by simp) (w2.heap.size + 1) (by simp) ?_
                             intro g cap wA hown hgrow hat hlt
                             have A4 := At.grow_set (x := x) (y := y) B4 _ hown hgrow hat hlt
                             clear hown hgrow hat hlt Hrow
                             obtain ⟨n0, n1, n2, n3, g0, g1, g2, g3⟩ := A4.own
                             have A5 := A4.store1 2 (.slice (some ⟨g, 0, none⟩) (l.length + 1) cap)
                             simp only [List.set_cons_succ, List.set_cons_zero] at A5)
                generalize wA.setCell ⟨w.heap.size + 1, 2, none⟩ (.slice (some ⟨g, 0, none⟩) (l.length + 1) cap) = w5 at *
                clear n0 n1 n2 n3 g0 g1 g2 g3 A4 c0 c1 c2 c3 c4 f1 f2
                have hJb : j2 ≤ 1000 := by omega
                go_cut [149] (fun v wx => v = .bool (Rx.has (tx s) 93 j2) ∧ At w wx p s j2 d 0 pos2 [(w.heap.size + 1, [.int .u8 99, .bool no, .slice (some ⟨g, 0, none⟩) (l.length + 1) cap, .slice none 0 0]), (w.heap.size, [.int .u8 0, .bool false, .slice none 0 0, .slice none 0 0])] [(⟨99, no, some ⟨g, 0, none⟩, l.length + 1, cap, none, 0, 0⟩, .cls no (l ++ [(x, y)]), [g])])
                case first =>
                  obtain ⟨c0, c1, c2, c3, c4, f1, f2⟩ := A5.pt.cells0
                  cases h93 : Rx.has (tx s) 93 j2
                  all_goals have H93 := Lib.hid h93
                  case' true =>
                    obtain ⟨hlt, h9⟩ := has_true h93
                    have e9 : ((s[j2].toNat : Int) == 93) = true := eq_u8 _ 93 h9
                    have hd : decide (j2 < s.size) = true := by simpa using hlt
                    clear h93 h9
                  case' false =>
                    have hcase : (decide (j2 < s.size) = false) ∨ (decide (j2 < s.size) = true ∧ ∃ h : j2 < s.size, s[j2].toNat ≠ 93) := by
                      rcases has_false h93 with h1 | ⟨h1, h2⟩
                      · left; simp; omega
                      · right; exact ⟨by simpa using h1, h1, h2⟩
                    clear h93
                    rcases hcase with hd | ⟨hd, hlt, h9⟩
                    case' inr => have e9 : ((s[j2].toNat : Int) == 93) = false := ne_u8 _ 93 h9
                  all_goals
                    go_quiet (fail)
                    go_wp2_with fail
                    go_meet
                    exact ⟨by rw [H93.out], A5.drewN nq⟩
                case rest =>
                obtain ⟨rfl, A6⟩ := hcut
                clear A5
                cases h93 : Rx.has (tx s) 93 j2
                · rw [h93, if_neg (by decide)] at hG
                  have HG := Lib.hid hG
                  have Hf := Lib.hid hf
                  have hm1 := Lib.hid (A6.pt.left0 s.size)
                  have hm2 := Lib.hid (A.pt.left0 s.size)
                  clear h93 hG hf
                  go_wp2_with fail
                  go_roundw
                  case rel => exact .inl ⟨j2, _, _, _, _, _, _, _, _, A6, HG.out, inSet_snoc Hf.out x y, by simp; omega, by omega, by omega⟩
                  case measure => rw [hm1.out, hm2.out]; omega
                · obtain ⟨hlt, h9⟩ := has_true h93
                  rw [h93, if_pos rfl] at hG
                  have HG := Lib.hid hG
                  have hpl := A6.plt
                  clear h9 h93 hG
                  have A7 := A6.setAt (j2 + 1) ((j2 : Int) + 1) (by omega)
                  obtain ⟨c0, c1, c2, c3, c4, f1, f2⟩ := A6.pt.cells0
                  obtain ⟨n0, n1, n2, n3, g0, g1, g2, g3⟩ := A6.own
                  obtain ⟨r0, r1, r2, r3, q0, q1, q2, q3⟩ := A6.own2
                  go_wp2
                  have A8 := A7.swap.store4 (.int .u8 99) (.bool no) (.slice (some ⟨g, 0, none⟩) (l.length + 1) cap) (.slice none 0 0)
                  exact bodyPost_ret (A8.done rfl rfl) rfl (A8.ends_ok (Hok.out _ _ HG.out.symm) rfl (set_corr (inSet_snoc hf x y) _) rfl)

            · rw [hg2] at hG
              simp only [Got.bind] at hG
              have HG := Lib.hid hG.symm
              have hcb : ((c' : Int) == 0) = false := ne_u8 _ 0 hc'
              clear hg2 hb hG B3
              obtain ⟨c0, c1, c2, c3, c4, f1, f2⟩ := B4.pt.cells
              obtain ⟨n0, n1, n2, n3, g0, g1, g2, g3⟩ := B4.own
              obtain ⟨a1, n1, k1, e1, hn1', hrow, hFF⟩ := NRep.cls_inv (B4.tree _ (List.mem_cons_self ..))
              simp only [NC.mk.injEq, true_and, and_true] at e1
              obtain ⟨rfl, rfl, rfl⟩ := e1
              subst hn1'
              have Hrow := Lib.hid hrow
              have HFF := Lib.hid hFF
              clear hrow hFF
              go_wp2_with (at_builtin; refine wpList_append_lies _ (by rfl) _ _ _ (by rfl) 0 83 i0 _ 2 2 Try.underlying27 hi0 hz0 hz1 hz2 rfl (by omega) _ _ _ (by rfl) (Hrow.out.alloc _)
                             ⟨w4.heap.size, 0, none⟩ 1 1 [.int .u8 (x : Int), .int .u8 0] (by rfl) (by rfl) (World.news_of_block (cs := #[.int .u8 (x : Int), .int .u8 0]) (t := 83) (fr := (0, 0)) (heap_alloc_at (w := w4) (by simp))) (by simp [Value.oneCell'])
                             (by omega) (by unfold maxLen; omega) (by omega) (by simp) (w4.heap.size + 1) (by simp) ?_
                           intro g cap wA hown hgrow hat hlt
                           have A4 := At.lost B4 _ hgrow (fun k e => List.mem_flatMap.2 ⟨_, List.mem_cons_self .., by have h8 := HFF.out; dsimp only at h8 ⊢; rw [h8, e]; simp⟩)
                           clear hown hgrow hat hlt Hrow HFF
                           obtain ⟨n0, n1, n2, n3, g0, g1, g2, g3⟩ := A4.own
                           have A5 := A4.store1 2 (.slice (some ⟨g, 0, none⟩) (l.length + 1) cap)
                           simp only [List.set_cons_succ, List.set_cons_zero] at A5)
              generalize wA.setCell ⟨w.heap.size + 1, 2, none⟩ (.slice (some ⟨g, 0, none⟩) (l.length + 1) cap) = w5 at *
              clear n0 n1 n2 n3 g0 g1 g2 g3 A4
              obtain ⟨c0, c1, c2, c3, c4, f1, f2⟩ := A5.pt.cells
              have hm1 := Lib.hid ((A5.drewN 0).pt.left1 hc' s.size)
              go_quiet (fail)
              have A6 := A5.drewN nq
              have hm3 := Lib.hid (A6.pt.left1 hc' s.size)
              have hm2 := Lib.hid (A.pt.left0 s.size)
              go_wp2_with fail
              go_roundw
              case rel => exact .inr ⟨_, _, _, _, _, _, _, A6, hc', hi', HG.out⟩
              case measure => rw [hm3.out, hm2.out]; omega

        · rw [hg1] at hG
          simp only [Got.bind] at hG
          have HG := Lib.hid hG.symm
          have hcb : ((c' : Int) == 0) = false := ne_u8 _ 0 hc'
          clear hg1 hb hG
          obtain ⟨c0, c1, c2, c3, c4, f1, f2⟩ := B1.pt.cells
          obtain ⟨n0, n1, n2, n3, g0, g1, g2, g3⟩ := B1.own
          go_wp2_with fail
          go_quiet (fail)
          have B2 := B1.drewN nq
          generalize w1.drewN nq = w2 at *
          clear B1 c0 c1 c2 c3 c4 f1 f2 n0 n1 n2 n3 g0 g1 g2 g3
          obtain ⟨c0, c1, c2, c3, c4, f1, f2⟩ := B2.pt.cells
          obtain ⟨n0, n1, n2, n3, g0, g1, g2, g3⟩ := B2.own
          obtain ⟨a1, n1, k1, e1, hn1', hrow, hFF⟩ := NRep.cls_inv (B2.tree _ (List.mem_cons_self ..))
          simp only [NC.mk.injEq, true_and, and_true] at e1
          obtain ⟨rfl, rfl, rfl⟩ := e1
          subst hn1'
          have Hrow := Lib.hid hrow
          have HFF := Lib.hid hFF
          clear hrow hFF
          go_wp2_with (at_builtin; refine wpList_append_lies _ (by rfl) _ _ _ (by rfl) 0 83 i0 _ 2 2 Try.underlying27 hi0 hz0 hz1 hz2 rfl (by omega) _ _ _ (by rfl) (Hrow.out.alloc _)
                         ⟨w2.heap.size, 0, none⟩ 1 1 [.int .u8 0, .int .u8 0] (by rfl) (by rfl) (World.news_of_block (cs := #[.int .u8 0, .int .u8 0]) (t := 83) (fr := (0, 0)) (heap_alloc_at (w := w2) (by simp))) (by simp [Value.oneCell'])
                         (by omega) (by unfold maxLen; omega) (by omega) (by simp) (w2.heap.size + 1) (by simp) ?_
                       intro g cap wA hown hgrow hat hlt
                       have A4 := At.lost B2 _ hgrow (fun k e => List.mem_flatMap.2 ⟨_, List.mem_cons_self .., by have h8 := HFF.out; dsimp only at h8 ⊢; rw [h8, e]; simp⟩)
                       clear hown hgrow hat hlt Hrow HFF
                       obtain ⟨n0, n1, n2, n3, g0, g1, g2, g3⟩ := A4.own
                       have A5 := A4.store1 2 (.slice (some ⟨g, 0, none⟩) (l.length + 1) cap)
                       simp only [List.set_cons_succ, List.set_cons_zero] at A5)
          generalize wA.setCell ⟨w.heap.size + 1, 2, none⟩ (.slice (some ⟨g, 0, none⟩) (l.length + 1) cap) = w5 at *
          clear n0 n1 n2 n3 g0 g1 g2 g3 A4
          obtain ⟨c0, c1, c2, c3, c4, f1, f2⟩ := A5.pt.cells
          have hm1 := Lib.hid ((A5.drewN 0).pt.left1 hc' s.size)
          go_quiet (fail)
          have A6 := A5.drewN nq
          have hm3 := Lib.hid (A6.pt.left1 hc' s.size)
          have hm2 := Lib.hid (A.pt.left0 s.size)
          go_wp2_with fail
          go_roundw
          case rel => exact .inr ⟨_, _, _, _, _, _, _, A6, hc', hi', HG.out⟩
          case measure => rw [hm3.out, hm2.out]; omega

      · have HG := Lib.hid hG
        have hcb : ((c : Int) == 0) = false := ne_u8 _ 0 hc
        obtain ⟨c0, c1, c2, c3, c4, f1, f2⟩ := A.pt.cells
        obtain ⟨r0, r1, r2, r3, q0, q1, q2, q3⟩ := A.own2
        clear hG
        go_wp2
        have A7 := A.swap.store4 (.int .u8 0) (.bool false) (.slice none 0 0) (.slice none 0 0)
        exact bodyPost_ret (A7.done rfl rfl) rfl (A7.ends_bad (Hbad.out _ _ HG.out) hc hj nc0 rfl)


end Go.Proofs.Ytnbghiaggapoiaa
