/- The reference's reader: a row. (Printed by genrowref.py.) -/
import Derived.Test.YtnbghiaggapoiaaRefAtom
import Derived.Test.YtnbghiaggapoiaaRefWrap
import Derived.RegionTactic
import Derived.ChangeAlike
import Derived.Deep.DeepCutAuto
namespace Go.Proofs.Ytnbghiaggapoiaa
set_option linter.unusedSimpArgs false
set_option linter.unusedVariables false
open Go.RowKit Go.Proofs
open Rx (NS Got)

theorem Try.infoNode : (Try.prog.info? 30).map (fun i => (i.zero, i.size, i.bytes)) = some (some (.agg #[.int .u8 0, .bool false, .slice none 0 0, .slice none 0 0]), 4, 56) := by kernel_rfl

/-- At the head of a round: a row so far, or an error. -/
def RowRun (w : World) (p : Nat) (s : ByteArray) (d R N M : Nat) (RES : Got (Rx.Re × Nat)) (wr : World) : Prop :=
  (∃ j pos a n c l F acc m, At w wr p s j d 0 pos [(N, [.int .u8 38, .bool false, .slice none 0 0, .slice a n c]), (R, [.int .u8 0, .bool false, .slice none 0 0, .slice none 0 0])] [(⟨38, false, none, 0, 0, a, n, c⟩, .row l, F)] ∧
    ((acc = none ∧ l = []) ∨ ∃ r, acc = some r ∧ CorrRow l r) ∧ RES = ((Rx.part (tx s) (m + 1) d j).bind fun x => Rx.parts (tx s) (m + 1) (Rx.joined acc x.1) d x.2) ∧ 4 * (s.size - j) + 1 ≤ m ∧ j ≤ s.size ∧ l.length ≤ j ∧ m ≤ M) ∨
  (∃ j k c a n cc, At w wr p s j d c k [(N, [.int .u8 38, .bool false, .slice none 0 0, .slice a n cc]), (R, [.int .u8 0, .bool false, .slice none 0 0, .slice none 0 0])] [] ∧ c ≠ 0 ∧ j ≤ s.size ∧ RES = .bad k c)

theorem mark_cases (s : ByteArray) (j : Nat) : (Rx.mark (tx s) j = false ∧ decide (j < s.size) = false) ∨ (decide (j < s.size) = true ∧ ∃ h : j < s.size, (Rx.mark (tx s) j = true ∧ s[j].toNat = 42) ∨ (Rx.mark (tx s) j = true ∧ s[j].toNat ≠ 42 ∧ s[j].toNat = 43) ∨
    (Rx.mark (tx s) j = true ∧ s[j].toNat ≠ 42 ∧ s[j].toNat ≠ 43 ∧ s[j].toNat = 63) ∨ (Rx.mark (tx s) j = false ∧ s[j].toNat ≠ 42 ∧ s[j].toNat ≠ 43 ∧ s[j].toNat ≠ 63)) := by
  unfold Rx.mark Rx.has
  by_cases h : j < s.size
  · right
    refine ⟨by simpa using h, h, ?_⟩
    rw [bt_get s j h]
    have hl : decide (j < (tx s).length) = true := by simpa using h
    rw [hl]
    simp only [Bool.true_and]
    by_cases h1 : s[j].toNat = 42
    · exact .inl ⟨by simp [h1], h1⟩
    · by_cases h2 : s[j].toNat = 43
      · exact .inr (.inl ⟨by simp [h2], h1, h2⟩)
      · by_cases h3 : s[j].toNat = 63
        · exact .inr (.inr (.inl ⟨by simp [h3], h1, h2, h3⟩))
        · exact .inr (.inr (.inr ⟨by simp [h1, h2, h3], h1, h2, h3⟩))
  · left
    have hl : decide (j < (tx s).length) = false := by simpa using h
    rw [hl]
    exact ⟨rfl, by simpa using h⟩

theorem stop_cases (s : ByteArray) (j : Nat) : (Rx.stop (tx s) j = true ∧ decide (s.size ≤ j) = true) ∨ (decide (s.size ≤ j) = false ∧ ∃ h : j < s.size, (Rx.stop (tx s) j = true ∧ s[j].toNat = 124) ∨ (Rx.stop (tx s) j = true ∧ s[j].toNat ≠ 124 ∧ s[j].toNat = 41) ∨
    (Rx.stop (tx s) j = false ∧ s[j].toNat ≠ 124 ∧ s[j].toNat ≠ 41)) := by
  unfold Rx.stop Rx.has
  by_cases h : j < s.size
  · right
    refine ⟨by simpa using h, h, ?_⟩
    rw [bt_get s j h]
    have hl : decide (j < (tx s).length) = true := by simpa using h
    have hl2 : decide ((tx s).length ≤ j) = false := by simpa using h
    rw [hl, hl2]
    simp only [Bool.true_and, Bool.false_or]
    by_cases h1 : s[j].toNat = 124
    · exact .inl ⟨by simp [h1], h1⟩
    · by_cases h2 : s[j].toNat = 41
      · exact .inr (.inl ⟨by simp [h2], h1, h2⟩)
      · exact .inr (.inr ⟨by simp [h1, h2], h1, h2⟩)
  · left
    have hl2 : decide ((tx s).length ≤ j) = true := by simpa using h
    rw [hl2]
    exact ⟨rfl, by simpa using h⟩

theorem corr_joined {l : List Nd} {acc : Option Rx.Re} {nd : Nd} {r : Rx.Re} (h : (acc = none ∧ l = []) ∨ ∃ r, acc = some r ∧ CorrRow l r) (hc : Corr nd r) : CorrRow (l ++ [nd]) (Rx.joined acc r) := by
  rcases h with ⟨rfl, rfl⟩ | ⟨a, rfl, ha⟩
  · exact .one hc
  · exact .snoc ha hc

set_option maxRecDepth 100000 in
set_option maxHeartbeats 8000000 in
theorem refrow_any (n : Nat) (hA : ∀ k, k < n → RAtomOK k) : RRowOK n := by
  intro w p s i d pos h hs hi hd hn
  obtain ⟨i0, hi0, hz0, hz1, hz2⟩ := info_parts Try.infoNode
  have A1 := ((At.start h).alloc [.int .u8 0, .bool false, .slice none 0 0, .slice none 0 0]).alloc [.int .u8 38, .bool false, .slice none 0 0, .slice none 0 0]
  rw [show (w.alloc (.cells [Value.int .u8 0, .bool false, .slice none 0 0, .slice none 0 0].toArray 30)).heap.size = w.heap.size + 1 from by simp] at A1
  obtain ⟨m, rfl⟩ : ∃ m, n = m + 2 := ⟨n - 2, by omega⟩
  have hr0 := Rx.row_succ (tx s) (m + 1) d i
  generalize Rx.row (tx s) (m + 2) d i = RES at hr0 ⊢
  have HA := Lib.hid hA
  have HR0 := Lib.hid hr0
  clear hA hr0 h
  go_enter Try.func33, Try.ntmps33
  go_wp2_with fail
  generalize (w.alloc (.cells #[.int .u8 0, .bool false, .slice none 0 0, .slice none 0 0] 30)).alloc (.cells #[.int .u8 38, .bool false, .slice none 0 0, .slice none 0 0] 30) = W1 at *
  go_loopw [4] (fun _ wr => RowRun w p s d w.heap.size (w.heap.size + 1) m RES wr) (fun _ wr => leftOf s.size wr p)
  case atStart =>
    exact .inl ⟨i, pos, none, 0, 0, [], [], none, m, A1.tree0 (.kids (ncs := []) (G := []) (.row []) (World.ownsRow_nil _ _ _ _) .nil), .inl ⟨rfl, rfl⟩, HR0.out, by omega, hi, Nat.zero_le _, Nat.le_refl _⟩
  case round =>
    clear A1 HR0 hn hi
    rcases hrel with ⟨j, pos', a, nn, cc, l, F, acc, mm, A, hacc, hR, hm, hj, hl, hmM⟩ | ⟨j, k, c, a, nn, cc, A, hc, hj, hG⟩
    · have hpl := A.plt
      obtain ⟨c0, c1, c2, c3, c4, f1, f2⟩ := A.pt.cells0
      go_wp2_with fail
      go_at_call 40
      refine (HA.out mm (by omega) wr p s j d pos' A.pt hs hj hd (by omega)).mono ?_
      rintro e w1 he
      clear c0 c1 c2 c3 c4 f1 f2
      rcases A.next he with ⟨r, j1, ⟨op, no, sa, sn, sc, ka, kn, kc⟩, nd, G, pos1, hg, rfl, hc, B1⟩ | ⟨k, c, ⟨op, no, sa, sn, sc, ka, kn, kc⟩, i', hg, rfl, hi', hc, B1⟩
      · obtain ⟨hj1, hj2, _⟩ := (Rx.reads (tx s) mm).2.2.2.2 _ _ _ _ hg
        have hst := Rx.row_step hR (by simpa using hm) hj1 (by omega) hg
        simp only [ByteArray.size_data, Array.length_toList] at hj2
        simp only [NC.val]
        have B2 := B1.alloc [.int .u8 op, .bool no, .slice sa sn sc, .slice ka kn kc]
        have hp1 := Blk.lt B1.pt
        have hN1 := (B1.blk _ (List.mem_cons_self ..)).2.lt
        obtain ⟨w2, hw2⟩ : ∃ w2, w1.alloc (.cells #[.int .u8 (op : Int), .bool no, .slice sa sn sc, .slice ka kn kc] 30) = w2 := ⟨_, rfl⟩
        rw [hw2] at B2
        obtain ⟨K, hK⟩ : ∃ K, w1.heap.size = K := ⟨_, rfl⟩
        rw [hK] at B2 hp1 hN1
        clear he B1 hR hg
        go_wp2_with fail
        have hjb : j1 ≤ 1000 := by omega
        go_cut [65] (fun v wx => v = .bool (Rx.mark (tx s) j1) ∧ At w wx p s j1 d 0 pos1 [(K, [.int .u8 (op : Int), .bool no, .slice sa sn sc, .slice ka kn kc]), (w.heap.size + 1, [.int .u8 38, .bool false, .slice none 0 0, .slice a nn cc]), (w.heap.size, [.int .u8 0, .bool false, .slice none 0 0, .slice none 0 0])] [(⟨op, no, sa, sn, sc, ka, kn, kc⟩, nd, G), (⟨38, false, none, 0, 0, a, nn, cc⟩, .row l, F)])
        case first =>
          obtain ⟨c0, c1, c2, c3, c4, f1, f2⟩ := B2.pt.cells0
          have hcase : (Rx.mark (tx s) j1 = false ∧ decide (j1 < s.size) = false) ∨ (decide (j1 < s.size) = true ∧ ∃ h : j1 < s.size, (Rx.mark (tx s) j1 = true ∧ s[j1].toNat = 42) ∨ (Rx.mark (tx s) j1 = true ∧ s[j1].toNat ≠ 42 ∧ s[j1].toNat = 43) ∨
              (Rx.mark (tx s) j1 = true ∧ s[j1].toNat ≠ 42 ∧ s[j1].toNat ≠ 43 ∧ s[j1].toNat = 63) ∨ (Rx.mark (tx s) j1 = false ∧ s[j1].toNat ≠ 42 ∧ s[j1].toNat ≠ 43 ∧ s[j1].toNat ≠ 63)) := mark_cases s j1
          rcases hcase with ⟨hmk, hd1⟩ | ⟨hd1, hlt, ⟨hmk, h42⟩ | ⟨hmk, h42, h43⟩ | ⟨hmk, h42, h43, h63⟩ | ⟨hmk, h42, h43, h63⟩⟩
          case' inr.inl => have e42 : ((s[j1].toNat : Int) == 42) = true := eq_u8 _ 42 h42; clear h42
          case' inr.inr.inl => have e42 : ((s[j1].toNat : Int) == 42) = false := ne_u8 _ 42 h42; have e43 : ((s[j1].toNat : Int) == 43) = true := eq_u8 _ 43 h43; clear h42 h43
          case' inr.inr.inr.inl => have e42 : ((s[j1].toNat : Int) == 42) = false := ne_u8 _ 42 h42; have e43 : ((s[j1].toNat : Int) == 43) = false := ne_u8 _ 43 h43; have e63 : ((s[j1].toNat : Int) == 63) = true := eq_u8 _ 63 h63; clear h42 h43 h63
          case' inr.inr.inr.inr => have e42 : ((s[j1].toNat : Int) == 42) = false := ne_u8 _ 42 h42; have e43 : ((s[j1].toNat : Int) == 43) = false := ne_u8 _ 43 h43; have e63 : ((s[j1].toNat : Int) == 63) = false := ne_u8 _ 63 h63; clear h42 h43 h63
          all_goals
            have Hmk := Lib.hid hmk
            clear hmk
            go_quiet (fail)
            go_wp2_with fail
            go_meet
            exact ⟨by rw [Hmk.out], B2.drewN nq⟩
        case rest =>
        obtain ⟨rfl, B3⟩ := hcut
        clear B2 hw2
        obtain ⟨w3, rfl⟩ : ∃ w3, w3 = wc := ⟨_, rfl⟩
        go_upto_if 65 with (fail)
        go_cut [] (fun wx => ∃ op2 no2 sa2 sn2 sc2 ka2 kn2 kc2 nd2 G2 r2 j2, At w wx p s j2 d 0 pos1 [(K, [.int .u8 ((op2 : Nat) : Int), .bool no2, .slice sa2 sn2 sc2, .slice ka2 kn2 kc2]), (w.heap.size + 1, [.int .u8 38, .bool false, .slice none 0 0, .slice a nn cc]), (w.heap.size, [.int .u8 0, .bool false, .slice none 0 0, .slice none 0 0])] [(⟨op2, no2, sa2, sn2, sc2, ka2, kn2, kc2⟩, nd2, G2), (⟨38, false, none, 0, 0, a, nn, cc⟩, .row l, F)] ∧
          Corr nd2 r2 ∧ j1 ≤ j2 ∧ j2 ≤ s.size ∧ (Rx.stop (tx s) j2 = true → RES = .ok (Rx.joined acc r2, j2)) ∧ (Rx.stop (tx s) j2 = false → RES = (Rx.part (tx s) mm d j2).bind fun x => Rx.parts (tx s) mm (Rx.joined (some (Rx.joined acc r2)) x.1) d x.2))
        case first =>
          obtain ⟨c0, c1, c2, c3, c4, f1, f2⟩ := B3.pt.cells0
          obtain ⟨n0, n1, n2, n3, g0, g1, g2, g3⟩ := B3.own
          have hpK : p < K := hp1
          cases hmk : Rx.mark (tx s) j1
          · have Hst := Lib.hid (hst.1 hmk)
            have Hc := Lib.hid hc
            clear hst hc
            go_wp2_with fail
            go_meet
            exact ⟨_, _, _, _, _, _, _, _, _, _, _, _, B3, Hc.out, Nat.le_refl _, hj2, Hst.out.1, Hst.out.2⟩
          · obtain ⟨hlt, hc2, hop⟩ := mark_corr hmk hc
            have Hst := Lib.hid (hst.2 hmk)
            have Hc := Lib.hid hc2
            have hW1 : (j1 : Int) < s.size := by omega
            clear hst hc hc2 hop hmk
            go_wp2_with fail
            have hKl := (B3.blk _ (List.mem_cons_self ..)).2.lt
            have hpl4 := Blk.lt B3.pt
            have B5 := ((B3.store4 (.int .u8 (s[j1].toNat : Int)) (.bool false) (.slice none 0 0) (.slice (some ⟨w3.heap.size, 0, none⟩) 1 1)).setAt (j1 + 1) ((j1 : Int) + 1) (by omega)).wrap (HasKids.rep s[j1].toNat nd)
            have hsz : (((((w3.setCell ⟨K, 0, none⟩ (.int .u8 (s[j1].toNat : Int))).setCell ⟨K, 1, none⟩ (.bool false)).setCell ⟨K, 2, none⟩ (.slice none 0 0)).setCell ⟨K, 3, none⟩ (.slice (some ⟨w3.heap.size, 0, none⟩) 1 1)).setCell ⟨p, 1, none⟩ (.int .i64 ((j1 : Int) + 1))).heap.size = w3.heap.size := by simp [World.setCell]
            rw [hsz] at B5
            have B6 := B5.drewN 1
            clear B5 hsz
            go_region
            all_goals
              go_wp2_with fail
              go_meet
              exact ⟨_, _, _, _, _, _, _, _, _, _, _, _, B6, Hc.out, by omega, hlt, Hst.out.1, Hst.out.2⟩
        case rest =>
        obtain ⟨op2, no2, sa2, sn2, sc2, ka2, kn2, kc2, nd2, G2, r2, j2, C, hc2, hjj, hj2s, hs1, hs2⟩ := hcut
        obtain ⟨w5, rfl⟩ : ∃ w5, w5 = wc := ⟨_, rfl⟩
        have Hs1 := Lib.hid hs1
        have Hs2 := Lib.hid hs2
        have Hc2 := Lib.hid hc2
        have Hacc := Lib.hid hacc
        clear hs1 hs2 hc2 hacc hst hc B3
        obtain ⟨a1, n1, k1, ncs, G0, e1, hn1, hrow, hlr, hFF⟩ := NRep.kids_inv (C.tree (⟨38, false, none, 0, 0, a, nn, cc⟩, .row l, F) (by simp)) (HasKids.row l)
        simp only [NC.mk.injEq, true_and] at e1
        obtain ⟨rfl, rfl, rfl⟩ := e1
        have hnl := hlr.length
        have hnb : nn ≤ 1000 := by omega
        have Hrow := Lib.hid hrow
        have Hlr := Lib.hid hlr
        have HFF := Lib.hid hFF
        have Hn1 := Lib.hid hn1
        clear hrow hlr hFF hn1 hnl
        obtain ⟨n0, n1, n2, n3, g0, g1, g2, g3⟩ := C.own
        obtain ⟨r0, r1, r2', r3, q0, q1, q2, q3⟩ := C.own2
        go_wp2_with (at_builtin; refine wpList_append_lies _ (by rfl) _ _ _ (by rfl) 0 30 i0 _ 4 56 Try.underlying28 hi0 hz0 hz1 hz2 rfl (by omega) _ _ _ (by rfl) (Hrow.out.alloc _)
                       ⟨w5.heap.size, 0, none⟩ 1 1 [.int .u8 (op2 : Int), .bool no2, .slice sa2 sn2 sc2, .slice ka2 kn2 kc2] (by rfl) (by rfl) (World.news_of_block (cs := #[.int .u8 (op2 : Int), .bool no2, .slice sa2 sn2 sc2, .slice ka2 kn2 kc2]) (t := 30) (fr := (0, 0)) (heap_alloc_at (w := w5) (by simp))) (by simp [Value.oneCell'])
                       (by omega) (by unfold maxLen; omega) (by omega) (by simp) (w5.heap.size + 1) (by simp) ?_
                     intro g cap wA hown hgrow hat hlt
                     have A4 := (At.grow_kids C.swapT (HasKids.row l) (HasKids.row (l ++ [nd2])) Hlr.out HFF.out Hn1.out _ hown hgrow hat hlt).drop
                     clear hown hgrow hat hlt Hrow
                     obtain ⟨n0, n1, n2, n3, g0, g1, g2, g3⟩ := A4.own
                     have A5 := A4.store1 3 (.slice (some ⟨g, 0, none⟩) (nn + 1) cap)
                     simp only [List.set_cons_succ, List.set_cons_zero] at A5)
        generalize wA.setCell ⟨w.heap.size + 1, 3, none⟩ (.slice (some ⟨g, 0, none⟩) (nn + 1) cap) = w6 at *
        clear n0 n1 n2 n3 g0 g1 g2 g3 A4 C
        have hjb2 : j2 ≤ 1000 := by omega
        go_cut [124] (fun v wx => v = .bool (Rx.stop (tx s) j2) ∧ At w wx p s j2 d 0 pos1 [(w.heap.size + 1, [.int .u8 38, .bool false, .slice none 0 0, .slice (some ⟨g, 0, none⟩) (nn + 1) cap]), (w.heap.size, [.int .u8 0, .bool false, .slice none 0 0, .slice none 0 0])] [(⟨38, false, none, 0, 0, some ⟨g, 0, none⟩, nn + 1, cap⟩, .row (l ++ [nd2]), g :: (G0 ++ G2))])
        case first =>
          obtain ⟨c0, c1, c2, c3, c4, f1, f2⟩ := A5.pt.cells
          rcases stop_cases s j2 with ⟨hsp, hd1⟩ | ⟨hd1, hlt, ⟨hsp, h1⟩ | ⟨hsp, h1, h2⟩ | ⟨hsp, h1, h2⟩⟩
          case' inr.inl => have e1 : ((s[j2].toNat : Int) == 124) = true := eq_u8 _ 124 h1; clear h1
          case' inr.inr.inl => have e1 : ((s[j2].toNat : Int) == 124) = false := ne_u8 _ 124 h1; have e2 : ((s[j2].toNat : Int) == 41) = true := eq_u8 _ 41 h2; clear h1 h2
          case' inr.inr.inr => have e1 : ((s[j2].toNat : Int) == 124) = false := ne_u8 _ 124 h1; have e2 : ((s[j2].toNat : Int) == 41) = false := ne_u8 _ 41 h2; clear h1 h2
          all_goals
            have Hsp := Lib.hid hsp
            clear hsp
            go_quiet (fail)
            go_wp2_with fail
            go_meet
            exact ⟨by rw [Hsp.out], A5.drewN nq⟩
        case rest =>
        obtain ⟨rfl, A6⟩ := hcut
        clear A5
        cases hsp : Rx.stop (tx s) j2
        · have hm1 := Lib.hid (A6.pt.left0 s.size)
          have hm2 := Lib.hid (A.pt.left0 s.size)
          have HRR := Lib.hid (Hs2.out hsp)
          clear hsp
          go_wp2_with fail
          go_roundw
          case rel => exact .inl ⟨j2, _, _, _, _, _, _, some (Rx.joined acc r2), mm - 1, A6, .inr ⟨_, rfl, corr_joined Hacc.out Hc2.out⟩, by rw [HRR.out, show mm - 1 + 1 = mm from by omega], by omega, hj2s, by simp; omega, by omega⟩
          case measure => rw [hm1.out, hm2.out]; omega
        · have HRR := Lib.hid (Hs1.out hsp)
          clear hsp
          obtain ⟨n0, n1, n2, n3, g0, g1, g2, g3⟩ := A6.own
          obtain ⟨r0, r1, r2', r3, q0, q1, q2, q3⟩ := A6.own2
          go_wp2
          have A8 := A6.swap.store4 (.int .u8 38) (.bool false) (.slice none 0 0) (.slice (some ⟨g, 0, none⟩) (nn + 1) cap)
          exact bodyPost_ret (A8.done rfl rfl) rfl (A8.ends_ok HRR.out rfl (.row (corr_joined Hacc.out Hc2.out)) rfl)
      · have hR2 : RES = .bad k c := by rw [hR, Rx.part_succ, hg]; rfl
        have HR2 := Lib.hid hR2
        have hcb : ((c : Int) == 0) = false := ne_u8 _ 0 hc
        simp only [NC.val]
        have B2 := B1.alloc [.int .u8 op, .bool no, .slice sa sn sc, .slice ka kn kc]
        have hp1 := Blk.lt B1.pt
        have hN1 := (B1.blk _ (List.mem_cons_self ..)).2.lt
        obtain ⟨w2, hw2⟩ : ∃ w2, w1.alloc (.cells #[.int .u8 (op : Int), .bool no, .slice sa sn sc, .slice ka kn kc] 30) = w2 := ⟨_, rfl⟩
        rw [hw2] at B2
        obtain ⟨K, hK⟩ : ∃ K, w1.heap.size = K := ⟨_, rfl⟩
        rw [hK] at B2 hp1 hN1
        clear he B1 hR hg hR2 hacc
        obtain ⟨c0, c1, c2, c3, c4, f1, f2⟩ := B2.pt.cells
        go_wp2_with fail
        go_quiet (fail)
        have C := B2.drewN nq
        generalize w2.drewN nq = w5 at *
        clear c0 c1 c2 c3 c4 f1 f2 B2
        obtain ⟨a1, n1, k1, ncs, G0, e1, hn1, hrow, hlr, hFF⟩ := NRep.kids_inv (C.tree (⟨38, false, none, 0, 0, a, nn, cc⟩, .row l, F) (by simp)) (HasKids.row l)
        simp only [NC.mk.injEq, true_and] at e1
        obtain ⟨rfl, rfl, rfl⟩ := e1
        have hnl := hlr.length
        have hnb : nn ≤ 1000 := by omega
        have Hrow := Lib.hid hrow
        have Hlr := Lib.hid hlr
        have HFF := Lib.hid hFF
        have Hn1 := Lib.hid hn1
        clear hrow hlr hFF hn1 hnl
        obtain ⟨n0, n1, n2, n3, g0, g1, g2, g3⟩ := C.own
        obtain ⟨r0, r1, r2', r3, q0, q1, q2, q3⟩ := C.own2
        go_wp2_with (at_builtin; refine wpList_append_lies _ (by rfl) _ _ _ (by rfl) 0 30 i0 _ 4 56 Try.underlying28 hi0 hz0 hz1 hz2 rfl (by omega) _ _ _ (by rfl) (Hrow.out.alloc _)
                       ⟨w5.heap.size, 0, none⟩ 1 1 [.int .u8 (op : Int), .bool no, .slice sa sn sc, .slice ka kn kc] (by rfl) (by rfl) (World.news_of_block (cs := #[.int .u8 (op : Int), .bool no, .slice sa sn sc, .slice ka kn kc]) (t := 30) (fr := (0, 0)) (heap_alloc_at (w := w5) (by simp))) (by simp [Value.oneCell'])
                       (by omega) (by unfold maxLen; omega) (by omega) (by simp) (w5.heap.size + 1) (by simp) ?_
                     intro g cap wA hown hgrow hat hlt
                     have A4 := (At.lost C _ hgrow (fun k e => List.mem_flatMap.2 ⟨_, List.mem_cons_self .., by have h8 := HFF.out; dsimp only at h8 ⊢; rw [h8, e]; simp⟩)).drop
                     clear hown hgrow hat hlt Hrow
                     obtain ⟨n0, n1, n2, n3, g0, g1, g2, g3⟩ := A4.own
                     have A5 := A4.store1 3 (.slice (some ⟨g, 0, none⟩) (nn + 1) cap)
                     simp only [List.set_cons_succ, List.set_cons_zero] at A5)
        generalize wA.setCell ⟨w.heap.size + 1, 3, none⟩ (.slice (some ⟨g, 0, none⟩) (nn + 1) cap) = w6 at *
        clear n0 n1 n2 n3 g0 g1 g2 g3 A4 C
        have hjb2 : i' ≤ 1000 := by omega
        go_cut [124] (fun v wx => v = .bool (Rx.stop (tx s) i') ∧ At w wx p s i' d c k [(w.heap.size + 1, [.int .u8 38, .bool false, .slice none 0 0, .slice (some ⟨g, 0, none⟩) (nn + 1) cap]), (w.heap.size, [.int .u8 0, .bool false, .slice none 0 0, .slice none 0 0])] [])
        case first =>
          obtain ⟨c0, c1, c2, c3, c4, f1, f2⟩ := A5.pt.cells
          rcases stop_cases s i' with ⟨hsp, hd1⟩ | ⟨hd1, hlt, ⟨hsp, h1⟩ | ⟨hsp, h1, h2⟩ | ⟨hsp, h1, h2⟩⟩
          case' inr.inl => have e1 : ((s[i'].toNat : Int) == 124) = true := eq_u8 _ 124 h1; clear h1
          case' inr.inr.inl => have e1 : ((s[i'].toNat : Int) == 124) = false := ne_u8 _ 124 h1; have e2 : ((s[i'].toNat : Int) == 41) = true := eq_u8 _ 41 h2; clear h1 h2
          case' inr.inr.inr => have e1 : ((s[i'].toNat : Int) == 124) = false := ne_u8 _ 124 h1; have e2 : ((s[i'].toNat : Int) == 41) = false := ne_u8 _ 41 h2; clear h1 h2
          all_goals
            have Hsp := Lib.hid hsp
            clear hsp
            go_quiet (fail)
            go_wp2_with fail
            go_meet
            exact ⟨by rw [Hsp.out], A5.drewN nq⟩
        case rest =>
        obtain ⟨rfl, A6⟩ := hcut
        clear A5
        cases hsp : Rx.stop (tx s) i'
        · have hm1 := Lib.hid (A6.pt.left1 hc s.size)
          have hm2 := Lib.hid (A.pt.left0 s.size)
          clear hsp
          go_wp2_with fail
          go_roundw
          case rel => exact .inr ⟨_, _, _, _, _, _, A6, hc, hi', HR2.out⟩
          case measure => rw [hm1.out, hm2.out]; omega
        · clear hsp
          obtain ⟨n0, n1, n2, n3, g0, g1, g2, g3⟩ := A6.own
          obtain ⟨r0, r1, r2', r3, q0, q1, q2, q3⟩ := A6.own2
          go_wp2
          have A8 := A6.swap.store4 (.int .u8 38) (.bool false) (.slice none 0 0) (.slice (some ⟨g, 0, none⟩) (nn + 1) cap)
          exact bodyPost_ret (A8.done rfl rfl) rfl (A8.ends_bad HR2.out hc hi' ⟨38, false, none, 0, 0, some ⟨g, 0, none⟩, nn + 1, cap⟩ rfl)
    · have HG := Lib.hid hG
      have hcb : ((c : Int) == 0) = false := ne_u8 _ 0 hc
      obtain ⟨c0, c1, c2, c3, c4, f1, f2⟩ := A.pt.cells
      obtain ⟨n0, n1, n2, n3, g0, g1, g2, g3⟩ := A.own
      obtain ⟨r0, r1, r2, r3, q0, q1, q2, q3⟩ := A.own2
      clear hG
      go_wp2
      have A8 := A.swap.store4 (.int .u8 38) (.bool false) (.slice none 0 0) (.slice a nn cc)
      exact bodyPost_ret (A8.done rfl rfl) rfl (A8.ends_bad HG.out hc hj ⟨38, false, none, 0, 0, a, nn, cc⟩ rfl)


end Go.Proofs.Ytnbghiaggapoiaa
