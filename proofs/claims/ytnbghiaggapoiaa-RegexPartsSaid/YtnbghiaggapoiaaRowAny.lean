/- Package regex, the parser: row, given what atom comes to. -/
import Derived.Test.YtnbghiaggapoiaaAtom2
import Derived.Test.YtnbghiaggapoiaaRxLen
namespace Go.Proofs.Ytnbghiaggapoiaa
set_option linter.unusedSimpArgs false
set_option linter.unusedVariables false
open Go.RowKit Go.Proofs
open Rx (NS Got)

theorem peek_Beside {w W : World} {base p : Nat} {s : ByteArray} {i d : Nat} {sts : List NS} {F0 F : List Nat} {bs : List (Nat × List Value)} (h : Beside w W base p s i d sts F0 F bs) (hs : s.size ≤ 1000) :
    Calls Try.prog 39 #[.pointer (some ⟨p, 0, none⟩)] W fun e w' => EndsP (Rx.peek (tx s) i) (Mod (· ∈ F0) w) (fun o e w' => e = .returned (.tuple #[.int .u8 ((o.getD 0 : Nat) : Int), .bool o.isSome]) ∧ Beside w w' base p s i d sts F0 F bs) e w' :=
  (peek_any p s i W hs h.at_.cells.1 h.at_.cells.2.1).mono fun e w' ⟨he, k, hk⟩ => by
    subst hk
    cases hg : Rx.peek (tx s) i with
    | bad j c => exact ⟨he.bad hg, (h.drewN k).grew.mod⟩
    | ok c => exact ⟨he.ok hg, h.drewN k⟩

/-- A block beside the parser whose second cell is stored. -/
theorem Beside.set1 {w W : World} {base p : Nat} {s : ByteArray} {i d : Nat} {sts : List NS} {F0 F : List Nat} {b : Nat} {x0 x1 : Value} {bs : List (Nat × List Value)} (h : Beside w W base p s i d sts F0 F ((b, [x0, x1]) :: bs)) (hb : w.heap.size ≤ b) (hd : ∀ y ∈ bs, y.1 ≠ b) (v : Value) :
    Beside w (W.setCell ⟨b, 1, none⟩ v) base p s i d sts F0 F ((b, [x0, v]) :: bs) := by
  have hn := (h.blk (b, [x0, x1]) (by simp))
  refine ⟨h.at_.setOther hn.2 v, h.grew.setCell hb v, fun y hy => ?_⟩
  rcases List.mem_cons.1 hy with rfl | hy
  · exact ⟨hn.1.set 1 v, hn.2⟩
  · have := h.blk y (by simp [hy])
    exact ⟨this.1.setOther (hd y hy) v, this.2⟩

/-- Beside without its first block. -/
theorem Beside.tail {w W : World} {base p : Nat} {s : ByteArray} {i d : Nat} {sts : List NS} {F0 F : List Nat} {b : Nat × List Value} {bs : List (Nat × List Value)} (h : Beside w W base p s i d sts F0 F (b :: bs)) : Beside w W base p s i d sts F0 F bs :=
  ⟨h.at_, h.grew, fun y hy => h.blk y (by simp [hy])⟩

set_option maxRecDepth 100000 in
set_option maxHeartbeats 1000000 in
theorem row_any (n : Nat) (hA : ∀ k, k < n → AtomOK k) : RowOK n := by
  intro w base p s i d sts F hp hs hi hd hw hn
  have hB0 := atom_begin w base p s i d sts F hp
  have Hp := Lib.hid hp
  have HA := Lib.hid hA
  clear hp hA
  obtain ⟨n, rfl⟩ : ∃ m, n = m + 2 := ⟨n - 2, by omega⟩
  have hlen : (tx s).length = s.size := by simp
  have Hlen := Lib.hid hlen
  clear hlen
  go_enter Try.func30, Try.ntmps30
  go_wp2_with fail
  refine (HA.out n (by omega) _ _ _ _ _ _ _ _ hB0.at_ hs hi hd hw (by omega)).mono ?_
  rintro e w1 he
  have he := PartEnds.beside hB0 he
  cases hat : Rx.atom (tx s) n d i with
  | bad j c =>
    obtain ⟨rfl, hw1⟩ := he.bad hat
    exact ⟨rfl, EndsP.mk_bad (by rw [Rx.row_succ, Rx.part_succ, hat]; rfl) rfl hw1⟩
  | ok x =>
    obtain ⟨r, j⟩ := x
    obtain ⟨rfl, F1, hB1⟩ := he.ok hat
    have hrd := (Rx.reads (tx s) n).2.2.2.2 _ _ _ _ hat
    rw [Hlen.out] at hrd
    have hwb := Rx.wt_build r sts
    clear he hB0
    dsimp only at hB1
    unfold partV
    generalize hbd : Rx.build r sts = bd at hB1 hwb ⊢
    obtain ⟨f, l, st⟩ := bd
    dsimp only at hB1 hwb ⊢
    have Hbd := Lib.hid hbd
    have Hat := Lib.hid hat
    have HB1 := Lib.hid hB1
    clear hbd hat hB1
    go_wp2_with fail
    refine (repeated_any w1 base p s j d r sts st f l F1 Hbd.out HB1.out.at_ hs (by omega)).mono ?_
    rintro e w2 he
    have he := PartEnds.beside HB1.out he
    cases hrp : Rx.rep (tx s) r j with
    | bad j' c =>
      obtain ⟨rfl, hw2⟩ := he.bad hrp
      exact ⟨rfl, EndsP.mk_bad (by rw [Rx.row_succ, Rx.part_succ, Hat.out]; simp [Got.bind, hrp]) rfl hw2⟩
    | ok x =>
      obtain ⟨r2, j2⟩ := x
      obtain ⟨rfl, F2, hB2⟩ := he.ok hrp
      have hpart : Rx.part (tx s) (n + 1) d i = .ok (r2, j2) := by rw [Rx.part_succ, Hat.out]; exact hrp
      have hrow : Rx.row (tx s) (n + 2) d i = Rx.parts (tx s) (n + 1) r2 d j2 := by rw [Rx.row_succ, hpart]; rfl
      have hrd2 := (Rx.reads (tx s) (n + 1)).2.2.2.1 _ _ _ _ hpart
      rw [Hlen.out] at hrd2
      have hwb2 := Rx.wt_build r2 sts
      have Hrow := Lib.hid hrow
      clear he hrp hpart hrow
      dsimp only at hB2
      unfold partV
      generalize hbd2 : Rx.build r2 sts = bd at hB2 hwb2 ⊢
      obtain ⟨f2, l2, st2⟩ := bd
      dsimp only at hB2 hwb2 ⊢
      have Hbd2 := Lib.hid hbd2
      have hB3 := hB2.alloc [.int .i64 (f2 : Int), .int .i64 (l2 : Int)]
      change Beside w (w2.alloc (.cells #[.int .i64 (f2 : Int), .int .i64 (l2 : Int)] 49)) _ _ _ _ _ _ _ _ _ at hB3
      have hs2 : w.heap.size < w2.heap.size := by
        have := (hB2.nth 0 rfl).1.lt; exact this
      have HB3 := Lib.hid hB3
      clear hbd2 hB2 hB3
      go_wp2_with fail
      go_loopw [11] (fun _ wr => ∃ (acc : Rx.Re) (m j f l : Nat) (st : List NS) (F' : List Nat), Hid (Rx.row (tx s) (n + 2) d i = Rx.parts (tx s) m acc d j) ∧ Hid (Rx.build acc sts = (f, l, st)) ∧ 
          Beside w wr base p s j d st F F' [(w2.heap.size, [.int .i64 (f : Int), .int .i64 (l : Int)]), (w.heap.size, [.int .i64 0, .int .i64 0])] ∧ j ≤ s.size ∧ Rx.wt st + 8 * (s.size - j) ≤ 850000 ∧ 4 * (s.size - j) + 3 ≤ m ∧ m < n + 2)
        (fun _ wr => 1001 - atOf wr p)
      case atStart => exact ⟨r2, n + 1, j2, f2, l2, st2, F2, Hrow, Hbd2, HB3.out, hrd2.2.1, by omega, by omega, by omega⟩
      case round =>
        clear HB1 hrd hwb hrd2 hwb2
        obtain ⟨acc, m, j, f, l, st, F', HR, Hb, hB, hj, hwj, hm, hmn⟩ := hrel
        have HB := Lib.hid hB
        clear hB
        go_wp2_with fail
        obtain ⟨m, rfl⟩ : ∃ m', m = m' + 2 := ⟨m - 2, by omega⟩
        have hbl := build_lt acc sts
        rw [Hb.out] at hbl
        obtain ⟨hfl, hll, _⟩ := hbl
        dsimp only at hfl hll
        refine (peek_Beside HB.out hs).mono ?_
        rintro e w3 he
        cases hpk : Rx.peek (tx s) j with
        | bad j' c =>
          obtain ⟨rfl, hw3⟩ := he.bad hpk
          exact ⟨rfl, EndsP.mk_bad (by rw [HR.out, Rx.parts_succ, hpk]; rfl) rfl hw3⟩
        | ok o =>
          obtain ⟨rfl, hB3⟩ := he.ok hpk
          have Hpk := Lib.hid hpk
          clear he hpk
          cases o with
          | none =>
            simp only [Option.getD_none, Option.isSome_none]
            obtain ⟨c0, c1, _, _⟩ := hB3.cells 0 rfl
            obtain ⟨e0, e1, g0, g1⟩ := hB3.cells 1 rfl
            have HB3 := Lib.hid hB3
            clear hB3
            go_wp2_with fail
            refine bodyPost_ret (results_cell_row rfl _ _ w.heap.size 49 _ _ _ rfl ((HB3.out.nth 1 rfl).1.store2 _ _) Try.underlying49 rfl (by kernel_rfl)) rfl ?_
            refine EndsP.mk_ok (a := (acc, j)) (by rw [HR.out, Rx.parts_succ, Hpk.out]; rfl) ⟨?_, F', ?_⟩
            · dsimp only; rw [Hb.out]; rfl
            · dsimp only; rw [Hb.out]; exact HB3.out.store (Nat.le_refl _) (HB3.out.nth 1 rfl).2 _ _
          | some c =>
            simp only [Option.getD_some, Option.isSome_some]
            have hjl : j < s.size := by simpa using (peek_lt Hpk.out).1
            have HB3 := Lib.hid hB3
            clear hB3
            go_wp2_with fail
            refine (is_Beside HB3.out hs ⟨#[124, 41]⟩).mono ?_
            rintro e w4 he
            have his : Rx.isOne (tx s) (nums ⟨#[124, 41]⟩) j = .ok (([124, 41] : List Nat).contains c) := isOne_some Hpk.out
            obtain ⟨rfl, hB4⟩ := he.ok his
            clear he his
            cases hmem : ([124, 41] : List Nat).contains c with
            | true =>
              have hcc : c = 124 ∨ c = 41 := by simpa using hmem
              obtain ⟨c0, c1, _, _⟩ := hB4.cells 0 rfl
              obtain ⟨e0, e1, g0, g1⟩ := hB4.cells 1 rfl
              have HB4 := Lib.hid hB4
              have Hcc := Lib.hid hcc
              clear hB4 hmem hcc
              go_wp2_with fail
              refine bodyPost_ret (results_cell_row rfl _ _ w.heap.size 49 _ _ _ rfl ((HB4.out.nth 1 rfl).1.store2 _ _) Try.underlying49 rfl (by kernel_rfl)) rfl ?_
              refine EndsP.mk_ok (a := (acc, j)) (by rw [HR.out, Rx.parts_succ, Hpk.out]; simp only [Got.bind]; rw [if_pos Hcc.out]) ⟨?_, F', ?_⟩
              · dsimp only; rw [Hb.out]; rfl
              · dsimp only; rw [Hb.out]; exact HB4.out.store (Nat.le_refl _) (HB4.out.nth 1 rfl).2 _ _
            | false =>
              have hcc : ¬ (c = 124 ∨ c = 41) := by
                have := hmem
                simp at this
                omega
              have HB4 := Lib.hid hB4
              have HR2 : Hid (Rx.row (tx s) (n + 2) d i = (Rx.part (tx s) (m + 1) d j).bind fun x => Rx.parts (tx s) (m + 1) (.cat acc x.1) d x.2) :=
                Lib.hid (by rw [HR.out, Rx.parts_succ, Hpk.out]; simp only [Got.bind]; rw [if_neg hcc])
              clear hB4 hmem hcc HR Hpk
              go_wp2_with fail
              refine (HA.out m (by omega) _ _ _ _ _ _ _ _ HB4.out.at_ hs hj hd hwj (by omega)).mono ?_
              rintro e w5 he
              have he := PartEnds.beside HB4.out he
              cases hat : Rx.atom (tx s) m d j with
              | bad j' c =>
                obtain ⟨rfl, hw5⟩ := he.bad hat
                exact ⟨rfl, EndsP.mk_bad (by rw [HR2.out, Rx.part_succ, hat]; rfl) rfl hw5⟩
              | ok x =>
                obtain ⟨r3, j3⟩ := x
                obtain ⟨rfl, F5, hB5⟩ := he.ok hat
                have hrd := (Rx.reads (tx s) m).2.2.2.2 _ _ _ _ hat
                rw [Hlen.out] at hrd
                have hwb := Rx.wt_build r3 st
                clear he
                dsimp only at hB5
                unfold partV
                generalize hbd3 : Rx.build r3 st = bd at hB5 hwb ⊢
                obtain ⟨f3, l3, st3⟩ := bd
                dsimp only at hB5 hwb ⊢
                have Hbd3 := Lib.hid hbd3
                have Hat3 := Lib.hid hat
                have HB5 := Lib.hid hB5
                clear hbd3 hat hB5
                go_wp2_with fail
                refine (repeated_any w5 base p s j3 d r3 st st3 f3 l3 F5 Hbd3.out HB5.out.at_ hs (by omega)).mono ?_
                rintro e w6 he
                have he := PartEnds.beside HB5.out he
                cases hrp : Rx.rep (tx s) r3 j3 with
                | bad j' c =>
                  obtain ⟨rfl, hw6⟩ := he.bad hrp
                  exact ⟨rfl, EndsP.mk_bad (by rw [HR2.out, Rx.part_succ, Hat3.out]; simp [Got.bind, hrp]) rfl hw6⟩
                | ok x =>
                  obtain ⟨r4, j4⟩ := x
                  obtain ⟨rfl, F6, hB6⟩ := he.ok hrp
                  have hpart : Rx.part (tx s) (m + 1) d j = .ok (r4, j4) := by rw [Rx.part_succ, Hat3.out]; exact hrp
                  have HR3 : Hid (Rx.row (tx s) (n + 2) d i = Rx.parts (tx s) (m + 1) (.cat acc r4) d j4) := Lib.hid (by rw [HR2.out, hpart]; rfl)
                  have hrd4 := (Rx.reads (tx s) (m + 1)).2.2.2.1 _ _ _ _ hpart
                  rw [Hlen.out] at hrd4
                  have hwb4 := Rx.wt_build r4 st
                  have hbl4 := build_lt r4 st
                  clear he hrp hpart hrd hwb
                  dsimp only at hB6
                  unfold partV
                  generalize hbd4 : Rx.build r4 st = bd at hB6 hwb4 hbl4 ⊢
                  obtain ⟨f4, l4, st4⟩ := bd
                  dsimp only at hB6 hwb4 hbl4 ⊢
                  have HbC : Hid (Rx.build (.cat acc r4) sts = (f, l4, Rx.addE st4 l f4)) := Lib.hid (by simp only [Rx.build]; rw [Hb.out]; dsimp only; rw [hbd4])
                  have hB7 := hB6.alloc [.int .i64 (f4 : Int), .int .i64 (l4 : Int)]
                  change Beside w (w6.alloc (.cells #[.int .i64 (f4 : Int), .int .i64 (l4 : Int)] 49)) _ _ _ _ _ _ _ _ _ at hB7
                  have hs6 : w2.heap.size < w6.heap.size := (hB6.nth 0 rfl).1.lt
                  obtain ⟨c0, c1, c2, c3⟩ := hB7.cells 1 rfl
                  have HB7 := Lib.hid hB7
                  clear hbd4 hB6 hB7
                  go_wp2_with fail
                  have hB7 := HB7.out
                  generalize w6.alloc (.cells #[.int .i64 (f4 : Int), .int .i64 (l4 : Int)] 49) = w7 at *
                  refine (to_Beside hB7 l f4 (by omega) (by omega)).mono ?_
                  rintro e w8 ⟨rfl, F8, hB8⟩
                  obtain ⟨c0, c1, c2, c3⟩ := hB8.cells 1 rfl
                  obtain ⟨y0, y1, _, _⟩ := hB8.cells 0 rfl
                  have HB8 := Lib.hid hB8
                  have HB9 := Lib.hid (hB8.tail.set1 (by omega) (by simp; omega) (.int .i64 (l4 : Int)))
                  clear hB7 hB8
                  go_wp2_with fail
                  go_roundw
                  case rel => exact ⟨.cat acc r4, m + 1, j4, f, l4, _, F8, HR3, HbC, HB9.out, hrd4.2.1, Nat.le_trans (Nat.add_le_add_right (Rx.wt_addE_le _ _ _) _) (by omega), by omega, by omega⟩
                  case measure => rw [HB9.out.at_.atOf, HB.out.at_.atOf]; omega

end Go.Proofs.Ytnbghiaggapoiaa
