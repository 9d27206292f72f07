/- Package regex, the parser: choice, given what row comes to; all of them. -/
import Derived.Test.YtnbghiaggapoiaaRowAny
namespace Go.Proofs.Ytnbghiaggapoiaa
set_option linter.unusedSimpArgs false
set_option linter.unusedVariables false
open Go.RowKit Go.Proofs
open Rx (NS Got)

set_option maxRecDepth 100000 in
set_option maxHeartbeats 1000000 in
theorem choice_any (n : Nat) (hR : ∀ k, k < n → RowOK k) : ChoiceOK n := by
  intro w base p s i d sts F hp hs hi hd hw hn
  have hB0 := atom_begin w base p s i d sts F hp
  have hlw := Rx.length_le_wt sts
  have Hp := Lib.hid hp
  have HRow := Lib.hid hR
  clear hp hR
  have hlen : (tx s).length = s.size := by simp
  have Hlen := Lib.hid hlen
  clear hlen
  go_enter Try.func19, Try.ntmps19
  go_wp2_with fail
  refine (state_Beside hB0 (by omega)).mono ?_
  rintro e w1 ⟨rfl, F1, hB1⟩
  have HB1 := Lib.hid hB1
  clear hB0 hB1
  go_wp2_with fail
  refine (state_Beside HB1.out (by simp; omega)).mono ?_
  rintro e w2 ⟨rfl, F2, hB2⟩
  rw [List.append_assoc] at hB2
  have e1 : ((sts ++ [Rx.ns0]).length : Int) = ((sts.length + 1 : Nat) : Int) := by simp
  rw [e1]
  have hB3 := hB2.alloc [.int .i64 (sts.length : Int), .int .i64 ((sts.length : Int) + 1)]
  change Beside w (w2.alloc (.cells #[.int .i64 (sts.length : Int), .int .i64 ((sts.length : Int) + 1)] 49)) _ _ _ _ _ _ _ _ _ at hB3
  have hs2 : w.heap.size < w2.heap.size := (hB2.nth 0 rfl).1.lt
  have hwt : Rx.wt (sts ++ ([Rx.ns0] ++ [Rx.ns0])) = Rx.wt sts + 2 := by rw [Rx.wt_append]; rfl
  have HB3 := Lib.hid hB3
  have Hwt := Lib.hid hwt
  clear e1 hB2 hB3 HB1 hwt
  go_wp2_with fail
  go_loopw [12] (fun _ wr => ∃ (acc : Rx.Re) (m j a b : Nat) (st : List NS) (F' : List Nat), Hid (Rx.rows (tx s) n .alt0 d i = Rx.rows (tx s) m acc d j) ∧ Hid (Rx.build acc sts = (a, b, st)) ∧ 
      Beside w wr base p s j d st F F' [(w2.heap.size, [.int .i64 (a : Int), .int .i64 (b : Int)]), (w.heap.size, [.int .i64 0, .int .i64 0])] ∧ j ≤ s.size ∧ Rx.wt st + 8 * (s.size - j) + 1 ≤ 850000 ∧ 4 * (s.size - j) + 4 ≤ m ∧ m ≤ n)
    (fun _ wr => 1001 - atOf wr p)
  case atStart => exact ⟨.alt0, n, i, sts.length, sts.length + 1, _, F2, Lib.hid rfl, Lib.hid rfl, HB3.out, hi, (by have hq : Rx.wt (sts ++ [Rx.ns0, Rx.ns0]) = Rx.wt sts + 2 := Hwt.out; omega), hn, Nat.le_refl _⟩
  case round =>
    obtain ⟨acc, m, j, a, b, st, F', HR, Hb, hB, hj, hwj, hm, hmn⟩ := hrel
    have HB := Lib.hid hB
    clear hB
    obtain ⟨m, rfl⟩ : ∃ m', m = m' + 1 := ⟨m - 1, by omega⟩
    have hbl := build_lt acc sts
    rw [Hb.out] at hbl
    obtain ⟨hal, hbl, _⟩ := hbl
    dsimp only at hal hbl
    go_wp2_with fail
    refine (HRow.out m (by omega) _ _ _ _ _ _ _ _ HB.out.at_ hs hj hd (by omega) (by omega)).mono ?_
    rintro e w3 he
    have he := PartEnds.beside HB.out he
    cases hrw : Rx.row (tx s) m d j with
    | bad j' c =>
      obtain ⟨rfl, hw3⟩ := he.bad hrw
      exact ⟨rfl, EndsP.mk_bad (by rw [HR.out, Rx.rows_succ, hrw]; rfl) rfl hw3⟩
    | ok x =>
      obtain ⟨r, j2⟩ := x
      obtain ⟨rfl, F3, hB3⟩ := he.ok hrw
      have hrd := (Rx.reads (tx s) m).2.1 _ _ _ _ hrw
      rw [Hlen.out] at hrd
      have hwb := Rx.wt_build r st
      have hbl2 := build_lt r st
      clear he
      dsimp only at hB3
      unfold partV
      generalize hbd : Rx.build r st = bd at hB3 hwb hbl2 ⊢
      obtain ⟨f, l, st2⟩ := bd
      dsimp only at hB3 hwb hbl2 ⊢
      have HbA : Hid (Rx.build (.alt acc r) sts = (a, b, Rx.addE (Rx.addE st2 a f) l b)) := Lib.hid (by simp only [Rx.build]; rw [Hb.out]; dsimp only; rw [hbd])
      have Hrw := Lib.hid hrw
      have hB4 := hB3.alloc [.int .i64 (f : Int), .int .i64 (l : Int)]
      change Beside w (w3.alloc (.cells #[.int .i64 (f : Int), .int .i64 (l : Int)] 49)) _ _ _ _ _ _ _ _ _ at hB4
      obtain ⟨c0, c1, _, _⟩ := hB4.cells 1 rfl
      have HB4 := Lib.hid hB4
      clear hbd hrw hB3 hB4
      go_wp2_with fail
      have hB4 := HB4.out
      generalize w3.alloc (.cells #[.int .i64 (f : Int), .int .i64 (l : Int)] 49) = w4 at *
      refine (to_Beside hB4 a f (by omega) (by omega)).mono ?_
      rintro e w5 ⟨rfl, F5, hB5⟩
      obtain ⟨c0, c1, _, _⟩ := hB5.cells 1 rfl
      obtain ⟨y0, y1, _, _⟩ := hB5.cells 0 rfl
      have HB5 := Lib.hid hB5
      clear hB4 hB5
      go_wp2_with fail
      refine (to_Beside HB5.out l b (by rw [Rx.length_addE]; omega) (Nat.le_trans (Rx.wt_addE_le _ _ _) (by omega))).mono ?_
      rintro e w6 ⟨rfl, F6, hB6⟩
      have HB6 := Lib.hid hB6.tail
      clear hB6
      go_wp2_with fail
      refine (is_Beside HB6.out hs ⟨#[124]⟩).mono ?_
      rintro e w7 he
      cases his : Rx.isOne (tx s) [124] j2 with
      | bad j' c =>
        obtain ⟨rfl, hw7⟩ := he.bad his
        exact ⟨rfl, EndsP.mk_bad (by rw [HR.out, Rx.rows_succ, Hrw.out]; simp [Got.bind, his]) rfl hw7⟩
      | ok q =>
        obtain ⟨rfl, hB7⟩ := he.ok his
        have His := Lib.hid his
        clear he his
        cases q with
        | false =>
          obtain ⟨c0, c1, _, _⟩ := hB7.cells 0 rfl
          obtain ⟨e0, e1, g0, g1⟩ := hB7.cells 1 rfl
          have HB7 := Lib.hid hB7
          clear hB7
          go_wp2_with fail
          refine bodyPost_ret (results_cell_row rfl _ _ w.heap.size 49 _ _ _ rfl ((HB7.out.nth 1 rfl).1.store2 _ _) Try.underlying49 rfl (by kernel_rfl)) rfl ?_
          refine EndsP.mk_ok (a := (.alt acc r, j2)) (by rw [HR.out, Rx.rows_succ, Hrw.out]; simp [Got.bind, His.out]) ⟨?_, F6, ?_⟩
          · dsimp only; rw [HbA.out]; rfl
          · dsimp only; rw [HbA.out]; exact HB7.out.store (Nat.le_refl _) (HB7.out.nth 1 rfl).2 _ _
        | true =>
          have hjl : j2 < s.size := by simpa using isOne_lt His.out
          obtain ⟨_, k1, _, g1, _⟩ := hB7.at_.cells
          have HB8 := Lib.hid (hB7.turnAt (j2 + 1))
          have HR2 : Hid (Rx.rows (tx s) n .alt0 d i = Rx.rows (tx s) m (.alt acc r) d (j2 + 1)) := Lib.hid (by rw [HR.out, Rx.rows_succ, Hrw.out]; simp [Got.bind, His.out])
          clear hB7
          go_wp2_with fail
          go_roundw
          case rel => exact ⟨.alt acc r, m, j2 + 1, a, b, _, F6, HR2, HbA, HB8.out, hjl, Nat.le_trans (Nat.add_le_add_right (Nat.add_le_add_right (Nat.le_trans (Rx.wt_addE_le _ _ _) (Nat.add_le_add_right (Rx.wt_addE_le _ _ _) 1)) _) _) (by omega), by omega, by omega⟩
          case measure => rw [show ((j2 : Int) + 1) = ((j2 + 1 : Nat) : Int) from rfl, HB8.out.at_.atOf, HB.out.at_.atOf]; omega

/-- All three, whatever the number of steps. -/
theorem all_ok : ∀ n, ChoiceOK n ∧ RowOK n ∧ AtomOK n := by
  intro n
  induction n using Nat.strongRecOn with
  | _ n ih =>
    have hA : AtomOK n := by
      cases n with
      | zero => intro w base p s i d sts F hp hs hi hd hw hn; omega
      | succ n => exact atom_any n (ih n (by omega)).1
    exact ⟨choice_any n (fun k hk => (ih k hk).2.1), row_any n (fun k hk => (ih k hk).2.2), hA⟩

end Go.Proofs.Ytnbghiaggapoiaa
