/- The law RegexSets, walked: whatever the three bytes, it answers true and leaves what was there. -/
import Derived.Test.YtnbghiaggapoiaaKnown
import Derived.Test.YtnbghiaggapoiaaSets
import Derived.ShutString
import Derived.ProofKit
import Derived.DataShut
namespace Go.Proofs.Ytnbghiaggapoiaa
set_option linter.unusedSimpArgs false
set_option linter.unusedVariables false
open Go.RowKit Go.Proofs
open Rx (NS Got)

theorem u8_of {a : Int} (h : (Lit.int .u8 a).wf = true) : ∃ x : UInt8, a = (x.toNat : Int) := by
  obtain ⟨h1, h2⟩ := (Lit.wf_int_iff .u8 a).1 h
  have m1 : IntKind.u8.min = 0 := rfl
  have m2 : IntKind.u8.max = 255 := rfl
  rw [m1] at h1
  rw [m2] at h2
  refine ⟨UInt8.ofNat a.toNat, ?_⟩
  have : a.toNat < 256 := by omega
  simp [Nat.mod_eq_of_lt this]
  omega

theorem conv3 (w : World) (x y : UInt8) : (convert 40 9 (.slice (some ⟨w.heap.size, 0, none⟩) 3 3)).run Try.prog (w.alloc (.cells #[.int .u8 (x.toNat : Int), .int .u8 45, .int .u8 (y.toNat : Int)] 5)) =
    .ok (.string ⟨#[x, 45, y]⟩) (w.alloc (.cells #[.int .u8 (x.toNat : Int), .int .u8 45, .int .u8 (y.toNat : Int)] 5)) := by
  have hB := Blk.new w [.int .u8 (x.toNat : Int), .int .u8 45, .int .u8 (y.toNat : Int)] 5
  refine run_convert_bytes_back _ 40 9 5 _ 3 [x, 45, y] Try.underlying40 Try.underlying5 Try.underlying9 (fun j hj => ?_)
  have hadd : (⟨w.heap.size, 0, none⟩ : Addr).add j = ⟨w.heap.size, j, none⟩ := by unfold Addr.add; split <;> simp_all
  rw [hadd]
  simp only [List.length_cons, List.length_nil] at hj
  match j, hj with
  | 0, _ => exact hB.cell 0 rfl
  | 1, _ => exact hB.cell 1 rfl
  | 2, _ => exact hB.cell 2 rfl
theorem conv1 (w : World) (x : UInt8) : (convert 40 9 (.slice (some ⟨w.heap.size, 0, none⟩) 1 1)).run Try.prog (w.alloc (.cells #[.int .u8 (x.toNat : Int)] 5)) =
    .ok (.string ⟨#[x]⟩) (w.alloc (.cells #[.int .u8 (x.toNat : Int)] 5)) := by
  have hB := Blk.new w [.int .u8 (x.toNat : Int)] 5
  refine run_convert_bytes_back _ 40 9 5 _ 1 [x] Try.underlying40 Try.underlying5 Try.underlying9 (fun j hj => ?_)
  have hadd : (⟨w.heap.size, 0, none⟩ : Addr).add j = ⟨w.heap.size, j, none⟩ := by unfold Addr.add; split <;> simp_all
  rw [hadd]
  simp only [List.length_cons, List.length_nil] at hj
  match j, hj with
  | 0, _ => exact hB.cell 0 rfl

theorem small_size1 (x y : UInt8) : (⟨#[91]⟩ ++ ⟨#[x, 45, y]⟩ ++ ⟨#[93]⟩ : ByteArray).size ≤ 64 := by rw [ByteArray.size_append, ByteArray.size_append]; show 1 + 3 + 1 ≤ 64; decide
theorem small_size2 (x y : UInt8) : (⟨#[91, 94]⟩ ++ ⟨#[x, 45, y]⟩ ++ ⟨#[93]⟩ : ByteArray).size ≤ 64 := by rw [ByteArray.size_append, ByteArray.size_append]; show 2 + 3 + 1 ≤ 64; decide
theorem set_ok (x y : UInt8) (hx : Rx.small x) (hy : Rx.small y) (h : x.toNat ≤ y.toNat) : ∃ r r', Rx.parse (tx (⟨#[91]⟩ ++ ⟨#[x, 45, y]⟩ ++ ⟨#[93]⟩)) = .ok r ∧ Rx.parse (tx (⟨#[91, 94]⟩ ++ ⟨#[x, 45, y]⟩ ++ ⟨#[93]⟩)) = .ok r' ∧
    (∀ c : UInt8, isOf r ⟨#[c]⟩ = (decide (x.toNat ≤ c.toNat) && decide (c.toNat ≤ y.toNat))) ∧ (∀ c : UInt8, isOf r' ⟨#[c]⟩ = !(decide (x.toNat ≤ c.toNat) && decide (c.toNat ≤ y.toNat))) ∧
    isOf r ⟨#[]⟩ = false ∧ (∀ c : UInt8, isOf r (⟨#[c]⟩ ++ ⟨#[c]⟩) = false) := by
  have e1 : tx (⟨#[91]⟩ ++ ⟨#[x, 45, y]⟩ ++ ⟨#[93]⟩) = [91, x, 45, y, 93] := by simp
  have e2 : tx (⟨#[91, 94]⟩ ++ ⟨#[x, 45, y]⟩ ++ ⟨#[93]⟩) = [91, 94, x, 45, y, 93] := by simp
  have p1 := Rx.parse_atom (t := [91, x, 45, y, 93]) (by simp) (by simp) (r := .set (Rx.orSet Rx.noSet (Rx.between x.toNat y.toNat))) (fun n d => by rw [Rx.atom_set x y hx hy, if_neg (by omega)]; rfl)
  have p2 := Rx.parse_atom (t := [91, 94, x, 45, y, 93]) (by simp) (by simp) (r := .set (Rx.notSet (Rx.orSet Rx.noSet (Rx.between x.toNat y.toNat)))) (fun n d => by rw [Rx.atom_unset x y hx hy, if_neg (by omega)]; rfl)
  have w1 := (Rx.parse_wf p1).1
  have w2 := (Rx.parse_wf p2).1
  refine ⟨_, _, by rw [e1]; exact p1, by rw [e2]; exact p2, fun c => ?_, fun c => ?_, ?_, fun c => ?_⟩
  · rw [Bool.eq_iff_iff, isOf_iff w1, Rx.lang_one, show bys ⟨#[c]⟩ = [c.toNat] from rfl]
    simp [Rx.orSet, Rx.noSet, Rx.between]
  · rw [Bool.eq_iff_iff, isOf_iff w2, Rx.lang_one, show bys ⟨#[c]⟩ = [c.toNat] from rfl]
    simp [Rx.orSet, Rx.noSet, Rx.between, Rx.notSet]
  · rw [Bool.eq_false_iff]
    intro h
    rw [isOf_iff w1, Rx.lang_one] at h
    obtain ⟨c, hc, _⟩ := h
    cases hc
  · rw [Bool.eq_false_iff]
    intro h
    rw [isOf_iff w1, Rx.lang_one] at h
    obtain ⟨c', hc, _⟩ := h
    simp [bys] at hc

theorem set_bad (x y : UInt8) (hx : Rx.small x) (hy : Rx.small y) (h : y.toNat < x.toNat) : Rx.parse (tx (⟨#[91]⟩ ++ ⟨#[x, 45, y]⟩ ++ ⟨#[93]⟩)) = .bad 3 2 ∧ Rx.parse (tx (⟨#[91, 94]⟩ ++ ⟨#[x, 45, y]⟩ ++ ⟨#[93]⟩)) = .bad 4 2 := by
  have e1 : tx (⟨#[91]⟩ ++ ⟨#[x, 45, y]⟩ ++ ⟨#[93]⟩) = [91, x, 45, y, 93] := by simp
  have e2 : tx (⟨#[91, 94]⟩ ++ ⟨#[x, 45, y]⟩ ++ ⟨#[93]⟩) = [91, 94, x, 45, y, 93] := by simp
  rw [e1, e2]
  exact ⟨Rx.parse_atom_bad (by simp) (fun n d => by rw [Rx.atom_set x y hx hy, if_pos h]), Rx.parse_atom_bad (by simp) (fun n d => by rw [Rx.atom_unset x y hx hy, if_pos h])⟩

set_option maxHeartbeats 1000000 in
theorem regexsets_any (a0 a1 a2 : Int) (w : World) (w0 : (Lit.int .u8 a0).wf = true) (w1 : (Lit.int .u8 a1).wf = true) (w2 : (Lit.int .u8 a2).wf = true) :
    Calls Try.prog 7 #[.int .u8 a0, .int .u8 a1, .int .u8 a2] w fun e w' => e = .returned (.bool true) ∧ Below w.heap.size w w' := by
  obtain ⟨x, rfl⟩ := u8_of w0
  obtain ⟨y, rfl⟩ := u8_of w1
  obtain ⟨c, rfl⟩ := u8_of w2
  clear w0 w1 w2
  have bx : x.toNat < 256 := x.toNat_lt
  have by' : y.toNat < 256 := y.toNat_lt
  have bc : c.toNat < 256 := c.toNat_lt
  by_cases hg : (97 ≤ x.toNat ∧ x.toNat ≤ 122) ∧ (97 ≤ y.toNat ∧ y.toNat ≤ 122) ∧ 32 ≤ c.toNat
  · obtain ⟨hx, hy, hc⟩ := hg
    have i0 : ¬ (x.toNat : Int) < 97 := by omega
    have i1 : ¬ (122 : Int) < x.toNat := by omega
    have i2 : ¬ (y.toNat : Int) < 97 := by omega
    have i3 : ¬ (122 : Int) < y.toNat := by omega
    have i4 : ¬ (c.toNat : Int) < 32 := by omega
    by_cases h : y.toNat < x.toNat
    · obtain ⟨p1, p2⟩ := set_bad x y hx hy h
      have P1 := Lib.hid p1
      have P2 := Lib.hid p2
      have h' : (y.toNat : Int) < x.toNat := by omega
      have C1 := Lib.hid (fun W => compile_bad _ W _ _ p1 (small_size1 x y))
      have C2 := Lib.hid (fun W => compile_bad _ W _ _ p2 (small_size2 x y))
      clear p1 p2 hx hy hc h
      go_enter Try.func7, Try.ntmps7
      go_wp2_with (go_at_call 8; refine (known_any _).mono ?_; rintro e w1 ⟨rfl, hb⟩; have HB := Lib.hid hb; clear hb; have cv := conv3 w1 x y)
      go_at_call 9
      refine (C1.out _).mono ?_
      rintro e w2 ⟨rfl, hb⟩
      have HB2 := Lib.hid (bstep (HB.out.alloc (by have := HB.out.size; omega) _) hb (Nat.le_refl _))
      clear HB hb cv
      go_wp2_with fail
      go_at_call 9
      refine (C2.out _).mono ?_
      rintro e w3 ⟨rfl, hb⟩
      have HB := Lib.hid (bstep HB2.out hb (Nat.le_refl _))
      clear HB2 hb
      go_wp2_with fail
      go_ret
      exact ⟨rfl, HB.out⟩
    · obtain ⟨r, r', p1, p2, q1, q2, q3, q4⟩ := set_ok x y hx hy (by omega)
      have P1 := Lib.hid p1
      have P2 := Lib.hid p2
      have h' : ¬ (y.toNat : Int) < x.toNat := by omega
      have C1 := Lib.hid (fun W => compile_ok _ W _ p1 (small_size1 x y))
      have C2 := Lib.hid (fun W => compile_ok _ W _ p2 (small_size2 x y))
      have hcase : (isOf r ⟨#[c]⟩ = true ∧ isOf r' ⟨#[c]⟩ = false ∧ (x.toNat : Int) ≤ c.toNat ∧ (c.toNat : Int) ≤ y.toNat) ∨ (isOf r ⟨#[c]⟩ = false ∧ isOf r' ⟨#[c]⟩ = true ∧ (x.toNat : Int) ≤ c.toNat ∧ ¬ (c.toNat : Int) ≤ y.toNat) ∨
          (isOf r ⟨#[c]⟩ = false ∧ isOf r' ⟨#[c]⟩ = true ∧ ¬ (x.toNat : Int) ≤ c.toNat) := by
        rw [q1 c, q2 c]
        by_cases k1 : x.toNat ≤ c.toNat
        · by_cases k2 : c.toNat ≤ y.toNat
          · exact .inl ⟨by simp [k1, k2], by simp [k1, k2], by omega, by omega⟩
          · exact .inr (.inl ⟨by simp [k2], by simp [k2], by omega, by omega⟩)
        · exact .inr (.inr ⟨by simp [k1], by simp [k1], by omega⟩)
      have q4' := q4 c
      have Z0 := Lib.hid (show (⟨#[]⟩ : ByteArray).size ≤ 1000000 by decide)
      have Z1 := Lib.hid (show (⟨#[c]⟩ : ByteArray).size ≤ 1000000 by show 1 ≤ 1000000; decide)
      have Z2 := Lib.hid (show (⟨#[c]⟩ ++ ⟨#[c]⟩ : ByteArray).size ≤ 1000000 by rw [ByteArray.size_append]; show 1 + 1 ≤ 1000000; decide)
      clear p1 p2 q1 q2 q4 hx hy hc h
      rcases hcase with ⟨j1, j2, k1, k2⟩ | ⟨j1, j2, k1, k2⟩ | ⟨j1, j2, k1⟩
      all_goals
        go_enter Try.func7, Try.ntmps7
        go_wp2_with (go_at_call 8; refine (known_any _).mono ?_; rintro e w1 ⟨rfl, hb⟩; have HB := Lib.hid hb; clear hb; have cv := conv3 w1 x y)
        go_at_call 9
        refine (C1.out _).mono ?_
        rintro e w2 ⟨rb, F, rfl, hr, hb⟩
        have HR := Lib.hid hr
        have HB2 := Lib.hid (bstep (HB.out.alloc (by have := HB.out.size; omega) _) hb (Nat.le_refl _))
        clear HB hb cv hr
        go_wp2_with fail
        go_at_call 9
        refine (C2.out _).mono ?_
        rintro e w3 ⟨rb', F', rfl, hr, hb⟩
        have hbe := bstep HB2.out hb (Nat.le_refl _)
        have HR3 := Lib.hid ((HR.out.kept hb).kept ((Below.refl _ _).alloc (Nat.le_refl _) (.cells #[.int .u8 (c.toNat : Int)] 5)))
        have HQ3 := Lib.hid (hr.kept ((Below.refl _ _).alloc (Nat.le_refl _) (.cells #[.int .u8 (c.toNat : Int)] 5)))
        have HB3 := Lib.hid (hbe.alloc (by have := hbe.size; omega) (.cells #[.int .u8 (c.toNat : Int)] 5))
        have cv := conv1 w3 c
        clear HR HB2 hb hr hbe
        go_wp2_with fail
        go_at_call 12
        refine (match_re _ _ rb _ _ _ _ HR3.out P1.out Z1.out).mono ?_
        rintro e w4 ⟨rfl, hb⟩
        have HR4 := Lib.hid (HR3.out.kept hb)
        have HQ4 := Lib.hid (HQ3.out.kept hb)
        have HB4 := Lib.hid (bstep HB3.out hb (Nat.le_refl _))
        clear HR3 HQ3 HB3 hb cv
        go_wp2_with fail
        go_at_call 12
        refine (match_re _ _ rb' _ _ _ _ HQ4.out P2.out Z1.out).mono ?_
        rintro e w5 ⟨rfl, hb⟩
        have HR5 := Lib.hid (HR4.out.kept hb)
        have HB5 := Lib.hid (bstep HB4.out hb (Nat.le_refl _))
        clear HR4 HQ4 HB4 hb
        go_wp2_with fail
        go_at_call 12
        refine (match_re _ _ rb _ _ _ _ HR5.out P1.out Z1.out).mono ?_
        rintro e w6 ⟨rfl, hb⟩
        have HR6 := Lib.hid (HR5.out.kept hb)
        have HB6 := Lib.hid (bstep HB5.out hb (Nat.le_refl _))
        clear HR5 HB5 hb
        go_wp2_with fail
        go_at_call 12
        refine (match_re _ _ rb _ _ _ _ HR6.out P1.out Z0.out).mono ?_
        rintro e w7 ⟨rfl, hb⟩
        have HR7 := Lib.hid (HR6.out.kept hb)
        have HB7 := Lib.hid (bstep HB6.out hb (Nat.le_refl _))
        clear HR6 HB6 hb
        go_wp2_with fail
        go_at_call 12
        refine (match_re _ _ rb _ _ _ _ HR7.out P1.out Z2.out).mono ?_
        rintro e w8 ⟨rfl, hb⟩
        have HR8 := Lib.hid (HR7.out.kept hb)
        have HB8 := Lib.hid (bstep HB7.out hb (Nat.le_refl _))
        clear HR7 HB7 hb
        go_wp2_with fail
        go_ret
        first | exact ⟨rfl, HB8.out⟩ | exact ⟨ret_bool (by simp; omega), HB8.out⟩
  · have hcase : (x.toNat : Int) < 97 ∨ (¬ (x.toNat : Int) < 97 ∧ (122 : Int) < x.toNat) ∨ (¬ (x.toNat : Int) < 97 ∧ ¬ (122 : Int) < x.toNat ∧ (y.toNat : Int) < 97) ∨ (¬ (x.toNat : Int) < 97 ∧ ¬ (122 : Int) < x.toNat ∧ ¬ (y.toNat : Int) < 97 ∧ (122 : Int) < y.toNat) ∨
        (¬ (x.toNat : Int) < 97 ∧ ¬ (122 : Int) < x.toNat ∧ ¬ (y.toNat : Int) < 97 ∧ ¬ (122 : Int) < y.toNat ∧ (c.toNat : Int) < 32) := by omega
    clear hg
    rcases hcase with i1 | ⟨i1, i2⟩ | ⟨i1, i2, i3⟩ | ⟨i1, i2, i3, i4⟩ | ⟨i1, i2, i3, i4, i5⟩
    all_goals
      go_enter Try.func7, Try.ntmps7
      go_wp2_with (go_at_call 8; refine (known_any _).mono ?_; rintro e w1 ⟨rfl, hb⟩; have HB := Lib.hid hb; clear hb)
      go_ret
      exact ⟨rfl, HB.out⟩

end Go.Proofs.Ytnbghiaggapoiaa
