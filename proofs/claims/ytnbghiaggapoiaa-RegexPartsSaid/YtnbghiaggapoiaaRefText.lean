/- The reference: Special, Quote, Printable. -/
import Derived.Test.YtnbghiaggapoiaaQuote
import Derived.BigQuiet
namespace Go.Proofs.Ytnbghiaggapoiaa
set_option linter.unusedSimpArgs false
set_option linter.unusedVariables false
open Go.RowKit Go.Proofs
open Rx (NS)

set_option maxHeartbeats 1000000 in
theorem special_any (c : Nat) (w : World) (hc : c < 256) : Calls Try.prog 28 #[.int .u8 (c : Int)] w fun e w' => e = .returned (.bool (Rx.marks.contains c)) ∧ w' = w := by
  have e0 : (⟨#[40, 41, 91, 93, 124, 42, 43, 63, 92]⟩ : ByteArray)[0].toNat = 40 := rfl
  have e1 : (⟨#[40, 41, 91, 93, 124, 42, 43, 63, 92]⟩ : ByteArray)[1].toNat = 41 := rfl
  have e2 : (⟨#[40, 41, 91, 93, 124, 42, 43, 63, 92]⟩ : ByteArray)[2].toNat = 91 := rfl
  have e3 : (⟨#[40, 41, 91, 93, 124, 42, 43, 63, 92]⟩ : ByteArray)[3].toNat = 93 := rfl
  have e4 : (⟨#[40, 41, 91, 93, 124, 42, 43, 63, 92]⟩ : ByteArray)[4].toNat = 124 := rfl
  have e5 : (⟨#[40, 41, 91, 93, 124, 42, 43, 63, 92]⟩ : ByteArray)[5].toNat = 42 := rfl
  have e6 : (⟨#[40, 41, 91, 93, 124, 42, 43, 63, 92]⟩ : ByteArray)[6].toNat = 43 := rfl
  have e7 : (⟨#[40, 41, 91, 93, 124, 42, 43, 63, 92]⟩ : ByteArray)[7].toNat = 63 := rfl
  have e8 : (⟨#[40, 41, 91, 93, 124, 42, 43, 63, 92]⟩ : ByteArray)[8].toNat = 92 := rfl
  go_enter Try.func28, Try.ntmps28
  go_wp2
  go_rounds 10
  all_goals
    go_ret
    refine ⟨ret_bool ?_, rfl⟩
    simp only [e0, e1, e2, e3, e4, e5, e6, e7, e8, beq_iff_eq, beq_eq_false_iff_ne] at *
    rw [eq_comm]
    simp [Rx.marks]
    omega

/-- Whether a text has bytes alone that may be printed. -/
def prn (s : ByteArray) : Bool := (tx s).all fun b => decide (32 ≤ b.toNat ∧ b.toNat ≤ 126)
def prn1 (s : ByteArray) (k : Nat) : Bool := ((tx s).take k).all fun b => decide (32 ≤ b.toNat ∧ b.toNat ≤ 126)
theorem prn1_all (s : ByteArray) : prn1 s s.size = prn s := by unfold prn1 prn; rw [List.take_of_length_le (by simp)]
theorem prn1_succ (s : ByteArray) (k : Nat) (h : k < s.size) : prn1 s (k + 1) = (prn1 s k && decide (32 ≤ s[k].toNat ∧ s[k].toNat ≤ 126)) := by
  unfold prn1
  rw [List.take_succ_eq_append_getElem (by simpa using h), List.all_append]
  congr 1
  show (decide (32 ≤ s[k].toNat ∧ s[k].toNat ≤ 126) && true) = _
  rw [Bool.and_true]
theorem prn_false (s : ByteArray) (k : Nat) (h : k < s.size) (hb : s[k].toNat < 32 ∨ 126 < s[k].toNat) : prn s = false := by
  cases hp : prn s with
  | false => rfl
  | true =>
    have h1 := List.all_eq_true.1 hp s[k] (by
      have : (tx s)[k]'(by simpa using h) = s[k] := rfl
      rw [← this]; exact List.getElem_mem _)
    simp at h1; omega

set_option maxHeartbeats 1000000 in
theorem printable_any (s : ByteArray) (w : World) (hs : s.size ≤ 1000000) : Calls Try.prog 14 #[.string s] w fun e w' => e = .returned (.bool (prn s)) ∧ w' = w := by
  go_enter Try.func14, Try.ntmps14
  go_wp2
  go_loopw [3] (fun i wr => ∃ k : Nat, k ≤ s.size ∧ i = .int .i64 (k : Int) ∧ prn1 s k = true ∧ wr = w)
    (fun i _ => s.size - (intOf i).toNat)
  case atStart => exact ⟨0, Nat.zero_le _, rfl, by simp [prn1], rfl⟩
  case round =>
    obtain ⟨k, hk, rfl, hall, rfl⟩ := hrel
    have Hall := Lib.hid hall
    clear hall
    by_cases hlt : k < s.size
    · by_cases h1 : s[k].toNat < 32
      · have Hp := Lib.hid (prn_false s k hlt (.inl h1))
        have h1' : (s[k].toNat : Int) < 32 := by omega
        go_wp2
        go_ret
        exact ⟨ret_bool Hp.out.symm, rfl⟩
      · by_cases h2 : 126 < s[k].toNat
        · have Hp := Lib.hid (prn_false s k hlt (.inr h2))
          have h1' : ¬ (s[k].toNat : Int) < 32 := by omega
          have h2' : (126 : Int) < s[k].toNat := by omega
          go_wp2
          go_ret
          exact ⟨ret_bool Hp.out.symm, rfl⟩
        · have Hp := Lib.hid (prn1_succ s k hlt)
          have h1' : ¬ (s[k].toNat : Int) < 32 := by omega
          have h2' : ¬ (126 : Int) < s[k].toNat := by omega
          go_wp2
          go_roundw
          case rel =>
            refine ⟨k + 1, by omega, by go_num, ?_, by trivial⟩
            rw [Hp.out, Hall.out]; simp; omega
          case measure => simp [intOf]; omega
    · obtain rfl : k = s.size := by omega
      have Hp := Lib.hid (prn1_all s)
      go_wp2
      go_ret
      exact ⟨ret_bool (Hall.out.symm.trans Hp.out), rfl⟩

/-- A text with strokes, up to a place. -/
def qstr (s : ByteArray) (k : Nat) : ByteArray := ⟨(quoted ((tx s).take k)).toArray⟩
theorem qstr_size (s : ByteArray) (k : Nat) : (qstr s k).size ≤ 2 * s.size := by
  have := quoted_length ((tx s).take k)
  have h2 : ((tx s).take k).length ≤ s.size := by simp; omega
  show (quoted ((tx s).take k)).toArray.size ≤ _
  simp; omega
theorem qstr_all (s : ByteArray) : qstr s s.size = ⟨(quoted (tx s)).toArray⟩ := by unfold qstr; rw [List.take_of_length_le (by simp)]

theorem extract_one (s : ByteArray) (k : Nat) (h : k < s.size) : s.extract k (k + 1) = ⟨#[s[k]]⟩ := by
  apply ByteArray.ext
  apply Array.ext
  · simp; omega
  · intro i h1 h2
    have hi : i = 0 := by simp at h2; omega
    subst hi
    simp
    rfl
theorem qstr_plain (s : ByteArray) (k : Nat) (h : k < s.size) (hs : special.contains s[k].toNat = false) : qstr s (k + 1) = qstr s k ++ s.extract k (k + 1) := by
  rw [extract_one s k h]
  apply ByteArray.ext
  unfold qstr
  rw [take_quoted s k h, if_neg (by rw [hs]; decide)]
  simp
theorem qstr_special (s : ByteArray) (k : Nat) (h : k < s.size) (hs : special.contains s[k].toNat = true) : qstr s (k + 1) = qstr s k ++ ⟨#[92]⟩ ++ s.extract k (k + 1) := by
  rw [extract_one s k h]
  apply ByteArray.ext
  unfold qstr
  rw [take_quoted s k h, if_pos hs]
  simp
theorem special_iff (c : Nat) : special.contains c = (Rx.marks.contains c || c == 46) := by
  simp only [special, Rx.marks, List.contains_cons, List.contains_nil, Bool.or_assoc, Bool.or_false]

set_option maxHeartbeats 2000000 in
theorem refquote_any (s : ByteArray) (w : World) (hs : s.size ≤ 1000) : Calls Try.prog 16 #[.string s] w fun e w' => e = .returned (.string ⟨(quoted (tx s)).toArray⟩) ∧ w' = w := by
  go_enter Try.func16, Try.ntmps16
  go_wp2
  go_loopw [4, 3] (fun i v wr => ∃ k : Nat, k ≤ s.size ∧ i = .int .i64 (k : Int) ∧ v = .string (qstr s k) ∧ wr = w)
    (fun i _ _ => s.size - (intOf i).toNat)
  case atStart => exact ⟨0, Nat.zero_le _, rfl, rfl, rfl⟩
  case round =>
    obtain ⟨k, hk, rfl, rfl, rfl⟩ := hrel
    have hqs := qstr_size s k
    have h92 : (⟨#[92]⟩ : ByteArray).size = 1 := rfl
    by_cases hlt : k < s.size
    · have hc256 : s[k].toNat < 256 := s[k].toNat_lt
      have hex : (s.extract k (k + 1)).size = 1 := by rw [extract_one s k hlt]; rfl
      have hsi := special_iff s[k].toNat
      cases hm : Rx.marks.contains s[k].toNat with
      | true =>
        have Hq := Lib.hid (qstr_special s k hlt (by rw [hsi, hm, Bool.true_or]))
        have Hm := Lib.hid hm
        clear hm hsi
        go_wp2_with (go_at_call 28; refine (special_any _ _ hc256).mono ?_; rintro e w' ⟨rfl, hw'⟩; subst w'; rw [Hm.out])
        go_roundw
        case rel => exact ⟨k + 1, by omega, by go_num, congrArg Value.string Hq.out.symm, trivial⟩
        case measure => simp [intOf]; omega
      | false =>
        by_cases h46 : s[k].toNat = 46
        · have Hq := Lib.hid (qstr_special s k hlt (by rw [hsi, hm]; simp [h46]))
          have Hm := Lib.hid hm
          have H46 := Lib.hid (show (s[k].toNat : Int) = 46 by omega)
          clear hm hsi h46
          go_wp2_with (go_at_call 28; refine (special_any _ _ hc256).mono ?_; rintro e w' ⟨rfl, hw'⟩; subst w'; rw [Hm.out]; have h46' := H46.out)
          go_roundw
          case rel => exact ⟨k + 1, by omega, by go_num, congrArg Value.string Hq.out.symm, trivial⟩
          case measure => simp [intOf]; omega
        · have Hq := Lib.hid (qstr_plain s k hlt (by rw [hsi, hm]; simp [h46]))
          have Hm := Lib.hid hm
          have h46' : ¬ (s[k].toNat : Int) = 46 := by omega
          clear hm hsi h46
          go_wp2_with (go_at_call 28; refine (special_any _ _ hc256).mono ?_; rintro e w' ⟨rfl, hw'⟩; subst w'; rw [Hm.out])
          go_roundw
          case rel => exact ⟨k + 1, by omega, by go_num, congrArg Value.string Hq.out.symm, trivial⟩
          case measure => simp [intOf]; omega
    · obtain rfl : k = s.size := by omega
      have Hq := Lib.hid (qstr_all s)
      go_wp2
      go_ret
      refine ⟨?_, rfl⟩
      rw [Hq.out]; rfl

end Go.Proofs.Ytnbghiaggapoiaa
