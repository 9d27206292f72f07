/- The laws' first call: two fixed patterns, as they are read, and what they take. -/
import Derived.Test.YtnbghiaggapoiaaQuote
import Derived.Test.YtnbghiaggapoiaaRegex
namespace Go.Proofs.Ytnbghiaggapoiaa
set_option linter.unusedSimpArgs false
set_option linter.unusedVariables false
open Go.RowKit Go.Proofs
open Rx (NS Got)

theorem compile_ok (s : ByteArray) (w : World) (r : Rx.Re) (h : Rx.parse (tx s) = .ok r) (hs : s.size ≤ 64) :
    Calls Try.prog 9 #[.string s] w fun e w' => ∃ rb F, e = .returned (.tuple #[.pointer (some ⟨rb, 0, none⟩), .int .i64 0, .int .i64 0]) ∧ RegexAt w' w.heap.size rb s r F ∧ Below w.heap.size w w' :=
  (compile_any s w hs).mono fun e w' h' => by
    obtain ⟨hb, hm⟩ := h'
    rw [h] at hm
    obtain ⟨rb, F, h1, h2⟩ := hm
    exact ⟨rb, F, h1, h2, hb⟩
theorem compile_bad (s : ByteArray) (w : World) (i c : Nat) (h : Rx.parse (tx s) = .bad i c) (hs : s.size ≤ 64) :
    Calls Try.prog 9 #[.string s] w fun e w' => e = .returned (.tuple #[.pointer none, .int .i64 (i : Int), .int .i64 (c : Int)]) ∧ Below w.heap.size w w' :=
  (compile_any s w hs).mono fun e w' h' => by
    obtain ⟨hb, hm⟩ := h'
    rw [h] at hm
    exact ⟨hm, hb⟩

def pat0 : ByteArray := ⟨#[97, 40, 98, 124, 99, 41, 42, 91, 48, 45, 57, 93, 63, 92, 46]⟩
def re0 : Rx.Re := match Rx.parse (tx pat0) with
  | .ok r => r
  | .bad _ _ => .alt0

theorem bstep {n : Nat} {a b c : World} (h : Below n a b) (k : Below b.heap.size b c) (hn : n ≤ a.heap.size) : Below n a c := h.trans (k.mono (Nat.le_trans hn h.size))

set_option maxHeartbeats 1000000 in
theorem known_any (w : World) : Calls Try.prog 8 #[] w fun e w' => e = .returned (.bool true) ∧ Below w.heap.size w w' := by
  obtain ⟨r0, p0, i0, i1, i2, i3⟩ : ∃ r, Rx.parse (tx ⟨#[97, 40, 98, 124, 99, 41, 42, 91, 48, 45, 57, 93, 63, 92, 46]⟩) = .ok r ∧ isOf r ⟨#[97, 98, 99, 99, 98, 55, 46]⟩ = true ∧ isOf r ⟨#[97, 46]⟩ = true ∧ isOf r ⟨#[97, 55]⟩ = false ∧ isOf r ⟨#[120, 97, 46]⟩ = false :=
    ⟨re0, by kernel_rfl, by kernel_rfl, by kernel_rfl, by kernel_rfl, by kernel_rfl⟩
  have p1 : Rx.parse (tx ⟨#[97, 98, 40]⟩) = .bad 3 2 := by kernel_rfl
  have iq : (⟨(quoted (tx ⟨#[97, 46, 98]⟩)).toArray⟩ : ByteArray) = ⟨#[97, 92, 46, 98]⟩ := by kernel_rfl
  have s0 : (⟨#[97, 40, 98, 124, 99, 41, 42, 91, 48, 45, 57, 93, 63, 92, 46]⟩ : ByteArray).size ≤ 64 := by decide
  have s1 : (⟨#[97, 98, 40]⟩ : ByteArray).size ≤ 64 := by decide
  have S0 := Lib.hid s0
  have S1 := Lib.hid s1
  clear s0 s1
  have P0 := Lib.hid p0
  have P1 := Lib.hid p1
  clear p0 p1
  go_enter Try.func8, Try.ntmps8
  go_wp2_with fail
  go_at_call 9
  refine (compile_ok ⟨#[97, 40, 98, 124, 99, 41, 42, 91, 48, 45, 57, 93, 63, 92, 46]⟩ _ _ P0.out S0.out).mono ?_
  rintro e w1 ⟨rb, F, rfl, hr, hb⟩
  have HR := Lib.hid hr
  have HB := Lib.hid hb
  clear hr hb
  go_wp2_with fail
  go_at_call 9
  refine (compile_bad ⟨#[97, 98, 40]⟩ _ _ _ P1.out S1.out).mono ?_
  rintro e w2 ⟨rfl, hb⟩
  have HR2 := Lib.hid (HR.out.kept hb)
  have HB2 := Lib.hid (bstep HB.out hb (Nat.le_refl _))
  clear HR HB hb
  have HR := HR2
  have HB := HB2
  clear HR2 HB2
  go_wp2_with (first
    | (go_at_call 12; refine (match_re _ _ _ _ _ _ _ HR.out P0.out (by decide)).mono ?_; rintro e w3 ⟨rfl, hb⟩
       have HR2 := Lib.hid (HR.out.kept hb)
       have HB2 := Lib.hid (bstep HB.out hb (Nat.le_refl _))
       clear HR HB hb
       have HR := HR2
       have HB := HB2
       clear HR2 HB2)
    | (go_at_call 11; refine (text_re _ _ _ _ _ _ HR.out).mono ?_; rintro e w3 ⟨rfl, hw'⟩; subst w3)
    | (go_at_call 15; refine (quote_any _ _ (by decide)).mono ?_; rintro e w3 ⟨rfl, hb⟩
       have HB2 := Lib.hid (bstep HB.out hb (Nat.le_refl _))
       clear HB hb
       have HB := HB2
       clear HB2))
  go_ret
  exact ⟨rfl, HB.out⟩

end Go.Proofs.Ytnbghiaggapoiaa
