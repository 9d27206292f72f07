/- The law RegexTimes, walked: whatever the two texts and the number, it answers true and leaves what was there. -/
import Derived.Test.YtnbghiaggapoiaaAlone
import Derived.DataShut
namespace Go.Proofs.Ytnbghiaggapoiaa
set_option linter.unusedSimpArgs false
set_option linter.unusedVariables false
open Go.RowKit Go.Proofs
open Rx (NS Got)

/-- A text some times. -/
def rept (s : ByteArray) (n : Nat) : ByteArray := ⟨(List.replicate n (tx s)).flatten.toArray⟩
theorem rept_succ (s : ByteArray) (n : Nat) : rept s n ++ s = rept s (n + 1) := by
  apply ByteArray.ext
  apply Array.ext'
  simp only [rept, ByteArray.data_append, Array.toList_append]
  rw [List.replicate_succ', List.flatten_append]
  simp
theorem rept_size (s : ByteArray) (n : Nat) : (rept s n).size = n * s.size := by
  show (List.replicate n (tx s)).flatten.toArray.size = _
  simp
theorem bys_rept (s : ByteArray) (n : Nat) : bys (rept s n) = (List.replicate n (bys s)).flatten := by
  show ((List.replicate n (tx s)).flatten).map (fun b => b.toNat) = _
  rw [List.map_flatten, List.map_replicate]

theorem brk_text (p : ByteArray) : tx (⟨#[40]⟩ ++ p ++ ⟨#[41]⟩) = Rx.brk (tx p) := by simp [Rx.brk]
theorem brk_size (p : ByteArray) : (⟨#[40]⟩ ++ p ++ ⟨#[41]⟩ : ByteArray).size = p.size + 2 := by
  rw [ByteArray.size_append, ByteArray.size_append]; show 1 + p.size + 1 = _; omega
theorem mark_text (p : ByteArray) (b : UInt8) : tx (⟨#[40]⟩ ++ p ++ ⟨#[41, b]⟩) = 40 :: (tx p ++ [41, b]) := by simp
theorem mark_size (p : ByteArray) (b : UInt8) : (⟨#[40]⟩ ++ p ++ ⟨#[41, b]⟩ : ByteArray).size = p.size + 3 := by
  rw [ByteArray.size_append, ByteArray.size_append]; show 1 + p.size + 2 = _; omega

/-- What the patterns of the law are, where the first one may be. -/
theorem times_re (p : ByteArray) (r : Rx.Re) (h : Rx.parse (tx p) = .ok r) (hl : p.size ≤ 50) :
    (∃ k, Rx.parse (tx (⟨#[40]⟩ ++ p ++ ⟨#[41]⟩)) = .bad k 4) ∨ ∃ a b c, Rx.parse (tx (⟨#[40]⟩ ++ p ++ ⟨#[41]⟩)) = .ok a ∧ Rx.parse (tx (⟨#[40]⟩ ++ p ++ ⟨#[41, 42]⟩)) = .ok b ∧ Rx.parse (tx (⟨#[40]⟩ ++ p ++ ⟨#[41, 43]⟩)) = .ok c ∧
      ∀ s : ByteArray, isOf a s = true → (∀ n, isOf b (rept s n) = true ∧ (0 < n → isOf c (rept s n) = true)) ∧ isOf b ⟨#[]⟩ = true ∧ isOf c ⟨#[]⟩ = isOf a ⟨#[]⟩ := by
  obtain ⟨d, hd⟩ := Rx.depth_of h
  have hlp : (tx p).length ≤ 50 := by simpa using hl
  obtain ⟨h1, h2⟩ := Rx.parse_brk hd (by omega)
  by_cases h9 : 9 < 1 + d
  · obtain ⟨k, hk⟩ := h2 h9
    exact .inl ⟨k, by rw [brk_text]; exact hk⟩
  · have e1 := h1 (by omega)
    have e2 := Rx.parse_mark hd (by omega) (by omega) 42 (.inl rfl)
    have e3 := Rx.parse_mark hd (by omega) (by omega) 43 (.inr (.inl rfl))
    rw [if_pos (by decide)] at e2
    rw [if_neg (by decide), if_pos (by decide)] at e3
    refine .inr ⟨_, _, _, by rw [brk_text]; exact e1, by rw [mark_text]; exact e2, by rw [mark_text]; exact e3, fun s hs => ?_⟩
    have w1 := (Rx.parse_wf e1).1
    have w2 := (Rx.parse_wf e2).1
    have w3 := (Rx.parse_wf e3).1
    rw [isOf_iff w1, Rx.lang_alt0] at hs
    refine ⟨fun n => ?_, ?_, ?_⟩
    · have := Rx.lang_times hs n
      rw [isOf_iff w2, isOf_iff w3, Rx.lang_alt0, Rx.lang_alt0, bys_rept]
      exact this
    · rw [isOf_iff w2, Rx.lang_alt0]; exact .star0
    · rw [Bool.eq_iff_iff, isOf_iff w3, isOf_iff w1, Rx.lang_alt0, Rx.lang_alt0]
      exact Rx.plus_nil

set_option maxHeartbeats 2000000 in
theorem regextimes_any (p s : ByteArray) (a2 : Int) (w : World) (hp : p.size ≤ 140737488351232) (hs : s.size ≤ 140737488351232) (w2 : (Lit.int .u8 a2).wf = true) :
    Calls Try.prog 6 #[.string p, .string s, .int .u8 a2] w fun e w' => e = .returned (.bool true) ∧ Below w.heap.size w w' := by
  have hb2 := (Lit.wf_int_iff .u8 a2).1 w2
  have m1 : IntKind.u8.min = 0 := rfl
  have m2 : IntKind.u8.max = 255 := rfl
  rw [m1, m2] at hb2
  obtain ⟨hn0, hn1⟩ := hb2
  clear w2 m1 m2
  by_cases h1 : p.size ≤ 50
  · by_cases h2 : s.size ≤ 10
    · cases hpr : Rx.parse (tx p) with
      | bad i c =>
        have HA := Lib.hid (fun W => alone_bad p W i c hpr hp)
        clear hpr
        go_enter Try.func6, Try.ntmps6
        go_wp2_with (first
          | (go_at_call 8; refine (known_any _).mono ?_; rintro e w1 ⟨rfl, hb⟩; have HB := Lib.hid hb; clear hb)
          | (go_at_call 17; refine (HA.out _).mono ?_; rintro e w2 ⟨rfl, hb⟩
             have HB2 := Lib.hid (bstep HB.out hb (Nat.le_refl _))
             clear HB hb))
        go_ret
        exact ⟨rfl, HB2.out⟩
      | ok r =>
        have HA := Lib.hid (fun W => alone_ok p W r hpr)
        rcases times_re p r hpr h1 with ⟨k, hk⟩ | ⟨a, b, c, ha, hb, hc, hall⟩
        · have C1 := Lib.hid (fun W => compile_bad _ W _ _ hk (by rw [brk_size]; omega))
          clear hk hpr
          go_enter Try.func6, Try.ntmps6
          go_wp2_with (first
            | (go_at_call 8; refine (known_any _).mono ?_; rintro e w1 ⟨rfl, hb⟩; have HB := Lib.hid hb; clear hb)
            | (go_at_call 17; refine (HA.out _).mono ?_; rintro e w2 ⟨rfl, hb⟩
               have HB2 := Lib.hid (bstep HB.out hb (Nat.le_refl _))
               clear HB hb)
            | (go_at_call 9; refine (C1.out _).mono ?_; rintro e w3 ⟨rfl, hb⟩
               have HB3 := Lib.hid (bstep HB2.out hb (Nat.le_refl _))
               clear HB2 hb))
          go_ret
          exact ⟨rfl, HB3.out⟩
        · have C1 := Lib.hid (fun W => compile_ok _ W _ ha (by rw [brk_size]; omega))
          have HPa := Lib.hid ha
          have Z0 := Lib.hid (show s.size ≤ 1000000 by omega)
          cases hm : isOf a s with
          | false =>
            clear ha hb hc hall hpr
            go_enter Try.func6, Try.ntmps6
            go_wp2_with (first
              | (go_at_call 8; refine (known_any _).mono ?_; rintro e w1 ⟨rfl, hb⟩; have HB := Lib.hid hb; clear hb)
              | (go_at_call 17; refine (HA.out _).mono ?_; rintro e w2 ⟨rfl, hb⟩
                 have HB2 := Lib.hid (bstep HB.out hb (Nat.le_refl _))
                 clear HB hb)
              | (go_at_call 9; refine (C1.out _).mono ?_; rintro e w3 ⟨rb, F, rfl, hr, hb⟩
                 have HR := Lib.hid hr
                 have HB3 := Lib.hid (bstep HB2.out hb (Nat.le_refl _))
                 clear HB2 hb hr)
              | (go_at_call 12; refine (match_re _ _ _ _ _ _ _ HR.out HPa.out Z0.out).mono ?_; rintro e w4 ⟨rfl, hb⟩
                 have HB4 := Lib.hid (bstep HB3.out hb (Nat.le_refl _))
                 clear HB3 hb))
            go_ret
            exact ⟨rfl, HB4.out⟩
          | true =>
            obtain ⟨ht, hb0, hc0⟩ := hall s hm
            obtain ⟨K, hK, hK4⟩ : ∃ K : Nat, a2 % 5 = (K : Int) ∧ K ≤ 4 := ⟨(a2 % 5).toNat, by omega, by omega⟩
            have hT := (ht K).1
            have hTp := Lib.hid (ht K).2
            have C2 := Lib.hid (fun W => compile_ok _ W _ hb (by rw [mark_size]; omega))
            have C3 := Lib.hid (fun W => compile_ok _ W _ hc (by rw [mark_size]; omega))
            have HPb := Lib.hid hb
            have HPc := Lib.hid hc
            have Z1 := Lib.hid (show (rept s K).size ≤ 1000000 by rw [rept_size]; have : K * s.size ≤ 4 * 10 := Nat.mul_le_mul hK4 h2; omega)
            have Z2 := Lib.hid (show (⟨#[]⟩ : ByteArray).size ≤ 1000000 by decide)
            clear ha hb hc hall hpr ht
            have hKc : K = 0 ∨ (0 < K ∧ isOf c (rept s K) = true) := by
              by_cases h : K = 0
              · exact .inl h
              · exact .inr ⟨by omega, hTp.out (by omega)⟩
            have HT := Lib.hid hT
            clear hT hTp
            go_enter Try.func6, Try.ntmps6
            go_wp2_with (first
              | (go_at_call 8; refine (known_any _).mono ?_; rintro e w1 ⟨rfl, hb⟩; have HB1 := Lib.hid hb; clear hb)
              | (go_at_call 17; refine (HA.out _).mono ?_; rintro e w2 ⟨rfl, hb⟩
                 have HB := Lib.hid (bstep HB1.out hb (Nat.le_refl _))
                 clear HB1 hb))
            go_wp2_with fail
            go_at_call 9
            refine (C1.out _).mono ?_
            rintro e w6 ⟨rHR, FHR, rfl, hr, hb⟩
            have HR := Lib.hid hr
            have HBN := Lib.hid (bstep HB.out hb (Nat.le_refl _))
            clear HB hb hr
            have HB := HBN
            clear HBN
            go_wp2_with fail
            go_at_call 12
            refine (match_re _ _ _ _ _ _ _ HR.out HPa.out Z0.out).mono ?_
            rintro e w7 ⟨rfl, hb⟩
            have HRN := Lib.hid (HR.out.kept hb)
            have HBN := Lib.hid (bstep HB.out hb (Nat.le_refl _))
            clear HR HB hb
            have HR := HRN
            have HB := HBN
            clear HBN HRN
            go_wp2_with fail
            go_at_call 9
            refine (C2.out _).mono ?_
            rintro e w6 ⟨rHS, FHS, rfl, hr, hb⟩
            have HS := Lib.hid hr
            have HRN := Lib.hid (HR.out.kept hb)
            have HBN := Lib.hid (bstep HB.out hb (Nat.le_refl _))
            clear HR HB hb hr
            have HR := HRN
            have HB := HBN
            clear HBN HRN
            go_wp2_with fail
            go_at_call 9
            refine (C3.out _).mono ?_
            rintro e w6 ⟨rHQ, FHQ, rfl, hr, hb⟩
            have HQ := Lib.hid hr
            have HRN := Lib.hid (HR.out.kept hb)
            have HSN := Lib.hid (HS.out.kept hb)
            have HBN := Lib.hid (bstep HB.out hb (Nat.le_refl _))
            clear HR HS HB hb hr
            have HR := HRN
            have HS := HSN
            have HB := HBN
            clear HBN HRN HSN
            go_wp2_with fail
            obtain ⟨w0, hw0⟩ : ∃ w0, w0 = w6 := ⟨_, rfl⟩
            subst hw0
            go_loopw [16, 17] (fun t i wr => ∃ k : Nat, k ≤ K ∧ i = .int .i64 (k : Int) ∧ t = .string (rept s k) ∧ wr = w0) (fun _ i _ => 5 - (intOf i).toNat)
            case atStart => exact ⟨0, Nat.zero_le _, rfl, rfl, rfl⟩
            case round =>
              obtain ⟨k, hk, rfl, rfl, rfl⟩ := hrel
              have hsz : (rept s k).size ≤ 100 := by rw [rept_size]; have : k * s.size ≤ 4 * 10 := Nat.mul_le_mul (by omega) h2; omega
              by_cases hlt : k < K
              · have HE := Lib.hid (rept_succ s k)
                go_wp2_with fail
                go_roundw
                case rel => exact ⟨k + 1, by omega, by go_num, by rw [HE.out], trivial⟩
                case measure => simp [intOf]; omega
              · obtain rfl : k = K := by omega
                have hT := HT.out
                rcases hKc with hK0 | ⟨hK0, hTp⟩
                · subst hK0
                  go_wp2_with fail
                  go_at_call 12
                  refine (match_re _ _ _ _ _ _ _ HS.out HPb.out Z1.out).mono ?_
                  rintro e w7 ⟨rfl, hb⟩
                  have HRN := Lib.hid (HR.out.kept hb)
                  have HSN := Lib.hid (HS.out.kept hb)
                  have HQN := Lib.hid (HQ.out.kept hb)
                  have HBN := Lib.hid (bstep HB.out hb (Nat.le_refl _))
                  clear HR HS HQ HB hb
                  have HR := HRN
                  have HS := HSN
                  have HQ := HQN
                  have HB := HBN
                  clear HBN HRN HSN HQN
                  go_wp2_with fail
                  go_at_call 12
                  refine (match_re _ _ _ _ _ _ _ HS.out HPb.out Z2.out).mono ?_
                  rintro e w7 ⟨rfl, hb⟩
                  have HRN := Lib.hid (HR.out.kept hb)
                  have HSN := Lib.hid (HS.out.kept hb)
                  have HQN := Lib.hid (HQ.out.kept hb)
                  have HBN := Lib.hid (bstep HB.out hb (Nat.le_refl _))
                  clear HR HS HQ HB hb
                  have HR := HRN
                  have HS := HSN
                  have HQ := HQN
                  have HB := HBN
                  clear HBN HRN HSN HQN
                  go_wp2_with fail
                  go_at_call 12
                  refine (match_re _ _ _ _ _ _ _ HQ.out HPc.out Z2.out).mono ?_
                  rintro e w7 ⟨rfl, hb⟩
                  have HRN := Lib.hid (HR.out.kept hb)
                  have HSN := Lib.hid (HS.out.kept hb)
                  have HQN := Lib.hid (HQ.out.kept hb)
                  have HBN := Lib.hid (bstep HB.out hb (Nat.le_refl _))
                  clear HR HS HQ HB hb
                  have HR := HRN
                  have HS := HSN
                  have HQ := HQN
                  have HB := HBN
                  clear HBN HRN HSN HQN
                  go_wp2_with fail
                  go_at_call 12
                  refine (match_re _ _ _ _ _ _ _ HR.out HPa.out Z2.out).mono ?_
                  rintro e w7 ⟨rfl, hb⟩
                  have HRN := Lib.hid (HR.out.kept hb)
                  have HSN := Lib.hid (HS.out.kept hb)
                  have HQN := Lib.hid (HQ.out.kept hb)
                  have HBN := Lib.hid (bstep HB.out hb (Nat.le_refl _))
                  clear HR HS HQ HB hb
                  have HR := HRN
                  have HS := HSN
                  have HQ := HQN
                  have HB := HBN
                  clear HBN HRN HSN HQN
                  go_wp2_with fail
                  go_ret
                  exact ⟨rfl, HB.out⟩
                · have e0 : ((k : Int) == 0) = false := by simp; omega
                  go_wp2_with fail
                  go_at_call 12
                  refine (match_re _ _ _ _ _ _ _ HS.out HPb.out Z1.out).mono ?_
                  rintro e w7 ⟨rfl, hb⟩
                  have HRN := Lib.hid (HR.out.kept hb)
                  have HSN := Lib.hid (HS.out.kept hb)
                  have HQN := Lib.hid (HQ.out.kept hb)
                  have HBN := Lib.hid (bstep HB.out hb (Nat.le_refl _))
                  clear HR HS HQ HB hb
                  have HR := HRN
                  have HS := HSN
                  have HQ := HQN
                  have HB := HBN
                  clear HBN HRN HSN HQN
                  go_wp2_with fail
                  go_at_call 12
                  refine (match_re _ _ _ _ _ _ _ HS.out HPb.out Z2.out).mono ?_
                  rintro e w7 ⟨rfl, hb⟩
                  have HRN := Lib.hid (HR.out.kept hb)
                  have HSN := Lib.hid (HS.out.kept hb)
                  have HQN := Lib.hid (HQ.out.kept hb)
                  have HBN := Lib.hid (bstep HB.out hb (Nat.le_refl _))
                  clear HR HS HQ HB hb
                  have HR := HRN
                  have HS := HSN
                  have HQ := HQN
                  have HB := HBN
                  clear HBN HRN HSN HQN
                  go_wp2_with fail
                  go_at_call 12
                  refine (match_re _ _ _ _ _ _ _ HQ.out HPc.out Z1.out).mono ?_
                  rintro e w7 ⟨rfl, hb⟩
                  have HRN := Lib.hid (HR.out.kept hb)
                  have HSN := Lib.hid (HS.out.kept hb)
                  have HQN := Lib.hid (HQ.out.kept hb)
                  have HBN := Lib.hid (bstep HB.out hb (Nat.le_refl _))
                  clear HR HS HQ HB hb
                  have HR := HRN
                  have HS := HSN
                  have HQ := HQN
                  have HB := HBN
                  clear HBN HRN HSN HQN
                  go_wp2_with fail
                  go_at_call 12
                  refine (match_re _ _ _ _ _ _ _ HQ.out HPc.out Z2.out).mono ?_
                  rintro e w7 ⟨rfl, hb⟩
                  have HRN := Lib.hid (HR.out.kept hb)
                  have HSN := Lib.hid (HS.out.kept hb)
                  have HQN := Lib.hid (HQ.out.kept hb)
                  have HBN := Lib.hid (bstep HB.out hb (Nat.le_refl _))
                  clear HR HS HQ HB hb
                  have HR := HRN
                  have HS := HSN
                  have HQ := HQN
                  have HB := HBN
                  clear HBN HRN HSN HQN
                  go_wp2_with fail
                  go_at_call 12
                  refine (match_re _ _ _ _ _ _ _ HR.out HPa.out Z2.out).mono ?_
                  rintro e w7 ⟨rfl, hb⟩
                  have HRN := Lib.hid (HR.out.kept hb)
                  have HSN := Lib.hid (HS.out.kept hb)
                  have HQN := Lib.hid (HQ.out.kept hb)
                  have HBN := Lib.hid (bstep HB.out hb (Nat.le_refl _))
                  clear HR HS HQ HB hb
                  have HR := HRN
                  have HS := HSN
                  have HQ := HQN
                  have HB := HBN
                  clear HBN HRN HSN HQN
                  go_wp2_with fail
                  go_ret
                  exact ⟨rfl, HB.out⟩
    · go_enter Try.func6, Try.ntmps6
      go_wp2_with (go_at_call 8; refine (known_any _).mono ?_; rintro e w1 ⟨rfl, hb⟩; have HB := Lib.hid hb; clear hb)
      go_ret
      exact ⟨rfl, HB.out⟩
  · go_enter Try.func6, Try.ntmps6
    go_wp2_with (go_at_call 8; refine (known_any _).mono ?_; rintro e w1 ⟨rfl, hb⟩; have HB := Lib.hid hb; clear hb)
    go_ret
    exact ⟨rfl, HB.out⟩

end Go.Proofs.Ytnbghiaggapoiaa
