/- The law RegexQuote, walked: whatever the two texts, it answers true and leaves what was there. -/
import Derived.Test.YtnbghiaggapoiaaKnown
import Derived.Test.YtnbghiaggapoiaaQuoted
import Derived.Test.YtnbghiaggapoiaaRefText
import Derived.ShutString
import Derived.ProofKit
namespace Go.Proofs.Ytnbghiaggapoiaa
set_option linter.unusedSimpArgs false
set_option linter.unusedVariables false
open Go.RowKit Go.Proofs
open Rx (NS Got)

theorem fine_all {s : ByteArray} (h : prn s = true) : ∀ b ∈ tx s, Rx.fine b := fun b hb => by
  have := List.all_eq_true.1 h b hb
  simpa [Rx.fine] using this

theorem quoted_re (s : ByteArray) (h0 : s.size ≠ 0) (h1 : s.size ≤ 30) (hp : prn s = true) :
    ∃ r Q, Q = (⟨(quoted (tx s)).toArray⟩ : ByteArray) ∧ Q.size ≤ 64 ∧ Rx.parse (tx Q) = .ok r ∧ ∀ u : ByteArray, isOf r u = decide (s = u) := by
  have hf := fine_all hp
  have hlen : (tx s).length = s.size := by simp
  cases hs : tx s with
  | nil => rw [hs] at hlen; simp at hlen; omega
  | cons b l =>
    rw [hs] at hf hlen
    simp only [List.length_cons] at hlen
    have hpq := Rx.parse_q b l hf (by omega)
    have hq := quoted_length (b :: l)
    refine ⟨Rx.textRe b l, _, rfl, ?_, hpq, fun u => ?_⟩
    · show (quoted (b :: l)).toArray.size ≤ 64
      simp only [List.length_cons] at hq
      simp; omega
    · have hl := Rx.lang_text b l (bys u)
      have hi := isOf_iff (Rx.parse_wf hpq).1 u
      rw [Bool.eq_iff_iff, hi, hl, decide_eq_true_iff, ← hs]
      constructor
      · intro h
        apply ByteArray.ext
        apply Array.ext'
        have h' : (tx u).map (fun b => b.toNat) = (tx s).map fun b => b.toNat := h
        exact ((List.map_inj_right (fun a b h => UInt8.toNat_inj.1 h)).1 h').symm
      · rintro rfl; rfl

set_option maxHeartbeats 1000000 in
theorem regexquote_any (s t : ByteArray) (w : World) (hs : s.size ≤ 140737488351232) (ht : t.size ≤ 140737488351232) :
    Calls Try.prog 4 #[.string s, .string t] w fun e w' => e = .returned (.bool true) ∧ Below w.heap.size w w' := by
  by_cases h1 : s.size ≤ 30
  · by_cases h2 : t.size ≤ 30
    · by_cases h3 : s.toList = []
      · go_enter Try.func4, Try.ntmps4
        go_wp2_with (go_at_call 8; refine (known_any _).mono ?_; rintro e w1 ⟨rfl, hb⟩; have HB := Lib.hid hb; clear hb)
        go_ret
        exact ⟨rfl, HB.out⟩
      · cases hp : prn s with
        | false =>
          go_enter Try.func4, Try.ntmps4
          go_wp2_with (first
            | (go_at_call 8; refine (known_any _).mono ?_; rintro e w1 ⟨rfl, hb⟩; have HB := Lib.hid hb; clear hb)
            | (go_at_call 14; refine (printable_any _ _ (by omega)).mono ?_; rintro e w2 ⟨rfl, hw⟩; subst w2))
          go_ret
          exact ⟨rfl, HB.out⟩
        | true =>
          obtain ⟨r, Q, hQ, hQs, hpr, hof⟩ := quoted_re s (fun h => h3 (by rw [ByteArray.toList_eq]; exact List.length_eq_zero_iff.1 (by simpa using h))) h1 hp
          have hm1 : isOf r s = true := by rw [hof]; simp
          have hm2 := hof t
          have hE : (decide (s = t) == (s.toList == t.toList)) = true := by
            rw [ByteArray.toList_eq, ByteArray.toList_eq, beq_iff_eq, Bool.eq_iff_iff, decide_eq_true_iff, beq_iff_eq]
            constructor
            · rintro rfl; rfl
            · exact fun h => ByteArray.ext (Array.ext' h)
          have HQ := Lib.hid hQ
          have HPR := Lib.hid hpr
          have HQS := Lib.hid hQs
          clear hof hpr hQ hQs
          go_enter Try.func4, Try.ntmps4
          go_wp2_with (first
            | (go_at_call 8; refine (known_any _).mono ?_; rintro e w1 ⟨rfl, hb⟩; have HB := Lib.hid hb; clear hb)
            | (go_at_call 14; refine (printable_any _ _ (by omega)).mono ?_; rintro e w2 ⟨rfl, hw⟩; subst w2)
            | (go_at_call 15; refine (quote_any _ _ (by omega)).mono ?_; rintro e w2 ⟨he, hb⟩; rw [← HQ.out] at he; subst he
               have HB2 := Lib.hid (bstep HB.out hb (Nat.le_refl _))
               clear HB hb
               have HB := HB2
               clear HB2)
            | (go_at_call 16; refine (refquote_any _ _ (by omega)).mono ?_; rintro e w2 ⟨he, hw⟩; subst w2; rw [← HQ.out] at he; subst he)
            | (go_at_call 9; refine (compile_ok Q _ _ HPR.out HQS.out).mono ?_; rintro e w2 ⟨rb, F, rfl, hr, hb⟩
               have HR := Lib.hid hr
               have HB2 := Lib.hid (bstep HB.out hb (Nat.le_refl _))
               clear HB hb hr
               have HB := HB2
               clear HB2)
            | (go_at_call 12; refine (match_re _ _ _ _ _ _ _ HR.out HPR.out (by omega)).mono ?_; rintro e w3 ⟨rfl, hb⟩
               have HR2 := Lib.hid (HR.out.kept hb)
               have HB2 := Lib.hid (bstep HB.out hb (Nat.le_refl _))
               clear HR HB hb
               have HR := HR2
               have HB := HB2
               clear HR2 HB2))
          all_goals
            go_ret
            exact ⟨rfl, HB.out⟩
    · go_enter Try.func4, Try.ntmps4
      go_wp2_with (go_at_call 8; refine (known_any _).mono ?_; rintro e w1 ⟨rfl, hb⟩; have HB := Lib.hid hb; clear hb)
      go_ret
      exact ⟨rfl, HB.out⟩
  · go_enter Try.func4, Try.ntmps4
    go_wp2_with (go_at_call 8; refine (known_any _).mono ?_; rintro e w1 ⟨rfl, hb⟩; have HB := Lib.hid hb; clear hb)
    go_ret
    exact ⟨rfl, HB.out⟩

end Go.Proofs.Ytnbghiaggapoiaa
