/- The reference's reader: a byte behind a stroke. -/
import Derived.Test.YtnbghiaggapoiaaRefStep
namespace Go.Proofs.Ytnbghiaggapoiaa
set_option linter.unusedSimpArgs false
set_option linter.unusedVariables false
open Go.RowKit Go.Proofs
open Rx (NS Got)

def nc0 : NC := ⟨0, false, none, 0, 0, none, 0, 0⟩

set_option maxHeartbeats 1000000 in
theorem refescaped_any (w : World) (p : Nat) (s : ByteArray) (i d pos : Nat) (h : Pt w p s i d 0 pos) (hi : i < s.size) (hs : s.size ≤ 1000) :
    Calls Try.prog 49 #[.pointer (some ⟨p, 0, none⟩)] w (EEnds ((Rx.take (tx s) (i + 1)).bind fun c => .ok (c, i + 2)) w p s d) := by
  have A1 := (At.start h).alloc [.int .u8 0, .bool false, .slice none 0 0, .slice none 0 0]
  obtain ⟨w1, hw1⟩ : ∃ w1, w.alloc (.cells #[.int .u8 0, .bool false, .slice none 0 0, .slice none 0 0] 30) = w1 := ⟨_, rfl⟩
  rw [hw1] at A1
  have hW : IntKind.i64.wrap ((i : Int) + 1) = (i : Int) + 1 := IntWalk.i64_in _ ⟨by omega, by omega⟩
  obtain ⟨c0, c1, c2, c3, c4, f1, f2⟩ := A1.pt.cells
  have hib : i < 1000 := by omega
  clear h
  by_cases h1 : i + 1 < s.size
  · have ht := take_of s (i + 1)
    rw [dif_pos h1] at ht
    have hd : decide ((s.size : Int) ≤ (i : Int) + 1) = false := by simp; omega
    have hI : (i : Int) + 1 < s.size := by omega
    have hN0 : (0 : Int) ≤ (i : Int) + 1 := by omega
    have hT : ((i : Int) + 1).toNat = i + 1 := by omega
    by_cases hb : s[i + 1].toNat < 32 ∨ 126 < s[i + 1].toNat
    · rw [if_pos hb] at ht
      have Ht := Lib.hid ht
      clear ht
      have hb2 : (s[i + 1].toNat : Int) < 32 ∨ ¬ (s[i + 1].toNat : Int) < 32 ∧ (126 : Int) < s[i + 1].toNat := by omega
      clear hb
      rcases hb2 with hb | ⟨hb, hb'⟩
      all_goals
        go_enter Try.func49, Try.ntmps49
        go_wp2
        go_quiet (fail)
        revert nq
        intro nq1
        go_wp2
        go_quiet (fail)
        go_wp2_with (go_at_call 22; refine ((A1.drewN _).fail 2 (i + 1) _ _ rfl (by omega)).mono ?_; rintro e w2 ⟨rfl, A2⟩
                     obtain ⟨n0, n1, n2, n3, g0, g1, g2, g3⟩ := A2.own)
        have A3 := A2.store4 (.int .u8 0) (.bool false) (.slice none 0 0) (.slice none 0 0)
        exact bodyPost_ret (A3.done rfl rfl) rfl (A3.eends_bad (by rw [Ht.out]; rfl) (by decide) (by omega) nc0 rfl)
    · rw [if_neg hb] at ht
      have Ht := Lib.hid ht
      have hb0 : ¬ (s[i + 1].toNat : Int) < 32 := by omega
      have hb1 : ¬ (126 : Int) < s[i + 1].toNat := by omega
      clear ht hb
      go_enter Try.func49, Try.ntmps49
      go_wp2
      go_quiet (fail)
      revert nq
      intro nq1
      go_wp2
      go_quiet (fail)
      go_wp2_with (go_at_call 50; refine (((A1.drewN _).setAt (i + 2) _ (by omega)).one _).mono ?_; rintro e w2 ⟨op, no, sa, sn, sc, ka, kn, kc, F, rfl, A2⟩
                   obtain ⟨n0, n1, n2, n3, g0, g1, g2, g3⟩ := A2.own)
      have A3 := A2.store4 (.int .u8 op) (.bool no) (.slice sa sn sc) (.slice ka kn kc)
      exact bodyPost_ret (A3.done rfl rfl) rfl (A3.eends_ok (by rw [Ht.out]; rfl) rfl rfl)
  · have ht := take_of s (i + 1)
    rw [dif_neg h1] at ht
    have Ht := Lib.hid ht
    have hd : decide ((s.size : Int) ≤ (i : Int) + 1) = true := by simp; omega
    have Hsz := Lib.hid (show s.size = i + 1 by omega)
    have hsi : (s.size : Int) = ((i + 1 : Nat) : Int) := by omega
    have Hsi := Lib.hid hsi
    clear ht h1 hi hsi
    go_enter Try.func49, Try.ntmps49
    go_wp2
    go_quiet (fail)
    go_wp2_with (go_at_call 22; refine ((A1.drewN _).fail 2 (i + 1) _ _ rfl Hsi.out).mono ?_; rintro e w2 ⟨rfl, A2⟩
                 obtain ⟨n0, n1, n2, n3, g0, g1, g2, g3⟩ := A2.own)
    have A3 := A2.store4 (.int .u8 0) (.bool false) (.slice none 0 0) (.slice none 0 0)
    exact bodyPost_ret (A3.done rfl rfl) rfl (A3.eends_bad (by rw [Ht.out]; rfl) (by decide) (by have := Hsz.out; omega) nc0 rfl)

end Go.Proofs.Ytnbghiaggapoiaa
