/- The laws' question whether a text is no pattern by itself. -/
import Derived.Test.YtnbghiaggapoiaaRefCompile
import Derived.Test.YtnbghiaggapoiaaKnown
import Derived.Test.YtnbghiaggapoiaaParts
import Derived.ShutString
import Derived.ProofKit
namespace Go.Proofs.Ytnbghiaggapoiaa
set_option linter.unusedSimpArgs false
set_option linter.unusedVariables false
open Go.RowKit Go.Proofs
open Rx (NS Got)

theorem alone_bad (s : ByteArray) (w : World) (i c : Nat) (h : Rx.parse (tx s) = .bad i c) (hs : s.size ≤ 140737488351232) : Calls Try.prog 17 #[.string s] w fun e w' => e = .returned (.bool true) ∧ Below w.heap.size w w' := by
  have hc : Calls Try.prog 10 #[.string s] w fun e w' => c ≠ 0 ∧ e = .returned (.tuple #[.agg #[.int .u8 0, .bool false, .slice none 0 0, .slice none 0 0], .int .i64 (i : Int), .int .i64 (c : Int)]) ∧ Below w.heap.size w w' := by
    have hr : Calls Try.prog 10 #[.string s] w (RCEnds s w) := by
      by_cases hl : s.size ≤ 64
      · exact refcompile_any s w hl
      · exact refcompile_long s w (by omega) hs
    refine hr.mono fun e w' h' => ?_
    obtain ⟨hb, hm⟩ := h'
    rw [h] at hm
    exact ⟨hm.1, hm.2, hb⟩
  clear h
  go_enter Try.func17, Try.ntmps17
  go_wp2_with fail
  go_at_call 10
  refine hc.mono ?_
  rintro e w1 ⟨hne, rfl, hb⟩
  have HB := Lib.hid hb
  have hcb : ((c : Int) == 0) = false := ne_u8 _ 0 hne
  have hcn : ((c : Int) != 0) = true := by simp; omega
  clear hb
  go_wp2
  go_ret
  exact ⟨rfl, HB.out.alloc HB.out.size _⟩

theorem alone_ok (s : ByteArray) (w : World) (r : Rx.Re) (h : Rx.parse (tx s) = .ok r) : Calls Try.prog 17 #[.string s] w fun e w' => e = .returned (.bool false) ∧ Below w.heap.size w w' := by
  have hs : s.size ≤ 64 := by have := (Rx.parse_rows h).2; simpa using this
  have hc : Calls Try.prog 10 #[.string s] w fun e w' => ∃ (op : Nat) (no : Bool) (sa : Option Addr) (sn sc : Nat) (ka : Option Addr) (kn kc : Nat), e = .returned (.tuple #[.agg #[.int .u8 (op : Int), .bool no, .slice sa sn sc, .slice ka kn kc], .int .i64 0, .int .i64 0]) ∧ Below w.heap.size w w' := by
    refine (refcompile_any s w hs).mono fun e w' h' => ?_
    obtain ⟨hb, hm⟩ := h'
    rw [h] at hm
    obtain ⟨⟨op, no, sa, sn, sc, ka, kn, kc⟩, nd, F, he, _⟩ := hm
    exact ⟨op, no, sa, sn, sc, ka, kn, kc, he, hb⟩
  clear h
  go_enter Try.func17, Try.ntmps17
  go_wp2_with fail
  go_at_call 10
  refine hc.mono ?_
  rintro e w1 ⟨op, no, sa, sn, sc, ka, kn, kc, rfl, hb⟩
  have HB := Lib.hid hb
  clear hb
  go_wp2
  go_ret
  exact ⟨rfl, HB.out.alloc HB.out.size _⟩

end Go.Proofs.Ytnbghiaggapoiaa
