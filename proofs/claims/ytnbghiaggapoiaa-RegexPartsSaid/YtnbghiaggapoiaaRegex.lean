/- Package regex: a pattern that was read, and Match of it: whether the text is one of the pattern's. Text. -/
import Derived.Test.YtnbghiaggapoiaaMatch
import Derived.Test.YtnbghiaggapoiaaWf
namespace Go.Proofs.Ytnbghiaggapoiaa
set_option linter.unusedSimpArgs false
set_option linter.unusedVariables false
open Go.RowKit Go.Proofs
open Rx (NS Got)

/-- A text's bytes. -/
abbrev bys (s : ByteArray) : List Nat := (tx s).map fun b => b.toNat

/-- Whether a text is a pattern's, as the program finds it. -/
def isOf (r : Rx.Re) (s : ByteArray) : Bool := Rx.runs (Rx.build r []).2.2 (Rx.build r []).1 (Rx.build r []).2.1 (bys s)

theorem isOf_iff {r : Rx.Re} (hw : r.wf) (s : ByteArray) : isOf r s = true ↔ Rx.Lang r (bys s) := Rx.runs_lang hw (bys s)

theorem match_re (w : World) (base rb : Nat) (p s : ByteArray) (r : Rx.Re) (F : List Nat) (h : RegexAt w base rb p r F) (hr : Rx.parse (tx p) = .ok r) (hs : s.size ≤ 1000000) :
    Calls Try.prog 12 #[.pointer (some ⟨rb, 0, none⟩), .string s] w fun e w' => e = .returned (.bool (isOf r s)) ∧ Below w.heap.size w w' := by
  obtain ⟨sv, scs, hb, hst, _, _⟩ := h.ex
  obtain ⟨hw, hwt⟩ := Rx.parse_wf hr
  have h0 : Rx.wt ([] : List NS) = 0 := rfl
  have h1 := Rx.wt_build r []
  exact match_any w rb base p s _ _ sv scs _ F hb hst (Rx.sound_re hw) (by omega) (Rx.built r []).f1 hs

theorem text_re (w : World) (base rb : Nat) (p : ByteArray) (r : Rx.Re) (F : List Nat) (h : RegexAt w base rb p r F) :
    Calls Try.prog 11 #[.pointer (some ⟨rb, 0, none⟩)] w fun e w' => e = .returned (.string p) ∧ w' = w := by
  obtain ⟨sv, scs, hb, hst, _, _⟩ := h.ex
  have c0 := hb.cell 0 rfl
  clear hb hst h
  go_enter Try.func11, Try.ntmps11
  go_wp2
  go_ret
  exact ⟨rfl, rfl⟩

theorem RegexAt.kept {w w' : World} {base rb : Nat} {s : ByteArray} {r : Rx.Re} {F : List Nat} (h : RegexAt w base rb s r F) (hk : Below w.heap.size w w') : RegexAt w' base rb s r F := by
  obtain ⟨sv, scs, hb, hst, h1, h2⟩ := h.ex
  exact ⟨sv, scs, hb.below hk hb.lt, hst.kept (fun k hk' => hk.block k (hst.lt k hk').2), h1, h2⟩

end Go.Proofs.Ytnbghiaggapoiaa
