/- Patterns, plainly: what is read is well formed (a choice's rows stand behind a choice); its weight is small. No program in sight. -/
import Derived.Test.YtnbghiaggapoiaaRxLen
import Derived.Test.YtnbghiaggapoiaaLang3
namespace Go.Proofs.Ytnbghiaggapoiaa.Rx
set_option linter.unusedSimpArgs false
set_option linter.unusedVariables false

theorem rep_wf {t : Text} {r r' : Re} {i j : Nat} (h : rep t r i = .ok (r', j)) (hw : r.wf) : r'.wf := by
  unfold rep at h
  obtain ⟨b, hb, h⟩ := bind_ok h
  cases b with
  | false => simp at h; obtain ⟨rfl, rfl⟩ := h; exact hw
  | true =>
    simp at h
    obtain ⟨h1, rfl⟩ := h
    subst h1
    split
    · exact hw
    · split <;> exact hw

theorem reads_wf (t : Text) : ∀ n,
    (∀ acc d i r j, rows t n acc d i = .ok (r, j) → acc.isAlt → acc.wf → r.isAlt ∧ r.wf) ∧
    (∀ d i r j, row t n d i = .ok (r, j) → r.wf) ∧
    (∀ acc d i r j, parts t n acc d i = .ok (r, j) → acc.wf → r.wf) ∧
    (∀ d i r j, part t n d i = .ok (r, j) → r.wf) ∧
    (∀ d i r j, atom t n d i = .ok (r, j) → r.wf) := by
  intro n
  induction n with
  | zero => refine ⟨?_, ?_, ?_, ?_, ?_⟩ <;> (intros; simp [rows, row, parts, part, atom] at *)
  | succ n ih =>
    obtain ⟨ihRows, ihRow, ihParts, ihPart, ihAtom⟩ := ih
    refine ⟨?_, ?_, ?_, ?_, ?_⟩
    · intro acc d i r j h ha hw
      rw [rows_succ] at h
      obtain ⟨x, hx, h⟩ := bind_ok h
      obtain ⟨r1, j1⟩ := x
      have h1 := ihRow _ _ _ _ hx
      obtain ⟨b, hb, h⟩ := bind_ok h
      cases b with
      | true =>
        simp at h
        exact ihRows _ _ _ _ _ h trivial ⟨ha, hw, h1⟩
      | false =>
        simp at h
        obtain ⟨rfl, rfl⟩ := h
        exact ⟨trivial, ha, hw, h1⟩
    · intro d i r j h
      rw [row_succ] at h
      obtain ⟨x, hx, h⟩ := bind_ok h
      obtain ⟨r1, j1⟩ := x
      exact ihParts _ _ _ _ _ h (ihPart _ _ _ _ hx)
    · intro acc d i r j h hw
      rw [parts_succ] at h
      obtain ⟨c, hc, h⟩ := bind_ok h
      cases c with
      | none => simp at h; obtain ⟨rfl, rfl⟩ := h; exact hw
      | some c =>
        simp only at h
        split at h
        · cases h; exact hw
        · obtain ⟨x, hx, h⟩ := bind_ok h
          obtain ⟨r1, j1⟩ := x
          exact ihParts _ _ _ _ _ h ⟨hw, ihPart _ _ _ _ hx⟩
    · intro d i r j h
      rw [part_succ] at h
      obtain ⟨x, hx, h⟩ := bind_ok h
      obtain ⟨r1, j1⟩ := x
      exact rep_wf h (ihAtom _ _ _ _ hx)
    · intro d i r j h
      rw [atom] at h
      obtain ⟨c, hc, h⟩ := bind_ok h
      split at h
      · cases h; trivial
      · split at h
        · obtain ⟨c2, hc2, h⟩ := bind_ok h
          cases h; trivial
        · split at h
          · obtain ⟨x, hx, h⟩ := bind_ok h
            cases h; trivial
          · split at h
            · split at h
              · cases h
              · obtain ⟨x, hx, h⟩ := bind_ok h
                obtain ⟨r1, j1⟩ := x
                have h1 := ihRows _ _ _ _ _ hx trivial trivial
                obtain ⟨b, hb, h⟩ := bind_ok h
                cases b with
                | false => simp at h
                | true =>
                  simp at h
                  obtain ⟨rfl, rfl⟩ := h
                  exact h1.2
            · split at h
              · cases h
              · cases h; trivial

theorem parse_wf {t : Text} {r : Re} (h : parse t = .ok r) : r.wf ∧ r.wt ≤ 520 := by
  unfold parse at h
  split at h
  · cases h
  · obtain ⟨x, hx, h⟩ := bind_ok h
    obtain ⟨r1, j1⟩ := x
    simp only at h
    split at h
    · cases h
    · cases h
      have h1 := (reads_wf t (fuel t 0)).1 _ _ _ _ _ hx trivial trivial
      have h2 := (reads t (fuel t 0)).1 _ _ _ _ _ hx (Nat.zero_le _)
      simp [Re.wt] at h2
      exact ⟨h1.2, by omega⟩

end Go.Proofs.Ytnbghiaggapoiaa.Rx
