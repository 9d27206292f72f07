/- Patterns, plainly: where rows and parts end; a row, step by step, as the reference reads it. No program in sight. -/
import Derived.Test.YtnbghiaggapoiaaMem2
namespace Go.Proofs.Ytnbghiaggapoiaa.Rx
set_option linter.unusedSimpArgs false
set_option linter.unusedVariables false

theorem parts_end (t : Text) : ∀ (n : Nat) (acc : Re) (d i : Nat) (r : Re) (j : Nat), parts t n acc d i = .ok (r, j) → peek t j = .ok none ∨ peek t j = .ok (some 124) ∨ peek t j = .ok (some 41) := by
  intro n
  induction n with
  | zero => intro acc d i r j h; rw [parts] at h; cases h
  | succ n ih =>
    intro acc d i r j h
    rw [parts_succ] at h
    obtain ⟨c, hc, h⟩ := bind_ok h
    cases c with
    | none => simp at h; obtain ⟨_, rfl⟩ := h; exact .inl hc
    | some c =>
      simp only [] at h
      split at h
      · rename_i hc2
        simp at h; obtain ⟨_, rfl⟩ := h
        rcases hc2 with rfl | rfl
        · exact .inr (.inl hc)
        · exact .inr (.inr hc)
      · obtain ⟨x, hx, h⟩ := bind_ok h
        exact ih _ _ _ _ _ h
theorem row_end {t : Text} {n d i : Nat} {r : Re} {j : Nat} (h : row t n d i = .ok (r, j)) : peek t j = .ok none ∨ peek t j = .ok (some 124) ∨ peek t j = .ok (some 41) := by
  cases n with
  | zero => rw [row] at h; cases h
  | succ n =>
    rw [row_succ] at h
    obtain ⟨x, _, h⟩ := bind_ok h
    exact parts_end t _ _ _ _ _ _ h
theorem rows_end (t : Text) : ∀ (n : Nat) (acc : Re) (d i : Nat) (r : Re) (j : Nat), rows t n acc d i = .ok (r, j) → peek t j = .ok none ∨ peek t j = .ok (some 41) := by
  intro n
  induction n with
  | zero => intro acc d i r j h; rw [rows] at h; cases h
  | succ n ih =>
    intro acc d i r j h
    rw [rows_succ] at h
    obtain ⟨x, hx, h⟩ := bind_ok h
    obtain ⟨b, hb, h⟩ := bind_ok h
    cases b with
    | true => simp at h; exact ih _ _ _ _ _ h
    | false =>
      simp at h
      obtain ⟨_, rfl⟩ := h
      rcases row_end (r := x.1) (j := x.2) (by rw [hx]) with h1 | h1 | h1
      · exact .inl h1
      · simp [isOne, h1, Got.bind] at hb
      · exact .inr h1

theorem peek_none {t : Text} {j : Nat} (h : peek t j = .ok none) : t.length ≤ j := by
  unfold peek at h
  split at h
  · assumption
  · split at h <;> cases h
theorem has_of {t : Text} {j c : Nat} (h : peek t j = .ok (some c)) (k : Nat) : has t k j = decide (c = k) := by
  unfold peek at h
  split at h
  · cases h
  · split at h
    · cases h
    · simp at h
      unfold has
      rw [h]; simp; omega
theorem has_none {t : Text} {j : Nat} (h : t.length ≤ j) (k : Nat) : has t k j = false := by unfold has; simp; omega
theorem has_bad {t : Text} {j : Nat} (h : peek t j = .bad j 2) (k : Nat) (h1 : 32 ≤ k) (h2 : k ≤ 126) : has t k j = false := by
  unfold peek at h
  split at h
  · cases h
  · split at h
    · unfold has; simp; omega
    · cases h
theorem peek_cases (t : Text) (j : Nat) : (t.length ≤ j ∧ peek t j = .ok none) ∨ (j < t.length ∧ peek t j = .bad j 2) ∨ (j < t.length ∧ peek t j = .ok (some (bt t j))) := by
  unfold peek
  by_cases h : t.length ≤ j
  · rw [if_pos h]; exact .inl ⟨h, rfl⟩
  · rw [if_neg h]
    split
    · exact .inr (.inl ⟨by omega, rfl⟩)
    · exact .inr (.inr ⟨by omega, rfl⟩)

/-- What stands behind an atom, and where a row ends: as the reference looks. -/
def mark (t : Text) (j : Nat) : Bool := has t 42 j || has t 43 j || has t 63 j
def stop (t : Text) (j : Nat) : Bool := decide (t.length ≤ j) || has t 124 j || has t 41 j
def marked (t : Text) (r : Re) (j : Nat) : Re := if has t 42 j then .star r else if has t 43 j then .plus r else .opt r
def joined (acc : Option Re) (r : Re) : Re := match acc with | none => r | some a => .cat a r

theorem part_bad {t : Text} {n d j : Nat} (hn : 2 ≤ n) (h : peek t j = .bad j 2) : part t n d j = .bad j 2 := by
  obtain ⟨m, rfl⟩ : ∃ m, n = m + 2 := ⟨n - 2, by omega⟩
  rw [part_succ, atom]
  simp [take, h, Got.bind]

/-- Behind a part. -/
theorem parts_step {t : Text} {m d j : Nat} (acc r : Re) (hm : 3 ≤ m) : (stop t j = true → parts t m acc d j = .ok (acc, j)) ∧
    (stop t j = false → j < t.length ∧ parts t m acc d j = (part t (m - 1) d j).bind fun x => parts t (m - 1) (joined (some acc) x.1) d x.2) := by
  obtain ⟨m, rfl⟩ : ∃ k, m = k + 1 := ⟨m - 1, by omega⟩
  rw [parts_succ]
  rcases peek_cases t j with ⟨h1, h2⟩ | ⟨h1, h2⟩ | ⟨h1, h2⟩
  · rw [h2]
    refine ⟨fun _ => rfl, fun h => ?_⟩
    unfold stop at h
    simp only [decide_eq_true h1, Bool.true_or] at h
    cases h
  · rw [h2]
    refine ⟨fun h => ?_, fun _ => ⟨h1, ?_⟩⟩
    · unfold stop at h
      rw [has_bad h2 124 (by omega) (by omega), has_bad h2 41 (by omega) (by omega)] at h
      simp at h; omega
    · have hp : part t (m + 1 - 1) d j = .bad j 2 := part_bad (by omega) h2
      rw [hp]; rfl
  · rw [h2]
    simp only [Got.bind]
    unfold stop
    rw [has_of h2, has_of h2]
    refine ⟨fun h => ?_, fun h => ⟨h1, ?_⟩⟩
    · simp at h
      rw [if_pos (by omega)]
    · simp at h
      rw [if_neg (by omega)]
      rfl

/-- A row, a step on. -/
theorem row_step {t : Text} {m d j j1 : Nat} {acc : Option Re} {r : Re} {R : Got (Re × Nat)} (hR : R = (part t (m + 1) d j).bind fun x => parts t (m + 1) (joined acc x.1) d x.2) (hm : 4 * (t.length - j) + 1 ≤ m) (hj : j < j1) (hjl : j < t.length)
    (ha : atom t m d j = .ok (r, j1)) :
    (mark t j1 = false → (stop t j1 = true → R = .ok (joined acc r, j1)) ∧ (stop t j1 = false → R = (part t m d j1).bind fun x => parts t m (joined (some (joined acc r)) x.1) d x.2)) ∧
    (mark t j1 = true → (stop t (j1 + 1) = true → R = .ok (joined acc (marked t r j1), j1 + 1)) ∧ (stop t (j1 + 1) = false → R = (part t m d (j1 + 1)).bind fun x => parts t m (joined (some (joined acc (marked t r j1))) x.1) d x.2)) := by
  rw [part_succ, ha] at hR
  simp only [Got.bind] at hR
  rcases peek_cases t j1 with ⟨h1, h2⟩ | ⟨h1, h2⟩ | ⟨h1, h2⟩
  · have hk : mark t j1 = false := by simp [mark, has_none h1]
    refine ⟨fun _ => ?_, fun h => (by rw [hk] at h; cases h)⟩
    have hr : rep t r j1 = .ok (r, j1) := by simp [rep, isOne, h2, Got.bind]
    rw [hr] at hR
    simp only [] at hR
    have := parts_step (t := t) (m := m + 1) (d := d) (j := j1) (joined acc r) r (by omega)
    exact ⟨fun h => by rw [hR, this.1 h], fun h => by rw [hR, (this.2 h).2]; rfl⟩
  · have hk : mark t j1 = false := by simp [mark, has_bad h2]
    have hs : stop t j1 = false := by simp [stop, has_bad h2]; omega
    refine ⟨fun _ => ⟨fun h => (by rw [hs] at h; cases h), fun _ => ?_⟩, fun h => (by rw [hk] at h; cases h)⟩
    have hr : rep t r j1 = .bad j1 2 := by simp [rep, isOne, h2, Got.bind]
    rw [hr] at hR
    rw [hR, part_bad (by omega) h2]; rfl
  · have hi : isOne t [42, 43, 63] j1 = .ok (mark t j1) := by
      simp only [isOne, h2, Got.bind, mark, has_of h2]
      congr 1
      rw [Bool.eq_iff_iff]; simp; omega
    have hr : rep t r j1 = if mark t j1 then .ok (marked t r j1, j1 + 1) else .ok (r, j1) := by
      unfold rep
      rw [hi]
      simp only [Got.bind]
      split
      · have e1 : (bt t j1 = 42) ↔ (has t 42 j1 = true) := by rw [has_of h2]; simp
        have e2 : (bt t j1 = 43) ↔ (has t 43 j1 = true) := by rw [has_of h2]; simp
        simp only [marked, e1, e2]
      · rfl
    rw [hr] at hR
    refine ⟨fun h => ?_, fun h => ?_⟩
    · rw [h] at hR
      simp only [Bool.false_eq_true, if_false] at hR
      have := parts_step (t := t) (m := m + 1) (d := d) (j := j1) (joined acc r) r (by omega)
      exact ⟨fun h => by rw [hR, this.1 h], fun h => by rw [hR, (this.2 h).2]; rfl⟩
    · rw [h] at hR
      simp only [if_true] at hR
      have := parts_step (t := t) (m := m + 1) (d := d) (j := j1 + 1) (joined acc (marked t r j1)) r (by omega)
      exact ⟨fun h => by rw [hR, this.1 h], fun h => by rw [hR, (this.2 h).2]; rfl⟩

end Go.Proofs.Ytnbghiaggapoiaa.Rx
