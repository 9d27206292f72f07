/- Patterns, plainly: how far a part that was read goes, and how many states it has at most. -/
import Derived.Test.YtnbghiaggapoiaaRx
namespace Go.Proofs.Ytnbghiaggapoiaa.Rx
set_option linter.unusedSimpArgs false
set_option linter.unusedVariables false

theorem peek_lt' {t : Text} {i c : Nat} (h : peek t i = .ok (some c)) : i < t.length := by
  unfold peek at h
  split at h
  · cases h
  · omega
theorem bind_ok {α β : Type} {g : Got α} {f : α → Got β} {b : β} (h : g.bind f = .ok b) : ∃ a, g = .ok a ∧ f a = .ok b := by
  cases g with
  | ok a => exact ⟨a, rfl, h⟩
  | bad i e => cases h

theorem isOne_lt' {t : Text} {l : List Nat} {i : Nat} (h : isOne t l i = .ok true) : i < t.length := by
  unfold isOne at h
  obtain ⟨c, hc, h⟩ := bind_ok h
  cases c with
  | none => simp at h
  | some c => exact peek_lt' hc
theorem take_lt' {t : Text} {i c : Nat} (h : take t i = .ok c) : i < t.length := by
  unfold take at h
  obtain ⟨c, hc, h⟩ := bind_ok h
  cases c with
  | none => simp at h
  | some c => exact peek_lt' hc
theorem member_lt' {t : Text} {i : Nat} {x : Nat × Nat} (h : member t i = .ok x) : i < x.2 ∧ x.2 ≤ t.length := by
  unfold member at h
  obtain ⟨c, hc, h⟩ := bind_ok h
  have h1 := take_lt' hc
  split at h
  · obtain ⟨d, hd, h⟩ := bind_ok h
    have h2 := take_lt' hd
    cases h; simp; omega
  · split at h
    · cases h
    · cases h; simp; omega

theorem rows_succ (t : Text) (n : Nat) (acc : Re) (d i : Nat) : rows t (n + 1) acc d i = (row t n d i).bind fun x => (isOne t [124] x.2).bind fun b => if b then rows t n (.alt acc x.1) d (x.2 + 1) else .ok (.alt acc x.1, x.2) := by rw [rows]
theorem row_succ (t : Text) (n d i : Nat) : row t (n + 1) d i = (part t n d i).bind fun x => parts t n x.1 d x.2 := by rw [row]
theorem parts_succ (t : Text) (n : Nat) (acc : Re) (d i : Nat) : parts t (n + 1) acc d i = (peek t i).bind fun c => match c with
    | none => .ok (acc, i)
    | some c => if c = 124 ∨ c = 41 then .ok (acc, i) else (part t n d i).bind fun x => parts t n (.cat acc x.1) d x.2 := by rw [parts]; rfl
theorem part_succ (t : Text) (n d i : Nat) : part t (n + 1) d i = (atom t n d i).bind fun x => rep t x.1 x.2 := by rw [part]

theorem cls_lt {t : Text} {n i : Nat} {x : BSet × Nat} (h : cls t n i = .ok x) (hi : i ≤ t.length) : i < x.2 ∧ x.2 ≤ t.length := by
  have key : ∀ m f j y, members t m f j = .ok y → j ≤ t.length → j < y.2 ∧ y.2 ≤ t.length := by
    intro m
    induction m with
    | zero => intro f j y h; simp [members] at h
    | succ m ih =>
      intro f j y h hj
      unfold members at h
      obtain ⟨x, hx, h⟩ := bind_ok h
      have h1 := member_lt' hx
      obtain ⟨dash, hd, h⟩ := bind_ok h
      obtain ⟨z, hz, h⟩ := bind_ok h
      have h2 : x.2 ≤ z.2 ∧ z.2 ≤ t.length := by
        cases dash with
        | false => simp at hz; subst hz; omega
        | true =>
          simp only [if_true] at hz
          obtain ⟨u, hu, hz⟩ := bind_ok hz
          have h3 := member_lt' hu
          split at hz
          · cases hz
          · cases hz; simp; omega
      obtain ⟨e, he, h⟩ := bind_ok h
      cases e with
      | true =>
        simp at h; subst h
        have := isOne_lt' he
        simp; omega
      | false =>
        simp at h
        have := ih _ _ _ h h2.2
        omega
  unfold cls at h
  obtain ⟨no, hno, h⟩ := bind_ok h
  obtain ⟨y, hy, h⟩ := bind_ok h
  cases h
  cases no with
  | false => simp at hy; exact key _ _ _ _ hy hi
  | true =>
    simp at hy
    have h1 := isOne_lt' hno
    have := key _ _ _ _ hy (by omega)
    simp; omega

theorem rep_lt {t : Text} {r r' : Re} {i j : Nat} (h : rep t r i = .ok (r', j)) (hi : i ≤ t.length) : i ≤ j ∧ j ≤ t.length ∧ r'.wt ≤ r.wt + 6 * (j - i) := by
  unfold rep at h
  obtain ⟨b, hb, h⟩ := bind_ok h
  cases b with
  | false => simp at h; obtain ⟨rfl, rfl⟩ := h; omega
  | true =>
    have := isOne_lt' hb
    simp at h
    obtain ⟨h1, rfl⟩ := h
    refine ⟨by omega, by omega, ?_⟩
    subst h1
    split
    · simp [Re.wt]
    · split <;> simp [Re.wt]

/-- How far each step goes, and how great what it reads is. -/
theorem reads (t : Text) : ∀ n,
    (∀ acc d i r j, rows t n acc d i = .ok (r, j) → i ≤ t.length → i < j ∧ j ≤ t.length ∧ r.wt + 1 ≤ acc.wt + 8 * (j - i)) ∧
    (∀ d i r j, row t n d i = .ok (r, j) → i < j ∧ j ≤ t.length ∧ r.wt + 3 ≤ 8 * (j - i)) ∧
    (∀ acc d i r j, parts t n acc d i = .ok (r, j) → i ≤ t.length → i ≤ j ∧ j ≤ t.length ∧ r.wt ≤ acc.wt + 8 * (j - i)) ∧
    (∀ d i r j, part t n d i = .ok (r, j) → i < j ∧ j ≤ t.length ∧ r.wt + 3 ≤ 8 * (j - i)) ∧
    (∀ d i r j, atom t n d i = .ok (r, j) → i < j ∧ j ≤ t.length ∧ r.wt + 3 ≤ 8 * (j - i)) := by
  intro n
  induction n with
  | zero => refine ⟨?_, ?_, ?_, ?_, ?_⟩ <;> (intros; simp [rows, row, parts, part, atom] at *)
  | succ n ih =>
    obtain ⟨ihRows, ihRow, ihParts, ihPart, ihAtom⟩ := ih
    refine ⟨?_, ?_, ?_, ?_, ?_⟩
    · intro acc d i r j h hi
      rw [rows_succ] at h
      obtain ⟨x, hx, h⟩ := bind_ok h
      obtain ⟨r1, j1⟩ := x
      have h1 := ihRow _ _ _ _ hx
      obtain ⟨b, hb, h⟩ := bind_ok h
      cases b with
      | true =>
        have := isOne_lt' hb
        simp at h
        have h2 := ihRows _ _ _ _ _ h (by simp at this ⊢; omega)
        simp [Re.wt] at h2 this
        omega
      | false =>
        simp at h
        obtain ⟨rfl, rfl⟩ := h
        simp [Re.wt]; omega
    · intro d i r j h
      rw [row_succ] at h
      obtain ⟨x, hx, h⟩ := bind_ok h
      obtain ⟨r1, j1⟩ := x
      have h1 := ihPart _ _ _ _ hx
      have h2 := ihParts _ _ _ _ _ h h1.2.1
      simp at h2; omega
    · intro acc d i r j h hi
      rw [parts_succ] at h
      obtain ⟨c, hc, h⟩ := bind_ok h
      cases c with
      | none => simp at h; obtain ⟨rfl, rfl⟩ := h; omega
      | some c =>
        simp only at h
        split at h
        · cases h; omega
        · obtain ⟨x, hx, h⟩ := bind_ok h
          obtain ⟨r1, j1⟩ := x
          have h1 := ihPart _ _ _ _ hx
          have h2 := ihParts _ _ _ _ _ h h1.2.1
          simp [Re.wt] at h2
          omega
    · intro d i r j h
      rw [part_succ] at h
      obtain ⟨x, hx, h⟩ := bind_ok h
      obtain ⟨r1, j1⟩ := x
      have h1 := ihAtom _ _ _ _ hx
      have h2 := rep_lt h h1.2.1
      simp at h2; omega
    · intro d i r j h
      rw [atom] at h
      obtain ⟨c, hc, h⟩ := bind_ok h
      have h0 := take_lt' hc
      split at h
      · cases h; simp [Re.wt]; omega
      · split at h
        · obtain ⟨c2, hc2, h⟩ := bind_ok h
          have h1 := take_lt' hc2
          cases h; simp [Re.wt]; omega
        · split at h
          · obtain ⟨x, hx, h⟩ := bind_ok h
            have h1 := cls_lt hx (by omega)
            cases h; simp [Re.wt]; omega
          · split at h
            · split at h
              · cases h
              · obtain ⟨x, hx, h⟩ := bind_ok h
                obtain ⟨r1, j1⟩ := x
                have h1 := ihRows _ _ _ _ _ hx (by omega)
                obtain ⟨b, hb, h⟩ := bind_ok h
                cases b with
                | false => simp at h
                | true =>
                  have h2 := isOne_lt' hb
                  simp at h h2
                  obtain ⟨rfl, rfl⟩ := h
                  simp [Re.wt] at h1
                  omega
            · split at h
              · cases h
              · cases h; simp [Re.wt]; omega

end Go.Proofs.Ytnbghiaggapoiaa.Rx
