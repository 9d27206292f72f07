/- Patterns, plainly: a set between two small letters, turned over or not. No program in sight. -/
import Derived.Test.YtnbghiaggapoiaaWf
namespace Go.Proofs.Ytnbghiaggapoiaa.Rx
set_option linter.unusedSimpArgs false
set_option linter.unusedVariables false

theorem isOne_p {t : Text} {i c : Nat} (h : peek t i = .ok (some c)) (l : List Nat) : isOne t l i = .ok (l.contains c) := by simp [isOne, h, Got.bind]
theorem isOne_e {t : Text} {i : Nat} (h : peek t i = .ok none) (l : List Nat) : isOne t l i = .ok false := by simp [isOne, h, Got.bind]
theorem take_p {t : Text} {i c : Nat} (h : peek t i = .ok (some c)) : take t i = .ok c := by simp [take, h, Got.bind]
theorem member_p {t : Text} {i c : Nat} (h : peek t i = .ok (some c)) (h1 : 97 ≤ c) (h2 : c ≤ 122) : member t i = .ok (c, i + 1) := by
  have hk : kept.contains c = false := by
    simp only [kept, List.contains_cons, List.contains_nil, Bool.or_false, Bool.or_eq_false_iff, beq_eq_false_iff_ne]
    omega
  unfold member
  rw [take_p h]
  simp only [Got.bind]
  rw [if_neg (by omega), hk]
  rfl

theorem members_p {t : Text} {i x y n : Nat} (f : BSet) (p0 : peek t i = .ok (some x)) (p1 : peek t (i + 1) = .ok (some 45)) (p2 : peek t (i + 2) = .ok (some y)) (p3 : peek t (i + 3) = .ok (some 93))
    (hx : 97 ≤ x ∧ x ≤ 122) (hy : 97 ≤ y ∧ y ≤ 122) : members t (n + 1) f i = if y < x then .bad (i + 2) 2 else .ok (orSet f (between x y), i + 4) := by
  unfold members
  rw [member_p p0 hx.1 hx.2]
  simp only [Got.bind]
  rw [isOne_p p1]
  have e1 : [45].contains 45 = true := rfl
  simp only [e1, if_true]
  rw [member_p p2 hy.1 hy.2]
  simp only []
  by_cases h : y < x
  · simp only [h, if_true]
  · simp only [h, if_false]
    rw [isOne_p p3]
    have e2 : [93].contains 93 = true := rfl
    simp only [e2, if_true]

theorem peek_set (t : Text) (i : Nat) (b : UInt8) (h : t[i]? = some b) (hb : 32 ≤ b.toNat ∧ b.toNat ≤ 126) : peek t i = .ok (some b.toNat) := by
  have hi : i < t.length := by
    rcases Nat.lt_or_ge i t.length with h' | h'
    · exact h'
    · rw [List.getElem?_eq_none h'] at h; cases h
  have e : bt t i = b.toNat := by simp [bt, List.getD_eq_getElem?_getD, h]
  unfold peek
  rw [if_neg (by omega), e, if_neg (by omega)]

/-- What an atom comes to that is all of a text. -/
theorem parse_atom {t : Text} (hl : t.length ≤ 64) (h0 : 0 < t.length) {r : Re} (h : ∀ n d, atom t (n + 1) d 0 = .ok (r, t.length)) : parse t = .ok (.alt .alt0 r) := by
  have he : peek t t.length = .ok none := by unfold peek; rw [if_pos (Nat.le_refl _)]
  unfold parse
  rw [if_neg (by omega)]
  obtain ⟨m, hm⟩ : ∃ m, fuel t 0 = m + 4 := ⟨fuel t 0 - 4, by unfold fuel; omega⟩
  rw [hm]
  have hp : part t (m + 2) 0 0 = .ok (r, t.length) := by
    unfold part; rw [h]; simp only [Got.bind, rep, isOne_e he]; rfl
  have hr : row t (m + 3) 0 0 = .ok (r, t.length) := by
    unfold row; rw [hp]; simp only [Got.bind]; unfold parts; rw [he]; rfl
  unfold rows
  rw [hr]
  simp only [Got.bind, isOne_e he]
  simp
theorem parse_atom_bad {t : Text} (hl : t.length ≤ 64) {k c : Nat} (h : ∀ n d, atom t (n + 1) d 0 = .bad k c) : parse t = .bad k c := by
  unfold parse
  rw [if_neg (by omega)]
  obtain ⟨m, hm⟩ : ∃ m, fuel t 0 = m + 4 := ⟨fuel t 0 - 4, by unfold fuel; omega⟩
  rw [hm]
  have hp : part t (m + 2) 0 0 = .bad k c := by
    unfold part; rw [h]; rfl
  have hr : row t (m + 3) 0 0 = .bad k c := by
    unfold row; rw [hp]; rfl
  unfold rows
  rw [hr]
  rfl

def small (b : UInt8) : Prop := 97 ≤ b.toNat ∧ b.toNat ≤ 122

theorem atom_set (x y : UInt8) (hx : small x) (hy : small y) (n d : Nat) : atom [91, x, 45, y, 93] (n + 1) d 0 = if y.toNat < x.toNat then .bad 3 2 else .ok (.set (orSet noSet (between x.toNat y.toNat)), 5) := by
  have q0 := peek_set [91, x, 45, y, 93] 0 91 rfl ⟨by decide, by decide⟩
  have q1 := peek_set [91, x, 45, y, 93] 1 x rfl (by unfold small at hx; omega)
  have q2 := peek_set [91, x, 45, y, 93] 2 45 rfl ⟨by decide, by decide⟩
  have q3 := peek_set [91, x, 45, y, 93] 3 y rfl (by unfold small at hy; omega)
  have q4 := peek_set [91, x, 45, y, 93] 4 93 rfl ⟨by decide, by decide⟩
  have hm := members_p (n := 4) noSet q1 q2 q3 q4 hx hy
  have hno : [94].contains x.toNat = false := by
    simp only [List.contains_cons, List.contains_nil, Bool.or_false, beq_eq_false_iff_ne]; unfold small at hx; omega
  have hc : cls [91, x, 45, y, 93] 6 1 = if y.toNat < x.toNat then .bad 3 2 else .ok (orSet noSet (between x.toNat y.toNat), 5) := by
    unfold cls
    rw [isOne_p q1, hno]
    simp only [Got.bind, Bool.false_eq_true, if_false]
    have hm5 : members [91, x, 45, y, 93] 6 noSet 1 = _ := members_p (n := 5) noSet q1 q2 q3 q4 hx hy
    rw [hm5]
    by_cases h : y.toNat < x.toNat <;> simp [h]
  unfold atom
  rw [take_p q0]
  have e91 : (91 : UInt8).toNat = 91 := rfl
  simp only [Got.bind, e91]
  have ec : cls [91, x, 45, y, 93] (List.length [91, x, 45, y, 93] + 1 - 0) (0 + 1) = _ := hc
  rw [ec]
  by_cases h : y.toNat < x.toNat
  · simp [h]
  · simp [h]

theorem atom_unset (x y : UInt8) (hx : small x) (hy : small y) (n d : Nat) : atom [91, 94, x, 45, y, 93] (n + 1) d 0 = if y.toNat < x.toNat then .bad 4 2 else .ok (.set (notSet (orSet noSet (between x.toNat y.toNat))), 6) := by
  have q0 := peek_set [91, 94, x, 45, y, 93] 0 91 rfl ⟨by decide, by decide⟩
  have q9 := peek_set [91, 94, x, 45, y, 93] 1 94 rfl ⟨by decide, by decide⟩
  have q1 := peek_set [91, 94, x, 45, y, 93] 2 x rfl (by unfold small at hx; omega)
  have q2 := peek_set [91, 94, x, 45, y, 93] 3 45 rfl ⟨by decide, by decide⟩
  have q3 := peek_set [91, 94, x, 45, y, 93] 4 y rfl (by unfold small at hy; omega)
  have q4 := peek_set [91, 94, x, 45, y, 93] 5 93 rfl ⟨by decide, by decide⟩
  have hno : [94].contains (94 : UInt8).toNat = true := rfl
  have hc : cls [91, 94, x, 45, y, 93] 7 1 = if y.toNat < x.toNat then .bad 4 2 else .ok (notSet (orSet noSet (between x.toNat y.toNat)), 6) := by
    unfold cls
    rw [isOne_p q9, hno]
    simp only [Got.bind, if_true]
    have hm5 : members [91, 94, x, 45, y, 93] 7 noSet (1 + 1) = _ := members_p (n := 6) noSet q1 q2 q3 q4 hx hy
    rw [hm5]
    by_cases h : y.toNat < x.toNat <;> simp [h]
  unfold atom
  rw [take_p q0]
  have e91 : (91 : UInt8).toNat = 91 := rfl
  simp only [Got.bind, e91]
  have ec : cls [91, 94, x, 45, y, 93] (List.length [91, 94, x, 45, y, 93] + 1 - 0) (0 + 1) = _ := hc
  rw [ec]
  by_cases h : y.toNat < x.toNat
  · simp [h]
  · simp [h]

theorem lang_one (f : BSet) (u : List Nat) : Lang (.alt .alt0 (.set f)) u ↔ ∃ c, u = [c] ∧ f c = true := by
  constructor
  · intro h
    cases h with
    | altl h' => cases h'
    | altr h' => cases h' with
      | set hc => exact ⟨_, rfl, hc⟩
  · rintro ⟨c, rfl, hc⟩; exact .altr (.set hc)

end Go.Proofs.Ytnbghiaggapoiaa.Rx
