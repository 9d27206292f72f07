/- Patterns, plainly: what stands in brackets, read as the reference reads it: an error of a look ahead is told by the next byte. No program in sight. -/
import Derived.Test.YtnbghiaggapoiaaRxLen
namespace Go.Proofs.Ytnbghiaggapoiaa.Rx
set_option linter.unusedSimpArgs false
set_option linter.unusedVariables false

/-- Whether a byte stands at a place. -/
def has (t : Text) (c i : Nat) : Bool := decide (i < t.length) && decide (bt t i = c)

theorem isOne_has {t : Text} {c i : Nat} (h1 : 32 ≤ c) (h2 : c ≤ 126) : isOne t [c] i = .ok (has t c i) ∨ (isOne t [c] i = .bad i 2 ∧ has t c i = false ∧ peek t i = .bad i 2) := by
  unfold isOne has peek
  by_cases hl : t.length ≤ i
  · left
    rw [if_pos hl]
    simp [Got.bind]; omega
  · rw [if_neg hl]
    by_cases hb : bt t i < 32 ∨ 126 < bt t i
    · right
      rw [if_pos hb]
      refine ⟨rfl, ?_, rfl⟩
      simp; omega
    · left
      rw [if_neg hb]
      simp only [Got.bind, List.contains_cons, List.contains_nil, Bool.or_false]
      congr 1
      rw [Bool.eq_iff_iff]; simp; omega

theorem member_bad {t : Text} {i : Nat} (h : peek t i = .bad i 2) : member t i = .bad i 2 := by simp [member, take, h, Got.bind]

/-- What stands in brackets, as the reference reads it. -/
def mem2 (t : Text) : Nat → BSet → Nat → Got (BSet × Nat)
  | 0, _, _ => .bad 0 0
  | n + 1, f, i =>
    (member t i).bind fun x =>
    (if has t 45 x.2 then (member t (x.2 + 1)).bind fun y => if y.1 < x.1 then .bad (x.2 + 1) 2 else .ok y else .ok x).bind fun y =>
    if has t 93 y.2 then .ok (orSet f (between x.1 y.1), y.2 + 1) else mem2 t n (orSet f (between x.1 y.1)) y.2

theorem mem_take {t : Text} {i c : Nat} (h : take t i = .ok c) : i < t.length := by
  unfold take peek at h
  by_cases hl : t.length ≤ i
  · rw [if_pos hl] at h; cases h
  · omega
theorem mem_lt {t : Text} {i : Nat} {x : Nat × Nat} (h : member t i = .ok x) : i < x.2 ∧ x.2 ≤ t.length := by
  unfold member at h
  cases hc : take t i with
  | bad k e => rw [hc] at h; cases h
  | ok c =>
    have h1 := mem_take hc
    rw [hc] at h
    simp only [Got.bind] at h
    split at h
    · cases hd : take t (i + 1) with
      | bad k e => rw [hd] at h; cases h
      | ok c =>
        have h2 := mem_take hd
        rw [hd] at h
        simp only [Got.ok.injEq] at h
        subst h; exact ⟨by simp, h2⟩
    · split at h
      · cases h
      · simp only [Got.ok.injEq] at h
        subst h; exact ⟨by simp, h1⟩

theorem mem2_bad {t : Text} {n i : Nat} {f : BSet} (hn : 0 < n) (h : peek t i = .bad i 2) : mem2 t n f i = .bad i 2 := by
  obtain ⟨m, rfl⟩ : ∃ m, n = m + 1 := ⟨n - 1, by omega⟩
  unfold mem2; rw [member_bad h]; rfl

theorem members_mem2 (t : Text) : ∀ (n : Nat) (f : BSet) (i : Nat), t.length + 1 ≤ n + i → members t n f i = mem2 t n f i := by
  intro n
  induction n with
  | zero => intro f i _; rfl
  | succ n ih =>
    intro f i hn
    unfold members mem2
    cases hm : member t i with
    | bad k e => rfl
    | ok x =>
      obtain ⟨h1, h2⟩ := mem_lt hm
      simp only [Got.bind]
      have tail : ∀ y : Nat × Nat, i < y.2 → y.2 ≤ t.length → ((isOne t [93] y.2).bind fun e => if e then .ok (orSet f (between x.1 y.1), y.2 + 1) else members t n (orSet f (between x.1 y.1)) y.2) =
          (if has t 93 y.2 then .ok (orSet f (between x.1 y.1), y.2 + 1) else mem2 t n (orSet f (between x.1 y.1)) y.2) := by
        intro y hy1 hy2
        rcases isOne_has (t := t) (c := 93) (i := y.2) (by omega) (by omega) with h | ⟨h, h', h''⟩
        · rw [h]; simp only [Got.bind]
          split
          · rfl
          · exact ih _ _ (by omega)
        · rw [h, h']; simp only [Got.bind]
          rw [if_neg (by simp), mem2_bad (by omega) h'']
      rcases isOne_has (t := t) (c := 45) (i := x.2) (by omega) (by omega) with h | ⟨h, h', h''⟩
      · rw [h]
        simp only []
        by_cases hd : has t 45 x.2 = true
        · simp only [hd, if_true]
          cases hm2 : member t (x.2 + 1) with
          | bad k e => rfl
          | ok y =>
            obtain ⟨h3, h4⟩ := mem_lt hm2
            simp only []
            by_cases hy : y.1 < x.1
            · simp only [hy, if_true]
            · simp only [hy, if_false]
              exact tail y (by omega) h4
        · simp only [Bool.not_eq_true] at hd
          simp only [hd, Bool.false_eq_true, if_false]
          exact tail x h1 h2
      · rw [h]
        simp only [h', Bool.false_eq_true, if_false]
        have h93 : has t 93 x.2 = false := by
          unfold peek at h''
          unfold has
          by_cases hl : t.length ≤ x.2
          · simp; omega
          · rw [if_neg hl] at h''
            by_cases hb : bt t x.2 < 32 ∨ 126 < bt t x.2
            · simp; omega
            · rw [if_neg hb] at h''; cases h''
        rw [h93]
        simp only [Bool.false_eq_true, if_false]
        rw [mem2_bad (by omega) h'']

theorem cls_mem2 (t : Text) (n i : Nat) (hn : t.length + 1 ≤ n + i) (hi : i ≤ t.length) :
    cls t n i = (mem2 t n noSet (if has t 94 i then i + 1 else i)).bind fun x => .ok (if has t 94 i then notSet x.1 else x.1, x.2) := by
  unfold cls
  rcases isOne_has (t := t) (c := 94) (i := i) (by omega) (by omega) with h | ⟨h, h', h''⟩
  · rw [h]; simp only [Got.bind]
    rw [members_mem2]
    split <;> omega
  · rw [h, h']; simp only [Got.bind]
    rw [if_neg (by simp), mem2_bad (by omega) h'']

end Go.Proofs.Ytnbghiaggapoiaa.Rx
