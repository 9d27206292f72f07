/- Patterns, plainly: how the program goes through the states: the states one comes to by oneself (near), a step by a byte, what is taken. No program in sight. -/
import Derived.Test.YtnbghiaggapoiaaRx
namespace Go.Proofs.Ytnbghiaggapoiaa
set_option linter.unusedSimpArgs false
set_option linter.unusedVariables false

/-- A number more, if it is new. -/
def push (l : List Nat) (x : Nat) : List Nat := if x ∈ l then l else l ++ [x]

theorem mem_push {l : List Nat} {x y : Nat} : y ∈ push l x ↔ y ∈ l ∨ y = x := by
  unfold push; split
  · constructor
    · exact .inl
    · rintro (h | rfl) <;> assumption
  · simp

theorem push_prefix (l : List Nat) (x : Nat) : l <+: push l x := by
  unfold push; split
  · exact List.prefix_refl _
  · exact List.prefix_append _ _

theorem pushes_prefix (xs : List Nat) : ∀ l, l <+: xs.foldl push l := by
  induction xs with
  | nil => exact fun l => List.prefix_refl _
  | cons x xs ih => exact fun l => (push_prefix l x).trans (ih _)

theorem mem_pushes (xs : List Nat) : ∀ {l : List Nat} {y : Nat}, y ∈ xs.foldl push l ↔ y ∈ l ∨ y ∈ xs := by
  induction xs with
  | nil => simp
  | cons x xs ih => intro l y; simp only [List.foldl_cons, ih, mem_push, List.mem_cons, or_assoc]

/-- Numbers below n, each once. -/
structure Few (n : Nat) (l : List Nat) : Prop where
  lt : ∀ y ∈ l, y < n
  nodup : l.Nodup

theorem Few.nil (n : Nat) : Few n [] := ⟨by simp, by simp⟩
theorem Few.push {n : Nat} {l : List Nat} (h : Few n l) {x : Nat} (hx : x < n) : Few n (push l x) := by
  refine ⟨fun y hy => ?_, ?_⟩
  · rcases mem_push.1 hy with h1 | rfl
    · exact h.lt y h1
    · exact hx
  · unfold Ytnbghiaggapoiaa.push; split
    · exact h.nodup
    · rename_i hn
      exact List.nodup_append.2 ⟨h.nodup, by simp, fun a ha b hb e => by simp at hb; subst hb; subst e; exact hn ha⟩
theorem Few.pushes {n : Nat} (xs : List Nat) : ∀ {l : List Nat}, Few n l → (∀ x ∈ xs, x < n) → Few n (xs.foldl Ytnbghiaggapoiaa.push l) := by
  induction xs with
  | nil => exact fun h _ => h
  | cons x xs ih => exact fun h hx => ih (h.push (hx x (by simp))) (fun y hy => hx y (by simp [hy]))

theorem nodup_below (n : Nat) : ∀ l : List Nat, l.Nodup → (∀ y ∈ l, y < n) → l.length ≤ n := by
  induction n with
  | zero => intro l _ h; cases l with
    | nil => simp
    | cons x l => exact absurd (h x (by simp)) (by omega)
  | succ n ih =>
    intro l hn h
    have h1 := ih (l.erase n) (hn.erase n) (fun y hy => by
      have := (List.Nodup.mem_erase_iff hn).1 hy
      have := h y this.2; omega)
    by_cases hm : n ∈ l
    · have := List.length_erase_of_mem hm
      have := List.length_pos_of_mem hm
      omega
    · rw [List.erase_of_not_mem hm] at h1; omega

theorem Few.length {n : Nat} {l : List Nat} (h : Few n l) : l.length ≤ n := nodup_below n l h.nodup h.lt

namespace Rx

/-- Each way on leads to a state; one that takes a byte goes on to just one. -/
def Sound (sts : List NS) : Prop := ∀ n ∈ sts, (∀ y ∈ n.next, y < sts.length) ∧ (n.takes = true → ∃ y, n.next = [y])

/-- What a state brings to those that one comes to. -/
def more (sts : List NS) (x : Nat) : List Nat := match sts[x]? with
  | some n => if n.takes then [] else n.next
  | none => []
def grow (sts : List NS) (l : List Nat) (x : Nat) : List Nat := (more sts x).foldl push l
def front (sts : List NS) : Nat → List Nat → Nat → List Nat
  | 0, l, _ => l
  | k + 1, l, i => if i < l.length then front sts k (grow sts l (l.getD i 0)) (i + 1) else l
def near (sts : List NS) (l : List Nat) : List Nat := front sts (sts.length + 1) (l.foldl push []) 0

theorem more_lt {sts : List NS} (h : Sound sts) {x y : Nat} (hy : y ∈ more sts x) : y < sts.length := by
  unfold more at hy
  split at hy
  · rename_i n hn
    split at hy
    · simp at hy
    · exact (h n (List.mem_of_getElem? hn)).1 y hy
  · simp at hy

theorem grow_prefix (sts : List NS) (l : List Nat) (x : Nat) : l <+: grow sts l x := pushes_prefix _ _
theorem grow_few {sts : List NS} (h : Sound sts) {l : List Nat} (hl : Few sts.length l) (x : Nat) : Few sts.length (grow sts l x) := hl.pushes _ (fun _ => more_lt h)

theorem front_prefix (sts : List NS) : ∀ (k : Nat) (l : List Nat) (i : Nat), l <+: front sts k l i := by
  intro k
  induction k with
  | zero => exact fun l i => List.prefix_refl _
  | succ k ih =>
    intro l i
    unfold front
    split
    · exact (grow_prefix sts l _).trans (ih _ _)
    · exact List.prefix_refl _

theorem front_few {sts : List NS} (h : Sound sts) : ∀ (k : Nat) {l : List Nat} (i : Nat), Few sts.length l → Few sts.length (front sts k l i) := by
  intro k
  induction k with
  | zero => exact fun i h => h
  | succ k ih =>
    intro l i hl
    unfold front
    split
    · exact ih _ (grow_few h hl _)
    · exact hl

/-- Where one stands: all, in order, are those that are there, and those that come yet. -/
theorem front_at {sts : List NS} {k : Nat} {l : List Nat} {i : Nat} (hi : i < l.length) : ∃ rest, front sts k l i = l.take i ++ l[i] :: rest := by
  obtain ⟨t, ht⟩ := front_prefix sts k l i
  refine ⟨l.drop (i + 1) ++ t, ?_⟩
  rw [← ht, ← List.cons_append, ← List.append_assoc, ← List.drop_eq_getElem_cons hi, List.take_append_drop]

theorem front_step {sts : List NS} {k : Nat} {l : List Nat} {i : Nat} (hl : Few sts.length l) (hk : sts.length + 1 ≤ k + i) (hi : i < l.length) : ∃ k', front sts k l i = front sts k' (grow sts l l[i]) (i + 1) ∧ sts.length + 1 ≤ k' + (i + 1) := by
  have := hl.length
  cases k with
  | zero => omega
  | succ k =>
    refine ⟨k, ?_, by omega⟩
    rw [front, if_pos hi]
    simp [List.getD_eq_getElem?_getD, List.getElem?_eq_getElem hi]

theorem front_done {sts : List NS} {k : Nat} {l : List Nat} {i : Nat} (hi : l.length ≤ i) : front sts k l i = l := by
  cases k with
  | zero => rfl
  | succ k => rw [front, if_neg (by omega)]

/-- A step by a byte. -/
def hop (sts : List NS) (c : Nat) (l : List Nat) (x : Nat) : List Nat := match sts[x]? with
  | some n => if n.takes && n.set c then push l (n.next.headD 0) else l
  | none => l
def step (sts : List NS) (l : List Nat) (c : Nat) : List Nat := (near sts l).foldl (hop sts c) []
/-- Whether a text is taken from one state to another one. -/
def runs (sts : List NS) (first last : Nat) (cs : List Nat) : Bool := decide (last ∈ near sts (cs.foldl (step sts) [first]))

theorem hop_few {sts : List NS} (h : Sound sts) {l : List Nat} (hl : Few sts.length l) (c x : Nat) : Few sts.length (hop sts c l x) := by
  unfold hop
  split
  · rename_i n hn
    split
    · rename_i ht
      have hm := List.mem_of_getElem? hn
      simp only [Bool.and_eq_true] at ht
      obtain ⟨y, hy⟩ := (h n hm).2 ht.1
      refine hl.push ((h n hm).1 _ ?_)
      rw [hy]; simp
    · exact hl
  · exact hl

theorem hops_few {sts : List NS} (h : Sound sts) (c : Nat) (xs : List Nat) : ∀ {l : List Nat}, Few sts.length l → Few sts.length (xs.foldl (hop sts c) l) := by
  induction xs with
  | nil => exact fun h => h
  | cons x xs ih => exact fun hl => ih (hop_few h hl c x)

theorem near_few {sts : List NS} (h : Sound sts) {l : List Nat} (hl : ∀ x ∈ l, x < sts.length) : Few sts.length (near sts l) := front_few h _ _ ((Few.nil _).pushes _ hl)
theorem near_nil (sts : List NS) : near sts [] = [] := by
  unfold near; exact front_done (by simp)
theorem step_nil (sts : List NS) (c : Nat) : step sts [] c = [] := by unfold step; rw [near_nil]; rfl
theorem steps_nil (sts : List NS) (cs : List Nat) : cs.foldl (step sts) [] = [] := by
  induction cs with
  | nil => rfl
  | cons c cs ih => simp only [List.foldl_cons, step_nil, ih]

end Rx
end Go.Proofs.Ytnbghiaggapoiaa
