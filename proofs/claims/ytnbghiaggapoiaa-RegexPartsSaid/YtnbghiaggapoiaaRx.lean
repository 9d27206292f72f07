/- Patterns, plainly: how a text is read as a pattern (or where it is wrong), and which states the program makes of it. No program in sight. -/
namespace Go.Proofs.Ytnbghiaggapoiaa.Rx
set_option linter.unusedSimpArgs false
set_option linter.unusedVariables false

abbrev BSet := Nat → Bool

/-- A pattern that is read: alt0 is a choice without rows yet, alt p r one row more; cat p x one part more in a row. -/
inductive Re where
  | set (f : BSet)
  | cat (p x : Re)
  | alt0
  | alt (p r : Re)
  | star (r : Re)
  | plus (r : Re)
  | opt (r : Re)

/-- A state: takes a byte of a set, or goes on by itself. -/
structure NS where
  takes : Bool
  set : BSet
  next : List Nat

def noSet : BSet := fun _ => false
def ns0 : NS := ⟨false, noSet, []⟩
/-- a goes on to b, too. -/
def addE (s : List NS) (a b : Nat) : List NS := s.modify a fun n => { n with next := n.next ++ [b] }

/-- The states of a pattern, behind those that are there; where it begins, where it ends. -/
def build : Re → List NS → Nat × Nat × List NS
  | .set f, s => (s.length + 1, s.length, s ++ [ns0, ⟨true, f, [s.length]⟩])
  | .cat p x, s =>
    let P := build p s
    let X := build x P.2.2
    (P.1, X.2.1, addE X.2.2 P.2.1 X.1)
  | .alt0, s => (s.length, s.length + 1, s ++ [ns0, ns0])
  | .alt p r, s =>
    let P := build p s
    let R := build r P.2.2
    (P.1, P.2.1, addE (addE R.2.2 P.1 R.1) R.2.1 P.2.1)
  | .star r, s =>
    let R := build r s
    let n := R.2.2.length
    (n, n + 1, addE (addE (addE (addE (R.2.2 ++ [ns0, ns0]) n R.1) R.2.1 (n + 1)) n (n + 1)) R.2.1 R.1)
  | .plus r, s =>
    let R := build r s
    let n := R.2.2.length
    (n, n + 1, addE (addE (addE (R.2.2 ++ [ns0, ns0]) n R.1) R.2.1 (n + 1)) R.2.1 R.1)
  | .opt r, s =>
    let R := build r s
    let n := R.2.2.length
    (n, n + 1, addE (addE (addE (R.2.2 ++ [ns0, ns0]) n R.1) R.2.1 (n + 1)) n (n + 1))

/-- How many states and ways on there are. -/
def wt (s : List NS) : Nat := (s.map fun n => 1 + n.next.length).sum
def Re.wt : Re → Nat
  | .set _ => 3
  | .cat p x => p.wt + x.wt + 1
  | .alt0 => 2
  | .alt p r => p.wt + r.wt + 2
  | .star r => r.wt + 6
  | .plus r => r.wt + 5
  | .opt r => r.wt + 5

theorem length_addE (s : List NS) (a b : Nat) : (addE s a b).length = s.length := by simp [addE]
theorem wt_append (s t : List NS) : wt (s ++ t) = wt s + wt t := by simp [wt]
theorem wt_addE_le (s : List NS) (a b : Nat) : wt (addE s a b) ≤ wt s + 1 := by
  unfold addE wt
  induction s generalizing a with
  | nil => rw [List.modify_nil]; simp
  | cons x s ih =>
    cases a with
    | zero => simp; omega
    | succ a => have := ih a; simp at this ⊢; omega
theorem length_le_wt (s : List NS) : s.length ≤ wt s := by
  unfold wt
  induction s with
  | nil => simp
  | cons x s ih => simp; omega
theorem next_le_wt {s : List NS} {n : NS} (h : n ∈ s) : n.next.length ≤ wt s := by
  unfold wt
  induction s with
  | nil => simp at h
  | cons x s ih =>
    simp only [List.map_cons, List.sum_cons]
    rcases List.mem_cons.1 h with rfl | h
    · omega
    · have := ih h; omega

theorem wt_build (r : Re) : ∀ s, wt (build r s).2.2 ≤ wt s + r.wt := by
  induction r with
  | set f => intro s; simp [build, wt_append, Re.wt]; simp [wt, ns0]
  | cat p x ihp ihx => intro s; simp only [build, Re.wt]; have a := ihp s; have b := ihx (build p s).2.2; have c := wt_addE_le (build x (build p s).2.2).2.2 (build p s).2.1 (build x (build p s).2.2).1; omega
  | alt0 => intro s; simp [build, wt_append, Re.wt]; simp [wt, ns0]
  | alt p r ihp ihr =>
    intro s; simp only [build, Re.wt]
    have a := ihp s; have b := ihr (build p s).2.2
    refine Nat.le_trans (wt_addE_le _ _ _) ?_
    have c := wt_addE_le (build r (build p s).2.2).2.2 (build p s).1 (build r (build p s).2.2).1
    omega
  | star r ih =>
    intro s; simp only [build, Re.wt]
    have a := ih s
    have z : wt [ns0, ns0] = 2 := rfl
    refine Nat.le_trans (wt_addE_le _ _ _) ?_
    refine Nat.le_trans (Nat.add_le_add_right (wt_addE_le _ _ _) 1) ?_
    refine Nat.le_trans (Nat.add_le_add_right (Nat.add_le_add_right (wt_addE_le _ _ _) 1) 1) ?_
    refine Nat.le_trans (Nat.add_le_add_right (Nat.add_le_add_right (Nat.add_le_add_right (wt_addE_le _ _ _) 1) 1) 1) ?_
    rw [wt_append, z]; omega
  | plus r ih =>
    intro s; simp only [build, Re.wt]
    have a := ih s
    have z : wt [ns0, ns0] = 2 := rfl
    refine Nat.le_trans (wt_addE_le _ _ _) ?_
    refine Nat.le_trans (Nat.add_le_add_right (wt_addE_le _ _ _) 1) ?_
    refine Nat.le_trans (Nat.add_le_add_right (Nat.add_le_add_right (wt_addE_le _ _ _) 1) 1) ?_
    rw [wt_append, z]; omega
  | opt r ih =>
    intro s; simp only [build, Re.wt]
    have a := ih s
    have z : wt [ns0, ns0] = 2 := rfl
    refine Nat.le_trans (wt_addE_le _ _ _) ?_
    refine Nat.le_trans (Nat.add_le_add_right (wt_addE_le _ _ _) 1) ?_
    refine Nat.le_trans (Nat.add_le_add_right (Nat.add_le_add_right (wt_addE_le _ _ _) 1) 1) ?_
    rw [wt_append, z]; omega

/-! ### reading -/
abbrev Text := List UInt8
/-- The byte at a place; beyond the end 0. -/
def bt (t : Text) (i : Nat) : Nat := (t.getD i 0).toNat

/-- What a step comes to: something, or an error and where. -/
inductive Got (α : Type) where
  | ok (a : α)
  | bad (at_ e : Nat)

def Got.bind {α β : Type} : Got α → (α → Got β) → Got β
  | .ok a, f => f a
  | .bad i e, _ => .bad i e

/-- The next byte; none: the text is at its end. -/
def peek (t : Text) (i : Nat) : Got (Option Nat) :=
  if t.length ≤ i then .ok none
  else if bt t i < 32 ∨ 126 < bt t i then .bad i 2
  else .ok (some (bt t i))

def isOne (t : Text) (l : List Nat) (i : Nat) : Got Bool :=
  (peek t i).bind fun c => .ok (match c with | none => false | some c => l.contains c)

/-- A byte that must be there. -/
def take (t : Text) (i : Nat) : Got Nat :=
  (peek t i).bind fun c => match c with | none => .bad i 2 | some c => .ok c

def marks : List Nat := [40, 41, 91, 93, 124, 42, 43, 63, 92]
def kept : List Nat := [93, 92, 45, 94]

/-- A byte in brackets; what is behind it. -/
def member (t : Text) (i : Nat) : Got (Nat × Nat) :=
  (take t i).bind fun c =>
    if c = 92 then (take t (i + 1)).bind fun d => .ok (d, i + 2)
    else if kept.contains c then .bad i 2
    else .ok (c, i + 1)

def orSet (f g : BSet) : BSet := fun c => f c || g c
def notSet (f : BSet) : BSet := fun c => !f c
def between (a b : Nat) : BSet := fun c => decide (a ≤ c) && decide (c ≤ b)

/-- The bytes in brackets, from one on, with those that were told ahead; what is behind the bracket. -/
def members (t : Text) : Nat → BSet → Nat → Got (BSet × Nat)
  | 0, _, _ => .bad 0 0
  | n + 1, f, i =>
    (member t i).bind fun x =>
    (isOne t [45] x.2).bind fun dash =>
    (if dash then (member t (x.2 + 1)).bind fun y => if y.1 < x.1 then .bad (x.2 + 1) 2 else .ok (y.1, y.2) else .ok x).bind fun y =>
    (isOne t [93] y.2).bind fun e =>
    if e then .ok (orSet f (between x.1 y.1), y.2 + 1) else members t n (orSet f (between x.1 y.1)) y.2

def cls (t : Text) (n i : Nat) : Got (BSet × Nat) :=
  (isOne t [94] i).bind fun no =>
  (members t n noSet (if no then i + 1 else i)).bind fun x => .ok (if no then notSet x.1 else x.1, x.2)

/-- What stands behind an atom. -/
def rep (t : Text) (r : Re) (i : Nat) : Got (Re × Nat) :=
  (isOne t [42, 43, 63] i).bind fun b =>
  if b then .ok (if bt t i = 42 then .star r else if bt t i = 43 then .plus r else .opt r, i + 1) else .ok (r, i)

mutual
/-- Rows with strokes between, behind those that were read. -/
def rows (t : Text) : Nat → Re → Nat → Nat → Got (Re × Nat)
  | 0, _, _, _ => .bad 0 0
  | n + 1, acc, d, i =>
    (row t n d i).bind fun x =>
    (isOne t [124] x.2).bind fun b =>
    if b then rows t n (.alt acc x.1) d (x.2 + 1) else .ok (.alt acc x.1, x.2)
/-- A row: a part, and those behind it. -/
def row (t : Text) : Nat → Nat → Nat → Got (Re × Nat)
  | 0, _, _ => .bad 0 0
  | n + 1, d, i => (part t n d i).bind fun x => parts t n x.1 d x.2
/-- The parts of a row behind those that were read. -/
def parts (t : Text) : Nat → Re → Nat → Nat → Got (Re × Nat)
  | 0, _, _, _ => .bad 0 0
  | n + 1, acc, d, i =>
    (peek t i).bind fun c => match c with
      | none => .ok (acc, i)
      | some c => if c = 124 ∨ c = 41 then .ok (acc, i) else (part t n d i).bind fun x => parts t n (.cat acc x.1) d x.2
/-- An atom, and what stands behind it. -/
def part (t : Text) : Nat → Nat → Nat → Got (Re × Nat)
  | 0, _, _ => .bad 0 0
  | n + 1, d, i => (atom t n d i).bind fun x => rep t x.1 x.2
def atom (t : Text) : Nat → Nat → Nat → Got (Re × Nat)
  | 0, _, _ => .bad 0 0
  | n + 1, d, i =>
    (take t i).bind fun c =>
    if c = 46 then .ok (.set (notSet noSet), i + 1)
    else if c = 92 then (take t (i + 1)).bind fun c => .ok (.set (between c c), i + 2)
    else if c = 91 then (cls t (t.length + 1 - i) (i + 1)).bind fun x => .ok (.set x.1, x.2)
    else if c = 40 then
      if 8 < d then .bad i 4
      else (rows t n .alt0 (d + 1) (i + 1)).bind fun x => (isOne t [41] x.2).bind fun b => if b then .ok (x.1, x.2 + 1) else .bad x.2 2
    else if marks.contains c then .bad i 2
    else .ok (.set (between c c), i + 1)
end

/-- Enough steps for a text. -/
def fuel (t : Text) (i : Nat) : Nat := 4 * (t.length - i) + 8

/-- A text as a pattern. -/
def parse (t : Text) : Got Re :=
  if 64 < t.length then .bad 0 4
  else (rows t (fuel t 0) .alt0 0 0).bind fun x => if x.2 < t.length then .bad x.2 2 else .ok x.1

end Go.Proofs.Ytnbghiaggapoiaa.Rx
