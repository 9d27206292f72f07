/- Patterns, plainly: the texts a pattern takes, and that the states of it take just these. No program in sight. -/
import Derived.Test.YtnbghiaggapoiaaNfa
namespace Go.Proofs.Ytnbghiaggapoiaa.Rx
set_option linter.unusedSimpArgs false
set_option linter.unusedVariables false

/-- The texts that a pattern takes. -/
inductive Lang : Re → List Nat → Prop
  | set {f : BSet} {c : Nat} : f c = true → Lang (.set f) [c]
  | cat {p x : Re} {u v : List Nat} : Lang p u → Lang x v → Lang (.cat p x) (u ++ v)
  | altl {p r : Re} {u : List Nat} : Lang p u → Lang (.alt p r) u
  | altr {p r : Re} {u : List Nat} : Lang r u → Lang (.alt p r) u
  | star0 {r : Re} : Lang (.star r) []
  | starS {r : Re} {u v : List Nat} : Lang r u → Lang (.star r) v → Lang (.star r) (u ++ v)
  | plus1 {r : Re} {u : List Nat} : Lang r u → Lang (.plus r) u
  | plusS {r : Re} {u v : List Nat} : Lang r u → Lang (.plus r) v → Lang (.plus r) (u ++ v)
  | opt0 {r : Re} : Lang (.opt r) []
  | optS {r : Re} {u : List Nat} : Lang r u → Lang (.opt r) u

def Re.isAlt : Re → Prop
  | .alt0 => True
  | .alt _ _ => True
  | _ => False
def Re.wf : Re → Prop
  | .set _ => True
  | .cat p x => p.wf ∧ x.wf
  | .alt0 => True
  | .alt p r => p.isAlt ∧ p.wf ∧ r.wf
  | .star r => r.wf
  | .plus r => r.wf
  | .opt r => r.wf

/-- A way through the states, of k steps. -/
inductive Path (S : List NS) : Nat → Nat → List Nat → Nat → Prop
  | nil (x : Nat) : Path S 0 x [] x
  | eps {k x y z : Nat} {w : List Nat} {n : NS} : S[x]? = some n → n.takes = false → y ∈ n.next → Path S k y w z → Path S (k + 1) x w z
  | eat {k x y z c : Nat} {w : List Nat} {n : NS} : S[x]? = some n → n.takes = true → n.set c = true → n.next = [y] → Path S k y w z → Path S (k + 1) x (c :: w) z

def Goes (S : List NS) (x : Nat) (w : List Nat) (z : Nat) : Prop := ∃ k, Path S k x w z
theorem Path.trans {S : List NS} {k j x y z : Nat} {u v : List Nat} (h : Path S k x u y) (h2 : Path S j y v z) : Path S (k + j) x (u ++ v) z := by
  induction h with
  | nil x => simpa using h2
  | eps h1 h3 h4 _ ih => rw [Nat.add_right_comm]; exact .eps h1 h3 h4 (ih h2)
  | eat h1 h3 h4 h5 _ ih => rw [Nat.add_right_comm]; exact .eat h1 h3 h4 h5 (ih h2)
theorem Goes.trans {S : List NS} {x y z : Nat} {u v : List Nat} (h : Goes S x u y) (h2 : Goes S y v z) : Goes S x (u ++ v) z := by
  obtain ⟨k, h⟩ := h; obtain ⟨j, h2⟩ := h2; exact ⟨_, h.trans h2⟩
theorem Goes.hop {S : List NS} {x y z : Nat} {w : List Nat} {n : NS} (h1 : S[x]? = some n) (h2 : n.takes = false) (h3 : y ∈ n.next) (h : Goes S y w z) : Goes S x w z := by
  obtain ⟨k, h⟩ := h; exact ⟨_, .eps h1 h2 h3 h⟩
theorem Goes.same (S : List NS) (x : Nat) : Goes S x [] x := ⟨0, .nil x⟩

theorem get_addE_ne {s : List NS} {a b j : Nat} (h : j ≠ a) : (addE s a b)[j]? = s[j]? := by
  simp [addE, List.getElem?_modify, Ne.symm h]
theorem get_addE_eq {s : List NS} {a b : Nat} {n : NS} (h : s[a]? = some n) : (addE s a b)[a]? = some { n with next := n.next ++ [b] } := by
  simp [addE, List.getElem?_modify, h]

structure Built (s : List NS) (B : Nat × Nat × List NS) : Prop where
  f0 : s.length ≤ B.1
  f1 : B.1 < B.2.2.length
  l0 : s.length ≤ B.2.1
  l1 : B.2.1 < B.2.2.length
  ne : B.1 ≠ B.2.1
  old : ∀ i, i < s.length → B.2.2[i]? = s[i]?
  last : B.2.2[B.2.1]? = some ns0

theorem get_two (s : List NS) (x y : NS) : (s ++ [x, y])[s.length]? = some x ∧ (s ++ [x, y])[s.length + 1]? = some y := by simp

theorem built (r : Re) : ∀ s, Built s (build r s) := by
  induction r with
  | set f => intro s; refine ⟨?_, ?_, ?_, ?_, ?_, ?_, ?_⟩ <;> simp [build]; exact fun i hi => by rw [List.getElem?_append_left hi]
  | cat p x ihp ihx =>
    intro s
    have P := ihp s
    have X := ihx (build p s).2.2
    have h1 := P.f0; have h2 := P.f1; have h3 := P.l0; have h4 := P.l1; have h5 := X.f0; have h6 := X.f1; have h7 := X.l0; have h8 := X.l1
    refine ⟨?_, ?_, ?_, ?_, ?_, ?_, ?_⟩ <;> simp only [build, length_addE]
    · omega
    · omega
    · omega
    · omega
    · omega
    · intro i hi; rw [get_addE_ne (by omega), X.old i (by omega), P.old i hi]
    · rw [get_addE_ne (by omega)]; exact X.last
  | alt0 => intro s; refine ⟨?_, ?_, ?_, ?_, ?_, ?_, ?_⟩ <;> simp [build]; exact fun i hi => by rw [List.getElem?_append_left hi]
  | alt p r ihp ihr =>
    intro s
    have P := ihp s
    have R := ihr (build p s).2.2
    have h1 := P.f0; have h2 := P.f1; have h3 := P.l0; have h4 := P.l1; have h5 := R.f0; have h6 := R.f1; have h7 := R.l0; have h8 := R.l1; have h9 := P.ne
    refine ⟨?_, ?_, ?_, ?_, ?_, ?_, ?_⟩ <;> simp only [build, length_addE]
    · omega
    · omega
    · omega
    · omega
    · omega
    · intro i hi; rw [get_addE_ne (by omega), get_addE_ne (by omega), R.old i (by omega), P.old i hi]
    · rw [get_addE_ne (by omega), get_addE_ne (by omega), R.old _ (by omega)]; exact P.last
  | star r ih =>
    intro s
    have R := ih s
    have h1 := R.f0; have h2 := R.f1; have h3 := R.l0; have h4 := R.l1
    have g := get_two (build r s).2.2 ns0 ns0
    refine ⟨?_, ?_, ?_, ?_, ?_, ?_, ?_⟩ <;> simp only [build, length_addE, List.length_append, List.length_cons, List.length_nil]
    · omega
    · omega
    · omega
    · omega
    · omega
    · intro i hi; rw [get_addE_ne (by omega), get_addE_ne (by omega), get_addE_ne (by omega), get_addE_ne (by omega), List.getElem?_append_left (by omega), R.old i hi]
    · rw [get_addE_ne (by omega), get_addE_ne (by omega), get_addE_ne (by omega), get_addE_ne (by omega)]; exact g.2
  | plus r ih =>
    intro s
    have R := ih s
    have h1 := R.f0; have h2 := R.f1; have h3 := R.l0; have h4 := R.l1
    have g := get_two (build r s).2.2 ns0 ns0
    refine ⟨?_, ?_, ?_, ?_, ?_, ?_, ?_⟩ <;> simp only [build, length_addE, List.length_append, List.length_cons, List.length_nil]
    · omega
    · omega
    · omega
    · omega
    · omega
    · intro i hi; rw [get_addE_ne (by omega), get_addE_ne (by omega), get_addE_ne (by omega), List.getElem?_append_left (by omega), R.old i hi]
    · rw [get_addE_ne (by omega), get_addE_ne (by omega), get_addE_ne (by omega)]; exact g.2
  | opt r ih =>
    intro s
    have R := ih s
    have h1 := R.f0; have h2 := R.f1; have h3 := R.l0; have h4 := R.l1
    have g := get_two (build r s).2.2 ns0 ns0
    refine ⟨?_, ?_, ?_, ?_, ?_, ?_, ?_⟩ <;> simp only [build, length_addE, List.length_append, List.length_cons, List.length_nil]
    · omega
    · omega
    · omega
    · omega
    · omega
    · intro i hi; rw [get_addE_ne (by omega), get_addE_ne (by omega), get_addE_ne (by omega), List.getElem?_append_left (by omega), R.old i hi]
    · rw [get_addE_ne (by omega), get_addE_ne (by omega), get_addE_ne (by omega)]; exact g.2

end Go.Proofs.Ytnbghiaggapoiaa.Rx
