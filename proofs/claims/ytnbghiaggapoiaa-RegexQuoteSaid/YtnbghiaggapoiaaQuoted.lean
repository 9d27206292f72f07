/- Patterns, plainly: a text with strokes is read as the text itself. No program in sight. -/
import Derived.Test.YtnbghiaggapoiaaQuote
import Derived.Test.YtnbghiaggapoiaaWf
namespace Go.Proofs.Ytnbghiaggapoiaa.Rx
set_option linter.unusedSimpArgs false
set_option linter.unusedVariables false
open Go.Proofs.Ytnbghiaggapoiaa (special quoted quoted_append quoted_length)

/-- The pattern of one byte. -/
def sq (b : UInt8) : Re := .set (between b.toNat b.toNat)
/-- A byte, with a stroke where it means more. -/
def q1 (b : UInt8) : List UInt8 := if special.contains b.toNat then [92, b] else [b]
def fine (b : UInt8) : Prop := 32 ≤ b.toNat ∧ b.toNat ≤ 126

theorem quoted_cons (b : UInt8) (l : List UInt8) : quoted (b :: l) = q1 b ++ quoted l := rfl

theorem bt_at (a c : List UInt8) (b : UInt8) : bt (a ++ b :: c) a.length = b.toNat := by simp [bt]
theorem peek_at (a c : List UInt8) (b : UInt8) (h : fine b) : peek (a ++ b :: c) a.length = .ok (some b.toNat) := by
  obtain ⟨h1, h2⟩ := h
  unfold peek
  rw [if_neg (by simp), bt_at, if_neg (by omega)]
theorem peek_end (a : List UInt8) : peek a a.length = .ok none := by unfold peek; rw [if_pos (Nat.le_refl _)]
theorem isOne_at (a c : List UInt8) (b : UInt8) (h : fine b) (l : List Nat) : isOne (a ++ b :: c) l a.length = .ok (l.contains b.toNat) := by simp [isOne, peek_at a c b h, Got.bind]
theorem isOne_end (a : List UInt8) (l : List Nat) : isOne a l a.length = .ok false := by simp [isOne, peek_end, Got.bind]
theorem take_at (a c : List UInt8) (b : UInt8) (h : fine b) : take (a ++ b :: c) a.length = .ok b.toNat := by simp [take, peek_at a c b h, Got.bind]

theorem atom_q (a c : List UInt8) (b : UInt8) (n d : Nat) (h : fine b) : atom (a ++ (q1 b ++ c)) (n + 1) d a.length = .ok (sq b, a.length + (q1 b).length) := by
  unfold q1
  by_cases hs : special.contains b.toNat = true
  · rw [if_pos hs]
    have h92 : fine 92 := ⟨by decide, by decide⟩
    have e1 : a ++ ([92, b] ++ c) = a ++ 92 :: (b :: c) := rfl
    have e2 : a ++ ([92, b] ++ c) = (a ++ [92]) ++ b :: c := by simp
    unfold atom
    rw [e1, take_at a _ 92 h92]
    have t2 := take_at (a ++ [92]) c b h
    rw [← e2, e1, List.length_append] at t2
    have : (92 : UInt8).toNat = 92 := rfl
    simp only [Got.bind, this]
    rw [if_neg (by decide), if_pos trivial]
    have t3 : take (a ++ 92 :: b :: c) (a.length + 1) = .ok b.toNat := t2
    rw [t3]; rfl
  · rw [if_neg hs]
    simp only [special, List.contains_cons, List.contains_nil, Bool.or_false, Bool.or_eq_true, not_or, beq_iff_eq] at hs
    obtain ⟨h0, h1, h2, h3, h4, h5, h6, h7, h8, h9⟩ := hs
    have e1 : a ++ ([b] ++ c) = a ++ b :: c := rfl
    unfold atom
    rw [e1, take_at a c b h]
    simp only [Got.bind]
    have hm : marks.contains b.toNat = false := by
      simp only [marks, List.contains_cons, List.contains_nil, Bool.or_false, Bool.or_eq_false_iff, beq_eq_false_iff_ne]
      exact ⟨h0, h1, h2, h3, h4, h5, h6, h7, h8⟩
    rw [if_neg h9, if_neg h8, if_neg h2, if_neg h0, hm]
    rfl

theorem q1_head (b : UInt8) : ∃ x r, q1 b = x :: r ∧ (fine b → fine x) ∧ ([42, 43, 63].contains x.toNat = false) ∧ x.toNat ≠ 124 ∧ x.toNat ≠ 41 := by
  unfold q1
  by_cases hs : special.contains b.toNat = true
  · rw [if_pos hs]; exact ⟨92, [b], rfl, fun _ => ⟨by decide, by decide⟩, by decide, by decide, by decide⟩
  · rw [if_neg hs]
    simp only [special, List.contains_cons, List.contains_nil, Bool.or_false, Bool.or_eq_true, not_or, beq_iff_eq] at hs
    obtain ⟨h0, h1, h2, h3, h4, h5, h6, h7, h8, h9⟩ := hs
    refine ⟨b, [], rfl, id, ?_, h4, h1⟩
    simp only [List.contains_cons, List.contains_nil, Bool.or_false, Bool.or_eq_false_iff, beq_eq_false_iff_ne]
    exact ⟨h5, h6, h7⟩

theorem part_q (a : List UInt8) (b : UInt8) (l : List UInt8) (n d : Nat) (h : fine b) (hl : ∀ x ∈ l, fine x) : part (a ++ quoted (b :: l)) (n + 2) d a.length = .ok (sq b, a.length + (q1 b).length) := by
  unfold part
  rw [quoted_cons, atom_q a (quoted l) b n d h]
  simp only [Got.bind]
  unfold rep
  have e : a ++ (q1 b ++ quoted l) = (a ++ q1 b) ++ quoted l := by simp
  have el : a.length + (q1 b).length = (a ++ q1 b).length := by simp
  rw [e, el]
  cases l with
  | nil =>
    have e0 : (a ++ q1 b) ++ quoted [] = a ++ q1 b := by simp [quoted]
    rw [e0, isOne_end]
    rfl
  | cons x l =>
    obtain ⟨y, r, hy, hf, hc, _, _⟩ := q1_head x
    rw [quoted_cons, hy, List.cons_append, isOne_at _ _ y (hf (hl x (by simp)))]
    simp only [Got.bind, hc]
    rfl

theorem parts_q : ∀ (l a : List UInt8) (acc : Re) (n d : Nat), (∀ x ∈ l, fine x) → l.length + 3 ≤ n → parts (a ++ quoted l) n acc d a.length = .ok (l.foldl (fun r b => .cat r (sq b)) acc, (a ++ quoted l).length) := by
  intro l
  induction l with
  | nil =>
    intro a acc n d _ hn
    obtain ⟨m, rfl⟩ : ∃ m, n = m + 1 := ⟨n - 1, by simp at hn; omega⟩
    unfold parts
    have e0 : a ++ quoted [] = a := by simp [quoted]
    rw [e0, peek_end]; rfl
  | cons b l ih =>
    intro a acc n d hf hn
    obtain ⟨m, rfl⟩ : ∃ m, n = m + 3 := ⟨n - 3, by simp at hn; omega⟩
    obtain ⟨y, r, hy, hfy, _, h1, h2⟩ := q1_head b
    have hpe : peek (a ++ quoted (b :: l)) a.length = .ok (some y.toNat) := by
      rw [quoted_cons, hy, List.cons_append]; exact peek_at _ _ y (hfy (hf b (by simp)))
    unfold parts
    rw [hpe]
    simp only [Got.bind]
    rw [if_neg (by omega), part_q a b l m d (hf b (by simp)) (fun x hx => hf x (by simp [hx]))]
    simp only [Got.bind]
    have e : a ++ quoted (b :: l) = (a ++ q1 b) ++ quoted l := by rw [quoted_cons]; simp
    have el : a.length + (q1 b).length = (a ++ q1 b).length := by simp
    rw [e, el, ih (a ++ q1 b) (.cat acc (sq b)) (m + 2) d (fun x hx => hf x (by simp [hx])) (by simp at hn ⊢; omega)]
    rfl

/-- The pattern of a text alone. -/
def textRe (b : UInt8) (l : List UInt8) : Re := .alt .alt0 (l.foldl (fun r b => .cat r (sq b)) (sq b))

theorem parse_q (b : UInt8) (l : List UInt8) (hf : ∀ x ∈ b :: l, fine x) (hl : l.length < 30) : parse (quoted (b :: l)) = .ok (textRe b l) := by
  have hq := quoted_length (b :: l)
  have hlow : (b :: l).length ≤ (quoted (b :: l)).length := by
    have : ∀ l : List UInt8, l.length ≤ (quoted l).length := by
      intro l
      induction l with
      | nil => simp
      | cons b l ih => rw [quoted_cons]; obtain ⟨y, r, hy, _⟩ := q1_head b; simp [hy]; omega
    exact this _
  simp only [List.length_cons] at hq hlow
  unfold parse
  rw [if_neg (by omega)]
  obtain ⟨m, hm⟩ : ∃ m, fuel (quoted (b :: l)) 0 = m + 4 := ⟨fuel (quoted (b :: l)) 0 - 4, by unfold fuel; omega⟩
  have hm' : 4 * l.length + 8 ≤ m + 4 := by rw [← hm]; unfold fuel; omega
  rw [hm]
  have h0 : quoted (b :: l) = [] ++ quoted (b :: l) := rfl
  have hp : part (quoted (b :: l)) (m + 2) 0 0 = .ok (sq b, (q1 b).length) := by
    have := part_q [] b l m 0 (hf b (by simp)) (fun x hx => hf x (by simp [hx]))
    simpa using this
  have hps : parts (quoted (b :: l)) (m + 2) (sq b) 0 (q1 b).length = .ok (l.foldl (fun r b => .cat r (sq b)) (sq b), (quoted (b :: l)).length) :=
    parts_q l (q1 b) (sq b) (m + 2) 0 (fun x hx => hf x (by simp [hx])) (by omega)
  have hr : row (quoted (b :: l)) (m + 3) 0 0 = .ok (l.foldl (fun r b => .cat r (sq b)) (sq b), (quoted (b :: l)).length) := by
    unfold row
    rw [hp]; simp only [Got.bind]; exact hps
  unfold rows
  rw [hr]
  simp only [Got.bind]
  have hi : isOne (quoted (b :: l)) [124] (quoted (b :: l)).length = .ok false := by simp [isOne, peek_end, Got.bind]
  rw [hi]
  simp only [Bool.false_eq_true, if_false, Nat.lt_irrefl]
  rfl

theorem lang_sq (b : UInt8) (u : List Nat) : Lang (sq b) u ↔ u = [b.toNat] := by
  constructor
  · intro h
    cases h with
    | set hc => simp [between] at hc; obtain ⟨h1, h2⟩ := hc; simp; omega
  · rintro rfl; exact .set (by simp [between])

theorem lang_fold : ∀ (l : List UInt8) (r : Re) (u0 : List Nat) (u : List Nat), (∀ v, Lang r v ↔ v = u0) → (Lang (l.foldl (fun r b => .cat r (sq b)) r) u ↔ u = u0 ++ l.map fun b => b.toNat) := by
  intro l
  induction l with
  | nil => intro r u0 u h; simpa using h u
  | cons b l ih =>
    intro r u0 u h
    rw [List.foldl_cons, ih (.cat r (sq b)) (u0 ++ [b.toNat]) u ?_]
    · simp
    · intro v
      constructor
      · intro hv
        cases hv with
        | cat h1 h2 => rw [(h _).1 h1, (lang_sq b _).1 h2]
      · rintro rfl; exact .cat ((h _).2 rfl) ((lang_sq b _).2 rfl)

theorem lang_text (b : UInt8) (l : List UInt8) (u : List Nat) : Lang (textRe b l) u ↔ u = (b :: l).map fun b => b.toNat := by
  have h := lang_fold l (sq b) [b.toNat] u (lang_sq b)
  constructor
  · intro hu
    cases hu with
    | altl h' => cases h'
    | altr h' => simpa using h.1 h'
  · intro hu; exact .altr (h.2 (by simpa using hu))

end Go.Proofs.Ytnbghiaggapoiaa.Rx
