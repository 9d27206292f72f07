/- Patterns, plainly: patterns in brackets, alone, behind one another, one or the other, as often as a mark says. No program in sight. -/
import Derived.Test.YtnbghiaggapoiaaShift
import Derived.Test.YtnbghiaggapoiaaWf
namespace Go.Proofs.Ytnbghiaggapoiaa.Rx
set_option linter.unusedSimpArgs false
set_option linter.unusedVariables false

theorem parse_rows {p : Text} {r : Re} (h : parse p = .ok r) : rows p (fuel p 0) .alt0 0 0 = .ok (r, p.length) ∧ p.length ≤ 64 := by
  unfold parse at h
  split at h
  · cases h
  · obtain ⟨x, hx, h⟩ := bind_ok h
    have lx := (reads p _).1 _ _ _ _ _ hx (Nat.zero_le _)
    split at h
    · cases h
    · simp only [Got.ok.injEq] at h
      subst h
      rw [hx]
      have : x.2 = p.length := by omega
      rw [← this]
      exact ⟨rfl, by omega⟩

/-- How deep a pattern goes. -/
def Depth (p : Text) (r : Re) (h : Nat) : Prop := ∀ (t : Text) (o : Nat), Agree p t o → ∀ m d', fuel p 0 ≤ m → d' ≤ 9 → Fits o h d' (r, p.length) (rows t m .alt0 d' (o + 0))
theorem depth_of {p : Text} {r : Re} (h : parse p = .ok r) : ∃ h, Depth p r h := (fits p (fuel p 0)).1 _ _ _ _ (parse_rows h).1 (Nat.zero_le _)

theorem peek_is {t : Text} {i : Nat} {b : UInt8} (h : t[i]? = some b) (hb : 32 ≤ b.toNat ∧ b.toNat ≤ 126) : peek t i = .ok (some b.toNat) := by
  have hi : i < t.length := by
    rcases Nat.lt_or_ge i t.length with h' | h'
    · exact h'
    · rw [List.getElem?_eq_none h'] at h; cases h
  have e : bt t i = b.toNat := by simp [bt, List.getD_eq_getElem?_getD, h]
  unfold peek
  rw [if_neg (by omega), e, if_neg (by omega)]
theorem peek_out {t : Text} {i : Nat} (h : t.length ≤ i) : peek t i = .ok none := by unfold peek; rw [if_pos h]
theorem isOne_is {t : Text} {i : Nat} {b : UInt8} (h : t[i]? = some b) (hb : 32 ≤ b.toNat ∧ b.toNat ≤ 126) (l : List Nat) : isOne t l i = .ok (l.contains b.toNat) := by simp [isOne, peek_is h hb, Got.bind]
theorem isOne_out {t : Text} {i : Nat} (h : t.length ≤ i) (l : List Nat) : isOne t l i = .ok false := by simp [isOne, peek_out h, Got.bind]

/-- An atom in brackets. -/
theorem atom_brk {p t : Text} {r : Re} {h i m d : Nat} (hp : Depth p r h) (g : Agree p t (i + 1)) (h40 : t[i]? = some 40) (hd : d ≤ 8) (hm : fuel p 0 ≤ m) :
    (d + 1 + h ≤ 9 → atom t (m + 1) d i = .ok (r, i + p.length + 2)) ∧ (9 < d + 1 + h → ∃ k, atom t (m + 1) d i = .bad k 4) := by
  have f := hp t (i + 1) g m (d + 1) hm (by omega)
  simp only [Nat.add_zero] at f
  have hpk : peek t i = .ok (some 40) := peek_is h40 ⟨by decide, by decide⟩
  have ht : take t i = .ok 40 := by simp [take, hpk, Got.bind]
  rw [atom, ht]
  simp only [Got.bind]
  rw [if_neg (by decide), if_neg (by decide), if_neg (by decide), if_pos trivial, if_neg (by omega)]
  constructor
  · intro h9
    rw [f.1 h9]
    have : isOne t [41] (i + 1 + p.length) = .ok true := by simp [isOne, ag_end g, Got.bind]
    simp only [this, if_true]
    rw [show i + 1 + p.length + 1 = i + p.length + 2 from by omega]
  · intro h9
    obtain ⟨k, hk⟩ := f.2 h9
    exact ⟨k, by rw [hk]⟩

theorem agree_mid (a p c : Text) : Agree p (a ++ p ++ 41 :: c) a.length := by
  refine ⟨by simp, fun i hi => ?_, ?_⟩
  · unfold bt
    simp only [List.getD_eq_getElem?_getD]
    rw [List.append_assoc, List.getElem?_append_right (by omega), Nat.add_sub_cancel_left, List.getElem?_append_left hi]
  · unfold bt
    simp only [List.getD_eq_getElem?_getD]
    rw [show a.length + p.length = (a ++ p).length from by simp, List.getElem?_append_right (Nat.le_refl _), Nat.sub_self]
    rfl

theorem rep_none {t : Text} {r : Re} {i : Nat} (h : isOne t [42, 43, 63] i = .ok false) : rep t r i = .ok (r, i) := by simp [rep, h, Got.bind]

/-- In brackets. -/
def brk (p : Text) : Text := 40 :: (p ++ [41])
theorem brk_length (p : Text) : (brk p).length = p.length + 2 := by simp [brk]

theorem parse_brk {p : Text} {r : Re} {h : Nat} (hp : Depth p r h) (hl : p.length ≤ 62) : (1 + h ≤ 9 → parse (brk p) = .ok (.alt .alt0 r)) ∧ (9 < 1 + h → ∃ k, parse (brk p) = .bad k 4) := by
  have g : Agree p (brk p) 1 := agree_mid [40] p []
  have hlen := brk_length p
  obtain ⟨m, hm⟩ : ∃ m, fuel (brk p) 0 = m + 4 := ⟨fuel (brk p) 0 - 4, by unfold fuel; omega⟩
  have hfm : fuel p 0 ≤ m := by unfold fuel at hm ⊢; omega
  have ha := atom_brk hp g (i := 0) (d := 0) rfl (by omega) hfm
  have hpar : parse (brk p) = (rows (brk p) (m + 4) .alt0 0 0).bind fun x => if x.2 < (brk p).length then .bad x.2 2 else .ok x.1 := by
    unfold parse; rw [if_neg (by omega), hm]
  rw [hpar, rows_succ, row_succ, part_succ]
  constructor
  · intro h9
    have h1 := ha.1 (by omega)
    rw [h1]
    simp only [Got.bind, rep_none (isOne_out (t := brk p) (i := 0 + p.length + 2) (by omega) _), parts_succ, peek_out (t := brk p) (i := 0 + p.length + 2) (by omega), isOne_out (t := brk p) (i := 0 + p.length + 2) (by omega)]
    rw [if_neg (by decide)]
    simp only []
    rw [if_neg (by omega)]
  · intro h9
    obtain ⟨k, hk⟩ := ha.2 (by omega)
    exact ⟨k, by rw [hk]; rfl⟩

/-- Under a mark. -/
theorem parse_mark {p : Text} {r : Re} {h : Nat} (hp : Depth p r h) (hl : p.length ≤ 61) (h9 : 1 + h ≤ 9) (b : UInt8) (hb : b = 42 ∨ b = 43 ∨ b = 63) :
    parse (40 :: (p ++ [41, b])) = .ok (.alt .alt0 (if b.toNat = 42 then .star r else if b.toNat = 43 then .plus r else .opt r)) := by
  generalize ht : (40 :: (p ++ [41, b]) : Text) = t
  have g : Agree p t 1 := by rw [← ht]; exact agree_mid [40] p [b]
  have h40 : t[0]? = some 40 := by rw [← ht]; rfl
  have hlen : t.length = p.length + 3 := by rw [← ht]; simp
  have hbm : t[0 + p.length + 2]? = some b := by
    rw [← ht, show 0 + p.length + 2 = (p.length + 1) + 1 from by omega, List.getElem?_cons_succ, List.getElem?_append_right (by omega), show p.length + 1 - p.length = 1 from by omega]; rfl
  have hfb : 32 ≤ b.toNat ∧ b.toNat ≤ 126 := by rcases hb with rfl | rfl | rfl <;> decide
  have hcb : [42, 43, 63].contains b.toNat = true := by rcases hb with rfl | rfl | rfl <;> decide
  have hbt : bt t (0 + p.length + 2) = b.toNat := by unfold bt; rw [List.getD_eq_getElem?_getD, hbm]; rfl
  obtain ⟨m, hm⟩ : ∃ m, fuel t 0 = m + 4 := ⟨fuel t 0 - 4, by unfold fuel; omega⟩
  have hfm : fuel p 0 ≤ m := by unfold fuel at hm ⊢; omega
  have ha := (atom_brk hp g (i := 0) (d := 0) h40 (by omega) hfm).1 (by omega)
  have hr : rep t r (0 + p.length + 2) = .ok (if b.toNat = 42 then .star r else if b.toNat = 43 then .plus r else .opt r, 0 + p.length + 2 + 1) := by
    unfold rep
    rw [isOne_is hbm hfb, hcb]
    simp only [Got.bind, if_true, hbt]
  have hpar : parse t = (rows t (m + 4) .alt0 0 0).bind fun x => if x.2 < t.length then .bad x.2 2 else .ok x.1 := by
    unfold parse; rw [if_neg (by omega), hm]
  rw [hpar, rows_succ, row_succ, part_succ, ha]
  simp only [Got.bind, hr, parts_succ, peek_out (t := t) (i := 0 + p.length + 2 + 1) (by omega), isOne_out (t := t) (i := 0 + p.length + 2 + 1) (by omega)]
  rw [if_neg (by decide)]
  simp only []
  rw [if_neg (by omega)]

/-- One behind the other. -/
theorem parse_both {p q : Text} {r r' : Re} {h h' : Nat} (hp : Depth p r h) (hq : Depth q r' h') (hl : p.length + q.length ≤ 59) (h9 : 1 + h ≤ 9) (h9' : 1 + h' ≤ 9) : parse (brk p ++ brk q) = .ok (.alt .alt0 (.cat r r')) := by
  generalize ht : brk p ++ brk q = t
  have e1 : t = [40] ++ p ++ 41 :: brk q := by rw [← ht]; simp [brk]
  have e2 : t = (brk p ++ [40]) ++ q ++ [41] := by rw [← ht]; simp [brk]
  have g : Agree p t 1 := by rw [e1]; exact agree_mid [40] p _
  have g' : Agree q t (0 + p.length + 2 + 1) := by
    have := agree_mid (brk p ++ [40]) q []
    rw [← e2] at this
    have el : (brk p ++ [40]).length = 0 + p.length + 2 + 1 := by rw [List.length_append, brk_length]; simp
    rw [el] at this; exact this
  have hlen : t.length = p.length + q.length + 4 := by rw [← ht, List.length_append, brk_length, brk_length]; omega
  have h40 : t[0]? = some 40 := by rw [e1]; rfl
  have h40' : t[0 + p.length + 2]? = some 40 := by
    rw [← ht, List.getElem?_append_right (by rw [brk_length]; omega), brk_length, show 0 + p.length + 2 - (p.length + 2) = 0 from by omega]; rfl
  obtain ⟨m, hm⟩ : ∃ m, fuel t 0 = m + 5 := ⟨fuel t 0 - 5, by unfold fuel; omega⟩
  have hfm : fuel p 0 ≤ m := by unfold fuel at hm ⊢; omega
  have hfm' : fuel q 0 ≤ m := by unfold fuel at hm ⊢; omega
  have ha := (atom_brk hp g (i := 0) (d := 0) (m := m + 1) h40 (by omega) (by omega)).1 (by omega)
  have ha' := (atom_brk hq g' (i := 0 + p.length + 2) (d := 0) h40' (by omega) hfm').1 (by omega)
  have hpar : parse t = (rows t (m + 5) .alt0 0 0).bind fun x => if x.2 < t.length then .bad x.2 2 else .ok x.1 := by
    unfold parse; rw [if_neg (by omega), hm]
  have hend : t.length ≤ 0 + p.length + 2 + q.length + 2 := by omega
  rw [hpar, rows_succ, row_succ, part_succ, ha]
  simp only [Got.bind, rep_none (isOne_is h40' ⟨by decide, by decide⟩ _)]
  rw [parts_succ, peek_is h40' ⟨by decide, by decide⟩]
  simp only [Got.bind]
  rw [if_neg (by decide), part_succ, ha']
  simp only [Got.bind, rep_none (isOne_out hend _), parts_succ, peek_out hend, isOne_out hend]
  rw [if_neg (by decide)]
  simp only []
  rw [if_neg (by omega)]

/-- One or the other. -/
theorem parse_or {p q : Text} {r r' : Re} {h h' : Nat} (hp : Depth p r h) (hq : Depth q r' h') (hl : p.length + q.length ≤ 59) (h9 : 1 + h ≤ 9) (h9' : 1 + h' ≤ 9) : parse (brk p ++ 124 :: brk q) = .ok (.alt (.alt .alt0 r) r') := by
  generalize ht : brk p ++ 124 :: brk q = t
  have e1 : t = [40] ++ p ++ 41 :: 124 :: brk q := by rw [← ht]; simp [brk]
  have e2 : t = (brk p ++ [124, 40]) ++ q ++ [41] := by rw [← ht]; simp [brk]
  have g : Agree p t 1 := by rw [e1]; exact agree_mid [40] p _
  have g' : Agree q t (0 + p.length + 2 + 1 + 1) := by
    have := agree_mid (brk p ++ [124, 40]) q []
    rw [← e2] at this
    have el : (brk p ++ [124, 40]).length = 0 + p.length + 2 + 1 + 1 := by rw [List.length_append, brk_length]; simp
    rw [el] at this; exact this
  have hlen : t.length = p.length + q.length + 5 := by rw [← ht, List.length_append, List.length_cons, brk_length, brk_length]; omega
  have h40 : t[0]? = some 40 := by rw [e1]; rfl
  have hbar : t[0 + p.length + 2]? = some 124 := by
    rw [← ht, List.getElem?_append_right (by rw [brk_length]; omega), brk_length, show 0 + p.length + 2 - (p.length + 2) = 0 from by omega]; rfl
  have h40' : t[0 + p.length + 2 + 1]? = some 40 := by
    rw [← ht, List.getElem?_append_right (by rw [brk_length]; omega), brk_length, show 0 + p.length + 2 + 1 - (p.length + 2) = 1 from by omega]; rfl
  obtain ⟨m, hm⟩ : ∃ m, fuel t 0 = m + 5 := ⟨fuel t 0 - 5, by unfold fuel; omega⟩
  have hfm : fuel p 0 ≤ m := by unfold fuel at hm ⊢; omega
  have hfm' : fuel q 0 ≤ m := by unfold fuel at hm ⊢; omega
  have ha := (atom_brk hp g (i := 0) (d := 0) (m := m + 1) h40 (by omega) (by omega)).1 (by omega)
  have ha' := (atom_brk hq g' (i := 0 + p.length + 2 + 1) (d := 0) h40' (by omega) hfm').1 (by omega)
  have hpar : parse t = (rows t (m + 5) .alt0 0 0).bind fun x => if x.2 < t.length then .bad x.2 2 else .ok x.1 := by
    unfold parse; rw [if_neg (by omega), hm]
  have hend : t.length ≤ 0 + p.length + 2 + 1 + q.length + 2 := by omega
  have hrow : row t (m + 4) 0 0 = .ok (r, 0 + p.length + 2) := by
    rw [row_succ, part_succ, ha]
    simp only [Got.bind]
    rw [rep_none (by rw [isOne_is hbar ⟨by decide, by decide⟩]; rfl)]
    simp only []
    rw [parts_succ, peek_is hbar ⟨by decide, by decide⟩]
    simp only [Got.bind]
    rw [if_pos (by decide)]
  have hrow' : row t (m + 3) 0 (0 + p.length + 2 + 1) = .ok (r', 0 + p.length + 2 + 1 + q.length + 2) := by
    rw [row_succ, part_succ, ha']
    simp only [Got.bind, rep_none (isOne_out hend _), parts_succ, peek_out hend]
  rw [hpar, rows_succ, hrow]
  simp only [Got.bind]
  rw [isOne_is hbar ⟨by decide, by decide⟩]
  have : [124].contains (124 : UInt8).toNat = true := rfl
  simp only [this, if_true]
  rw [rows_succ, hrow']
  simp only [Got.bind, isOne_out hend]
  rw [if_neg (by decide)]
  simp only []
  rw [if_neg (by omega)]

theorem lang_alt0 (r : Re) (u : List Nat) : Lang (.alt .alt0 r) u ↔ Lang r u := by
  constructor
  · intro h
    cases h with
    | altl h => cases h
    | altr h => exact h
  · exact .altr

/-- A text some times. -/
theorem lang_times {r : Re} {u : List Nat} (h : Lang r u) : ∀ n, Lang (.star r) (List.replicate n u).flatten ∧ (0 < n → Lang (.plus r) (List.replicate n u).flatten) := by
  intro n
  induction n with
  | zero => exact ⟨.star0, fun h => by omega⟩
  | succ n ih =>
    rw [List.replicate_succ, List.flatten_cons]
    refine ⟨.starS h ih.1, fun _ => ?_⟩
    cases n with
    | zero => simpa using Lang.plus1 h
    | succ n => exact .plusS h (ih.2 (by omega))
theorem plus_nil {r : Re} : Lang (.plus r) [] ↔ Lang r [] := by
  constructor
  · intro h
    obtain ⟨u, us, hus, hw⟩ := plus_iff.1 h
    have hu : u = [] := by
      have := hw.symm
      simp at this
      exact this.1
    subst hu
    exact hus _ (by simp)
  · exact .plus1

end Go.Proofs.Ytnbghiaggapoiaa.Rx
