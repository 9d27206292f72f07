/- Patterns, plainly: a pattern is read in brackets as it is read alone, but for how deep it may be. No program in sight. -/
import Derived.Test.YtnbghiaggapoiaaRxLen
namespace Go.Proofs.Ytnbghiaggapoiaa.Rx
set_option linter.unusedSimpArgs false
set_option linter.unusedVariables false

/-- A text lies in another one, a closing bracket behind it. -/
structure Agree (p t : Text) (o : Nat) : Prop where
  len : o + p.length < t.length
  bt : ∀ i, i < p.length → bt t (o + i) = bt p i
  close : Rx.bt t (o + p.length) = 41

variable {p t : Text} {o : Nat}

theorem peek_lt0 {i c : Nat} (h : peek p i = .ok (some c)) : i < p.length ∧ c = bt p i ∧ 32 ≤ c ∧ c ≤ 126 := by
  unfold peek at h
  split at h
  · cases h
  · split at h
    · cases h
    · simp at h; omega
theorem ag_peek (g : Agree p t o) {i c : Nat} (h : peek p i = .ok (some c)) : peek t (o + i) = .ok (some c) := by
  obtain ⟨h1, h2, h3, h4⟩ := peek_lt0 h
  have := g.len
  unfold peek
  rw [if_neg (by omega), g.bt i h1, if_neg (by omega), h2]
theorem ag_end (g : Agree p t o) : peek t (o + p.length) = .ok (some 41) := by
  have := g.len
  unfold peek
  rw [if_neg (by omega), g.close, if_neg (by omega)]
theorem peek_none0 {i : Nat} (h : peek p i = .ok none) : p.length ≤ i := by
  unfold peek at h
  split at h
  · assumption
  · split at h <;> cases h
theorem ag_isOne (g : Agree p t o) {i : Nat} {l : List Nat} {b : Bool} (h : isOne p l i = .ok b) (hi : i ≤ p.length) (hl : b = true ∨ l.contains 41 = false) : isOne t l (o + i) = .ok b := by
  unfold isOne at h
  obtain ⟨c, hc, h2⟩ := bind_ok h
  clear h
  cases c with
  | none =>
    have := peek_none0 hc
    obtain rfl : i = p.length := by omega
    have hb : b = false := by cases h2; rfl
    subst hb
    rcases hl with hl | hl
    · cases hl
    · simp only [isOne, ag_end g, Got.bind, hl]
  | some c => simp only [isOne, ag_peek g hc, Got.bind]; exact h2
theorem ag_take (g : Agree p t o) {i c : Nat} (h : take p i = .ok c) : take t (o + i) = .ok c := by
  unfold take at h
  obtain ⟨d, hd, h⟩ := bind_ok h
  cases d with
  | none => cases h
  | some d => simp only [take, ag_peek g hd, Got.bind]; exact h
theorem ag_member (g : Agree p t o) {i : Nat} {x : Nat × Nat} (h : member p i = .ok x) : member t (o + i) = .ok (x.1, o + x.2) := by
  unfold member at h
  obtain ⟨c, hc, h⟩ := bind_ok h
  unfold member
  rw [ag_take g hc]
  simp only [Got.bind]
  split at h
  · rename_i h92
    obtain ⟨e, he, h⟩ := bind_ok h
    rw [if_pos h92, show o + i + 1 = o + (i + 1) from by omega, ag_take g he]
    simp only [Got.ok.injEq] at h
    subst h
    simp only []
    rw [Nat.add_assoc]
  · rename_i h92
    rw [if_neg h92]
    split at h
    · cases h
    · rename_i hk
      rw [if_neg hk]
      simp only [Got.ok.injEq] at h
      subst h
      rw [Nat.add_assoc]

theorem ag_members (g : Agree p t o) : ∀ (n : Nat) (f : BSet) (i : Nat) (x : BSet × Nat), members p n f i = .ok x → i ≤ p.length → ∀ m, n ≤ m → members t m f (o + i) = .ok (x.1, o + x.2) := by
  intro n
  induction n with
  | zero => intro f i x h; cases h
  | succ n ih =>
    intro f i x h hi m hm
    obtain ⟨m, rfl⟩ : ∃ k, m = k + 1 := ⟨m - 1, by omega⟩
    unfold members at h ⊢
    obtain ⟨y, hy, h⟩ := bind_ok h
    obtain ⟨b, hb, h⟩ := bind_ok h
    obtain ⟨z, hz, h⟩ := bind_ok h
    obtain ⟨e, he, h⟩ := bind_ok h
    have ly := member_lt' hy
    rw [ag_member g hy]
    simp only [Got.bind]
    rw [ag_isOne g hb ly.2 (.inr (by decide))]
    simp only []
    have hz' : (if b = true then (member t (o + y.2 + 1)).bind fun w => if w.1 < y.1 then .bad (o + y.2 + 1) 2 else .ok (w.1, w.2) else .ok (y.1, o + y.2)) = .ok (z.1, o + z.2) ∧ z.2 ≤ p.length := by
      cases b with
      | false => simp only [Bool.false_eq_true, if_false, Got.ok.injEq] at hz ⊢; subst hz; exact ⟨rfl, ly.2⟩
      | true =>
        simp only [if_true] at hz ⊢
        obtain ⟨w, hw, hz⟩ := bind_ok hz
        have lw := member_lt' hw
        rw [show o + y.2 + 1 = o + (y.2 + 1) from by omega, ag_member g hw]
        simp only [Got.bind]
        split at hz
        · cases hz
        · rename_i hlt
          rw [if_neg hlt]
          simp only [Got.ok.injEq] at hz
          subst hz; exact ⟨rfl, lw.2⟩
    have h1 := hz'.1
    simp only [Got.bind] at h1
    rw [h1]
    simp only []
    rw [ag_isOne g he hz'.2 (.inr (by decide))]
    simp only []
    cases e with
    | true =>
      simp only [if_true, Got.ok.injEq] at h ⊢
      subst h; rfl
    | false =>
      simp only [Bool.false_eq_true, if_false] at h ⊢
      exact ih _ _ _ h hz'.2 m (by omega)

theorem ag_cls (g : Agree p t o) {n i m : Nat} {x : BSet × Nat} (h : cls p n i = .ok x) (hi : i ≤ p.length) (hm : n ≤ m) : cls t m (o + i) = .ok (x.1, o + x.2) := by
  unfold cls at h ⊢
  obtain ⟨b, hb, h⟩ := bind_ok h
  obtain ⟨y, hy, h⟩ := bind_ok h
  rw [ag_isOne g hb hi (.inr (by decide))]
  simp only [Got.bind]
  have hi2 : (if b = true then i + 1 else i) ≤ p.length := by
    split
    · rename_i hb'; subst hb'
      have := isOne_lt' hb; omega
    · exact hi
  have := ag_members g _ _ _ _ hy hi2 m hm
  rw [show (if b = true then o + i + 1 else o + i) = o + (if b = true then i + 1 else i) from by split <;> omega, this]
  simp only [Got.ok.injEq] at h ⊢
  subst h; rfl

theorem ag_rep (g : Agree p t o) {r : Re} {i : Nat} {x : Re × Nat} (h : rep p r i = .ok x) (hi : i ≤ p.length) : rep t r (o + i) = .ok (x.1, o + x.2) := by
  unfold rep at h ⊢
  obtain ⟨b, hb, h⟩ := bind_ok h
  rw [ag_isOne g hb hi (.inr (by decide))]
  simp only [Got.bind]
  cases b with
  | false => simp only [Bool.false_eq_true, if_false, Got.ok.injEq] at h ⊢; subst h; rfl
  | true =>
    have := isOne_lt' hb
    rw [g.bt i this]
    simp only [if_true, Got.ok.injEq] at h ⊢
    subst h; rw [Nat.add_assoc]

/-- What a step comes to, in brackets, at any depth. -/
def Fits (o : Nat) (h d : Nat) (x : Re × Nat) (y : Got (Re × Nat)) : Prop := (d + h ≤ 9 → y = .ok (x.1, o + x.2)) ∧ (9 < d + h → ∃ k, y = .bad k 4)
theorem Fits.bind {h h' d : Nat} {x z : Re × Nat} {y : Got (Re × Nat)} {f : Re × Nat → Got (Re × Nat)} (hy : Fits o h d x y) (hz : Fits o h' d z (f (x.1, o + x.2))) : Fits o (max h h') d z (y.bind f) := by
  constructor
  · intro hd
    rw [hy.1 (by omega)]
    exact hz.1 (by omega)
  · intro hd
    by_cases h9 : 9 < d + h
    · obtain ⟨k, hk⟩ := hy.2 h9
      exact ⟨k, by rw [hk]; rfl⟩
    · rw [hy.1 (by omega)]
      exact hz.2 (by omega)
theorem Fits.ok {d : Nat} {x : Re × Nat} {y : Got (Re × Nat)} (hd : d ≤ 9) (h : y = .ok (x.1, o + x.2)) : Fits o 0 d x y := ⟨fun _ => h, fun h' => by omega⟩

theorem fits (p : Text) : ∀ n,
    (∀ acc d i x, rows p n acc d i = .ok x → i ≤ p.length → ∃ h, ∀ (t : Text) (o : Nat), Agree p t o → ∀ m d', n ≤ m → d' ≤ 9 → Fits o h d' x (rows t m acc d' (o + i))) ∧
    (∀ d i x, row p n d i = .ok x → i ≤ p.length → ∃ h, ∀ (t : Text) (o : Nat), Agree p t o → ∀ m d', n ≤ m → d' ≤ 9 → Fits o h d' x (row t m d' (o + i))) ∧
    (∀ acc d i x, parts p n acc d i = .ok x → i ≤ p.length → ∃ h, ∀ (t : Text) (o : Nat), Agree p t o → ∀ m d', n ≤ m → d' ≤ 9 → Fits o h d' x (parts t m acc d' (o + i))) ∧
    (∀ d i x, part p n d i = .ok x → i ≤ p.length → ∃ h, ∀ (t : Text) (o : Nat), Agree p t o → ∀ m d', n ≤ m → d' ≤ 9 → Fits o h d' x (part t m d' (o + i))) ∧
    (∀ d i x, atom p n d i = .ok x → i ≤ p.length → ∃ h, ∀ (t : Text) (o : Nat), Agree p t o → ∀ m d', n ≤ m → d' ≤ 9 → Fits o h d' x (atom t m d' (o + i))) := by
  intro n
  induction n with
  | zero => refine ⟨?_, ?_, ?_, ?_, ?_⟩ <;> (intros; simp [rows, row, parts, part, atom] at *)
  | succ n ih =>
    obtain ⟨ihRows, ihRow, ihParts, ihPart, ihAtom⟩ := ih
    have rd := reads p n
    refine ⟨?_, ?_, ?_, ?_, ?_⟩
    · intro acc d i x h hi
      rw [rows_succ] at h
      obtain ⟨y, hy, h⟩ := bind_ok h
      obtain ⟨b, hb, h⟩ := bind_ok h
      obtain ⟨h1, f1⟩ := ihRow _ _ _ hy hi
      have ly := rd.2.1 _ _ _ _ hy
      cases b with
      | true =>
        simp only [if_true] at h
        have hlt := isOne_lt' hb
        obtain ⟨h2, f2⟩ := ihRows _ _ _ _ h (by omega)
        refine ⟨max h1 h2, fun t o g m d' hm hd => ?_⟩
        obtain ⟨m, rfl⟩ : ∃ k, m = k + 1 := ⟨m - 1, by omega⟩
        rw [rows_succ]
        refine (f1 t o g m d' (by omega) hd).bind ?_
        simp only []
        rw [ag_isOne g hb ly.2.1 (.inl rfl)]
        exact f2 t o g m d' (by omega) hd
      | false =>
        simp only [Bool.false_eq_true, if_false, Got.ok.injEq] at h
        refine ⟨max h1 0, fun t o g m d' hm hd => ?_⟩
        obtain ⟨m, rfl⟩ : ∃ k, m = k + 1 := ⟨m - 1, by omega⟩
        rw [rows_succ]
        refine (f1 t o g m d' (by omega) hd).bind ?_
        simp only []
        rw [ag_isOne g hb ly.2.1 (.inr (by decide))]
        exact .ok hd (by subst h; rfl)
    · intro d i x h hi
      rw [row_succ] at h
      obtain ⟨y, hy, h⟩ := bind_ok h
      obtain ⟨h1, f1⟩ := ihPart _ _ _ hy hi
      have ly := rd.2.2.2.1 _ _ _ _ hy
      obtain ⟨h2, f2⟩ := ihParts _ _ _ _ h ly.2.1
      refine ⟨max h1 h2, fun t o g m d' hm hd => ?_⟩
      obtain ⟨m, rfl⟩ : ∃ k, m = k + 1 := ⟨m - 1, by omega⟩
      rw [row_succ]
      exact (f1 t o g m d' (by omega) hd).bind (f2 t o g m d' (by omega) hd)
    · intro acc d i x h hi
      rw [parts_succ] at h
      obtain ⟨c, hc, h⟩ := bind_ok h
      cases c with
      | none =>
        have := peek_none0 hc
        obtain rfl : i = p.length := by omega
        simp only [Got.ok.injEq] at h
        refine ⟨0, fun t o g m d' hm hd => ?_⟩
        obtain ⟨m, rfl⟩ : ∃ k, m = k + 1 := ⟨m - 1, by omega⟩
        rw [parts_succ, ag_end g]
        exact .ok hd (by subst h; rfl)
      | some c =>
        simp only [] at h
        split at h
        · rename_i hcc
          simp only [Got.ok.injEq] at h
          refine ⟨0, fun t o g m d' hm hd => ?_⟩
          obtain ⟨m, rfl⟩ : ∃ k, m = k + 1 := ⟨m - 1, by omega⟩
          rw [parts_succ, ag_peek g hc]
          refine .ok hd ?_
          simp only [Got.bind]
          rw [if_pos hcc]; subst h; rfl
        · rename_i hcc
          obtain ⟨y, hy, h⟩ := bind_ok h
          obtain ⟨h1, f1⟩ := ihPart _ _ _ hy hi
          have ly := rd.2.2.2.1 _ _ _ _ hy
          obtain ⟨h2, f2⟩ := ihParts _ _ _ _ h ly.2.1
          refine ⟨max h1 h2, fun t o g m d' hm hd => ?_⟩
          obtain ⟨m, rfl⟩ : ∃ k, m = k + 1 := ⟨m - 1, by omega⟩
          rw [parts_succ, ag_peek g hc]
          simp only [Got.bind]
          rw [if_neg hcc]
          exact (f1 t o g m d' (by omega) hd).bind (f2 t o g m d' (by omega) hd)
    · intro d i x h hi
      rw [part_succ] at h
      obtain ⟨y, hy, h⟩ := bind_ok h
      obtain ⟨h1, f1⟩ := ihAtom _ _ _ hy hi
      have ly := rd.2.2.2.2 _ _ _ _ hy
      refine ⟨max h1 0, fun t o g m d' hm hd => ?_⟩
      obtain ⟨m, rfl⟩ : ∃ k, m = k + 1 := ⟨m - 1, by omega⟩
      rw [part_succ]
      exact (f1 t o g m d' (by omega) hd).bind (.ok hd (ag_rep g h ly.2.1))
    · intro d i x h hi
      rw [atom] at h
      obtain ⟨c, hc, h⟩ := bind_ok h
      have lc := take_lt' hc
      split at h
      · rename_i h46
        simp only [Got.ok.injEq] at h
        refine ⟨0, fun t o g m d' hm hd => ?_⟩
        obtain ⟨m, rfl⟩ : ∃ k, m = k + 1 := ⟨m - 1, by omega⟩
        rw [atom, ag_take g hc]
        refine .ok hd ?_
        simp only [Got.bind]
        rw [if_pos h46]; subst h; rw [Nat.add_assoc]
      · rename_i h46
        split at h
        · rename_i h92
          obtain ⟨e, he, h⟩ := bind_ok h
          simp only [Got.ok.injEq] at h
          refine ⟨0, fun t o g m d' hm hd => ?_⟩
          obtain ⟨m, rfl⟩ : ∃ k, m = k + 1 := ⟨m - 1, by omega⟩
          rw [atom, ag_take g hc]
          refine .ok hd ?_
          simp only [Got.bind]
          rw [if_neg h46, if_pos h92, Nat.add_assoc, ag_take g he]; subst h; rw [Nat.add_assoc]
        · rename_i h92
          split at h
          · rename_i h91
            obtain ⟨e, he, h⟩ := bind_ok h
            simp only [Got.ok.injEq] at h
            refine ⟨0, fun t o g m d' hm hd => ?_⟩
            obtain ⟨m, rfl⟩ : ∃ k, m = k + 1 := ⟨m - 1, by omega⟩
            have := g.len
            rw [atom, ag_take g hc]
            refine .ok hd ?_
            simp only [Got.bind]
            rw [if_neg h46, if_neg h92, if_pos h91, Nat.add_assoc, ag_cls g he (by omega) (by omega)]; subst h; rfl
          · rename_i h91
            split at h
            · rename_i h40
              split at h
              · cases h
              · obtain ⟨y, hy, h⟩ := bind_ok h
                obtain ⟨b, hb, h⟩ := bind_ok h
                cases b with
                | false => cases h
                | true =>
                  simp only [if_true, Got.ok.injEq] at h
                  have hlt := isOne_lt' hb
                  obtain ⟨h1, f1⟩ := ihRows _ _ _ _ hy (by omega)
                  refine ⟨h1 + 1, fun t o g m d' hm hd => ?_⟩
                  obtain ⟨m, rfl⟩ : ∃ k, m = k + 1 := ⟨m - 1, by omega⟩
                  rw [atom, ag_take g hc]
                  simp only [Got.bind]
                  rw [if_neg h46, if_neg h92, if_neg h91, if_pos h40]
                  by_cases h8 : 8 < d'
                  · rw [if_pos h8]
                    exact ⟨fun h => by omega, fun _ => ⟨_, rfl⟩⟩
                  · rw [if_neg h8]
                    have f := f1 t o g m (d' + 1) (by omega) (by omega)
                    rw [← Nat.add_assoc] at f
                    constructor
                    · intro h9
                      rw [f.1 (by omega)]
                      simp only []
                      rw [ag_isOne g hb (by omega) (.inl rfl)]
                      subst h; simp only [if_true]; rw [Nat.add_assoc]
                    · intro h9
                      obtain ⟨k, hk⟩ := f.2 (by omega)
                      exact ⟨k, by rw [hk]⟩
            · rename_i h40
              split at h
              · cases h
              · rename_i hmk
                simp only [Got.ok.injEq] at h
                refine ⟨0, fun t o g m d' hm hd => ?_⟩
                obtain ⟨m, rfl⟩ : ∃ k, m = k + 1 := ⟨m - 1, by omega⟩
                rw [atom, ag_take g hc]
                refine .ok hd ?_
                simp only [Got.bind]
                rw [if_neg h46, if_neg h92, if_neg h91, if_neg h40, if_neg hmk]; subst h; rw [Nat.add_assoc]

end Go.Proofs.Ytnbghiaggapoiaa.Rx
