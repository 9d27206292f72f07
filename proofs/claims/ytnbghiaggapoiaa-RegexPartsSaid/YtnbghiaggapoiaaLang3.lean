/- Patterns, plainly: the program's going through the states tells whether a text is a pattern's. No program in sight. -/
import Derived.Test.YtnbghiaggapoiaaLang2
namespace Go.Proofs.Ytnbghiaggapoiaa.Rx
set_option linter.unusedSimpArgs false
set_option linter.unusedVariables false

theorem more_iff {S : List NS} {x y : Nat} : y ∈ more S x ↔ ∃ n, S[x]? = some n ∧ n.takes = false ∧ y ∈ n.next := by
  unfold more
  constructor
  · intro h
    split at h
    · rename_i n hn
      cases ht : n.takes with
      | true => simp [ht] at h
      | false => simp [ht] at h; exact ⟨n, hn, ht, h⟩
    · cases h
  · rintro ⟨n, hn, ht, hy⟩
    rw [hn]; simp [ht, hy]

theorem front_goes {S : List NS} {P : Nat → Prop} (hP : ∀ x y, P x → y ∈ more S x → P y) : ∀ (k : Nat) (l : List Nat) (i : Nat), (∀ y ∈ l, P y) → ∀ y ∈ front S k l i, P y := by
  intro k
  induction k with
  | zero => exact fun l i h => h
  | succ k ih =>
    intro l i h
    unfold front
    split
    · rename_i hi
      refine ih _ _ (fun y hy => ?_)
      rcases (mem_pushes _).1 hy with h1 | h1
      · exact h y h1
      · refine hP _ y (h _ ?_) h1
        rw [List.getD_eq_getElem?_getD, List.getElem?_eq_getElem hi]
        exact List.getElem_mem hi
    · exact h

theorem front_closed {S : List NS} (hs : Sound S) : ∀ (k : Nat) (l : List Nat) (i : Nat), Few S.length l → S.length + 1 ≤ k + i → (∀ x ∈ l.take i, ∀ y ∈ more S x, y ∈ l) → ∀ x ∈ front S k l i, ∀ y ∈ more S x, y ∈ front S k l i := by
  intro k
  induction k with
  | zero =>
    intro l i hl hk h
    have := hl.length
    rw [List.take_of_length_le (by omega)] at h
    exact h
  | succ k ih =>
    intro l i hl hk h
    unfold front
    split
    · rename_i hi
      have hx : l.getD i 0 = l[i] := by rw [List.getD_eq_getElem?_getD, List.getElem?_eq_getElem hi]; rfl
      rw [hx]
      refine ih _ _ (grow_few hs hl _) (by omega) (fun x hxm y hy => ?_)
      obtain ⟨t, ht⟩ := grow_prefix S l l[i]
      rw [← ht, List.take_append_of_le_length (by omega), List.take_succ_eq_append_getElem hi] at hxm
      rcases List.mem_append.1 hxm with h1 | h1
      · exact (grow_prefix S l l[i]).subset (h x h1 y hy)
      · simp only [List.mem_singleton] at h1
        subst h1
        exact (mem_pushes _).2 (.inr hy)
    · rename_i hi
      rw [List.take_of_length_le (by omega)] at h
      exact h

theorem mem_near {S : List NS} (hs : Sound S) {l : List Nat} (hl : ∀ x ∈ l, x < S.length) {y : Nat} : y ∈ near S l ↔ ∃ x ∈ l, Goes S x [] y := by
  constructor
  · refine front_goes (P := fun y => ∃ x ∈ l, Goes S x [] y) ?_ _ _ _ (fun y hy => ?_) y
    · rintro x y ⟨z, hz, hg⟩ hy
      obtain ⟨n, hn, ht, hy⟩ := more_iff.1 hy
      exact ⟨z, hz, by simpa using hg.trans (Goes.hop hn ht hy (Goes.same S y))⟩
    · rcases (mem_pushes _).1 hy with h1 | h1
      · cases h1
      · exact ⟨y, h1, Goes.same S y⟩
  · rintro ⟨x, hx, k, hp⟩
    have hc := front_closed hs (S.length + 1) (l.foldl push []) 0 ((Few.nil _).pushes _ hl) (by omega) (by simp)
    have hx' : x ∈ near S l := (front_prefix S _ _ _).subset ((mem_pushes _).2 (.inr hx))
    clear hx
    generalize hw : ([] : List Nat) = w at hp
    induction hp with
    | nil => exact hx'
    | eps h1 h2 h3 _ ih => exact ih (hc _ hx' _ (more_iff.2 ⟨_, h1, h2, h3⟩)) hw
    | eat => cases hw

theorem mem_hops {S : List NS} (hs : Sound S) (c : Nat) (xs : List Nat) : ∀ {l : List Nat} {y : Nat}, y ∈ xs.foldl (hop S c) l ↔ y ∈ l ∨ ∃ x ∈ xs, ∃ n, S[x]? = some n ∧ n.takes = true ∧ n.set c = true ∧ n.next = [y] := by
  induction xs with
  | nil => simp
  | cons x xs ih =>
    intro l y
    simp only [List.foldl_cons, ih]
    have key : y ∈ hop S c l x ↔ y ∈ l ∨ ∃ n, S[x]? = some n ∧ n.takes = true ∧ n.set c = true ∧ n.next = [y] := by
      unfold hop
      cases hn : S[x]? with
      | none => simp
      | some n =>
        by_cases ht : (n.takes && n.set c) = true
        · simp only [Bool.and_eq_true] at ht
          obtain ⟨z, hz⟩ := (hs n (List.mem_of_getElem? hn)).2 ht.1
          simp only [ht.1, ht.2, Bool.and_self, if_true, mem_push, hz, List.headD_cons]
          constructor
          · rintro (h | rfl)
            · exact .inl h
            · exact .inr ⟨n, rfl, ht.1, ht.2, hz⟩
          · rintro (h | ⟨m, hm, _, _, h⟩)
            · exact .inl h
            · cases hm; rw [hz] at h; cases h; exact .inr rfl
        · simp only [ht]
          simp only [Bool.and_eq_true] at ht
          constructor
          · exact .inl
          · rintro (h | ⟨m, hm, h1, h2, _⟩)
            · exact h
            · cases hm; exact absurd ⟨h1, h2⟩ ht
    rw [key, or_assoc]
    simp only [List.mem_cons, exists_eq_or_imp]

theorem goes_cons {S : List NS} {x z c : Nat} {cs : List Nat} : Goes S x (c :: cs) z ↔ ∃ y n y', Goes S x [] y ∧ S[y]? = some n ∧ n.takes = true ∧ n.set c = true ∧ n.next = [y'] ∧ Goes S y' cs z := by
  constructor
  · rintro ⟨k, hp⟩
    generalize hw : c :: cs = w at hp
    induction hp with
    | nil => cases hw
    | eps h1 h2 h3 _ ih =>
      obtain ⟨y, n, y', h4, h5⟩ := ih hw
      exact ⟨y, n, y', Goes.hop h1 h2 h3 h4, h5⟩
    | eat h1 h2 h3 h4 h5 _ => cases hw; exact ⟨_, _, _, Goes.same S _, h1, h2, h3, h4, _, h5⟩
  · rintro ⟨y, n, y', h1, h2, h3, h4, h5, k, h6⟩
    exact h1.trans ⟨_, .eat h2 h3 h4 h5 h6⟩

theorem steps_iff {S : List NS} (hs : Sound S) {last : Nat} (cs : List Nat) : ∀ {l : List Nat}, (∀ x ∈ l, x < S.length) → (last ∈ near S (cs.foldl (step S) l) ↔ ∃ x ∈ l, Goes S x cs last) := by
  induction cs with
  | nil => exact fun hl => mem_near hs hl
  | cons c cs ih =>
    intro l hl
    have hst : ∀ y ∈ step S l c, y < S.length := (hops_few hs c _ (Few.nil _)).lt
    rw [List.foldl_cons, ih hst]
    constructor
    · rintro ⟨x', hx', hg⟩
      rcases (mem_hops hs c _).1 hx' with h | ⟨y, hy, n, h1, h2, h3, h4⟩
      · cases h
      · obtain ⟨x, hx, hg2⟩ := (mem_near hs hl).1 hy
        exact ⟨x, hx, goes_cons.2 ⟨y, n, x', hg2, h1, h2, h3, h4, hg⟩⟩
    · rintro ⟨x, hx, hg⟩
      obtain ⟨y, n, y', h1, h2, h3, h4, h5, h6⟩ := goes_cons.1 hg
      exact ⟨y', (mem_hops hs c _).2 (.inr ⟨y, (mem_near hs hl).2 ⟨x, hx, h1⟩, n, h2, h3, h4, h5⟩), h6⟩

theorem runs_iff {S : List NS} (hs : Sound S) {first last : Nat} (hf : first < S.length) (cs : List Nat) : runs S first last cs = true ↔ Goes S first cs last := by
  unfold runs
  rw [decide_eq_true_iff, steps_iff hs cs (by simpa using hf)]
  simp

/-- Ways lead to states; one that takes a byte goes on to just one. -/
theorem Sound.add {S : List NS} (h : Sound S) {a b : Nat} (hb : b < S.length) {n : NS} (hn : S[a]? = some n) (ht : n.takes = false) : Sound (addE S a b) := by
  intro m hm
  rw [length_addE]
  obtain ⟨i, hi⟩ := List.getElem?_of_mem hm
  by_cases e : i = a
  · subst e
    rw [get_addE_eq hn] at hi
    cases hi
    refine ⟨fun y hy => ?_, fun h => by rw [ht] at h; cases h⟩
    rcases List.mem_append.1 hy with h1 | h1
    · exact (h n (List.mem_of_getElem? hn)).1 y h1
    · simp at h1; omega
  · rw [get_addE_ne e] at hi
    exact h m (List.mem_of_getElem? hi)
theorem Sound.app {S : List NS} (h : Sound S) {x y : NS} (hx : (∀ z ∈ x.next, z < S.length + 2) ∧ (x.takes = true → ∃ z, x.next = [z])) (hy : (∀ z ∈ y.next, z < S.length + 2) ∧ (y.takes = true → ∃ z, y.next = [z])) : Sound (S ++ [x, y]) := by
  intro m hm
  simp only [List.length_append, List.length_cons, List.length_nil]
  rcases List.mem_append.1 hm with h1 | h1
  · exact ⟨fun z hz => by have := (h m h1).1 z hz; omega, (h m h1).2⟩
  · simp only [List.mem_cons, List.not_mem_nil, or_false] at h1
    rcases h1 with rfl | rfl
    · exact hx
    · exact hy

theorem no_ns0 (n : Nat) : (∀ z ∈ ns0.next, z < n) ∧ (ns0.takes = true → ∃ z, ns0.next = [z]) := by simp [ns0]

theorem sound_build (r : Re) : r.wf → ∀ s, Sound s → Sound (build r s).2.2 := by
  induction r with
  | set f => exact fun _ s h => h.app (no_ns0 _) ⟨by simp, fun _ => ⟨_, rfl⟩⟩
  | cat p x ihp ihx =>
    intro hw s h
    have P := built p s
    have X := built x (build p s).2.2
    have h2 := ihx hw.2 _ (ihp hw.1 s h)
    exact h2.add X.f1 ((X.old _ P.l1).trans P.last) rfl
  | alt0 => exact fun _ s h => h.app (no_ns0 _) (no_ns0 _)
  | alt p r ihp ihr =>
    intro hw s h
    have P := built p s
    have R := built r (build p s).2.2
    have a1 := P.f1; have a2 := R.l0; have a3 := P.l1; have a4 := R.f0; have a5 := R.f1
    obtain ⟨m, hm, ht⟩ := alt_first hw.1 hw.2.1 s
    have h2 := ihr hw.2.2 _ (ihp hw.2.1 s h)
    have h3 := h2.add R.f1 ((R.old _ P.f1).trans hm) ht
    exact h3.add (by rw [length_addE]; omega) ((get_addE_ne (by omega)).trans R.last) rfl
  | star r ih =>
    intro hw s h
    have R := built r s
    have a2 := R.f1; have a4 := R.l1
    have g := get_two (build r s).2.2 ns0 ns0
    have h0 := (ih hw s h).app (no_ns0 _) (no_ns0 _)
    have e0 : ((build r s).2.2 ++ [ns0, ns0])[(build r s).2.1]? = some ns0 := by rw [List.getElem?_append_left a4]; exact R.last
    have h1 := h0.add (b := (build r s).1) (by simp; omega) g.1 rfl
    have e1 := get_addE_eq (b := (build r s).1) g.1
    have e1' := (get_addE_ne (a := (build r s).2.2.length) (b := (build r s).1) (by omega)).trans e0
    have h2 := h1.add (b := (build r s).2.2.length + 1) (by rw [length_addE]; simp) e1' rfl
    have e2 := (get_addE_ne (a := (build r s).2.1) (b := (build r s).2.2.length + 1) (by omega)).trans e1
    have e2' := get_addE_eq (b := (build r s).2.2.length + 1) e1'
    have h3 := h2.add (b := (build r s).2.2.length + 1) (by rw [length_addE, length_addE]; simp) e2 rfl
    have e3' := (get_addE_ne (a := (build r s).2.2.length) (b := (build r s).2.2.length + 1) (by omega)).trans e2'
    exact h3.add (b := (build r s).1) (by rw [length_addE, length_addE, length_addE]; simp; omega) e3' rfl
  | plus r ih =>
    intro hw s h
    have R := built r s
    have a2 := R.f1; have a4 := R.l1
    have g := get_two (build r s).2.2 ns0 ns0
    have h0 := (ih hw s h).app (no_ns0 _) (no_ns0 _)
    have e0 : ((build r s).2.2 ++ [ns0, ns0])[(build r s).2.1]? = some ns0 := by rw [List.getElem?_append_left a4]; exact R.last
    have h1 := h0.add (b := (build r s).1) (by simp; omega) g.1 rfl
    have e1' := (get_addE_ne (a := (build r s).2.2.length) (b := (build r s).1) (by omega)).trans e0
    have h2 := h1.add (b := (build r s).2.2.length + 1) (by rw [length_addE]; simp) e1' rfl
    have e2' := get_addE_eq (b := (build r s).2.2.length + 1) e1'
    exact h2.add (b := (build r s).1) (by rw [length_addE, length_addE]; simp; omega) e2' rfl
  | opt r ih =>
    intro hw s h
    have R := built r s
    have a2 := R.f1; have a4 := R.l1
    have g := get_two (build r s).2.2 ns0 ns0
    have h0 := (ih hw s h).app (no_ns0 _) (no_ns0 _)
    have e0 : ((build r s).2.2 ++ [ns0, ns0])[(build r s).2.1]? = some ns0 := by rw [List.getElem?_append_left a4]; exact R.last
    have h1 := h0.add (b := (build r s).1) (by simp; omega) g.1 rfl
    have e1 := get_addE_eq (b := (build r s).1) g.1
    have e1' := (get_addE_ne (a := (build r s).2.2.length) (b := (build r s).1) (by omega)).trans e0
    have h2 := h1.add (b := (build r s).2.2.length + 1) (by rw [length_addE]; simp) e1' rfl
    have e2 := (get_addE_ne (a := (build r s).2.1) (b := (build r s).2.2.length + 1) (by omega)).trans e1
    exact h2.add (b := (build r s).2.2.length + 1) (by rw [length_addE, length_addE]; simp) e2 rfl

theorem sound_re {r : Re} (h : r.wf) : Sound (build r []).2.2 := sound_build r h [] (by intro n hn; cases hn)

/-- What the program answers of a pattern and a text is whether the text is the pattern's. -/
theorem runs_lang {r : Re} (h : r.wf) (cs : List Nat) : runs (build r []).2.2 (build r []).1 (build r []).2.1 cs = true ↔ Lang r cs :=
  (runs_iff (sound_re h) (built r []).f1 cs).trans (goes_iff h cs)

end Go.Proofs.Ytnbghiaggapoiaa.Rx
