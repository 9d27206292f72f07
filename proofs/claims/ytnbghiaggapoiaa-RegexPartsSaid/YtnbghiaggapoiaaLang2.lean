/- Patterns, plainly: the states of a pattern take just its texts. No program in sight. -/
import Derived.Test.YtnbghiaggapoiaaLang
namespace Go.Proofs.Ytnbghiaggapoiaa.Rx
set_option linter.unusedSimpArgs false
set_option linter.unusedVariables false

theorem Path.first {S : List NS} {k x z : Nat} {w : List Nat} {n : NS} (h : Path S k x w z) (hx : S[x]? = some n) (ht : n.takes = false) (hne : x ≠ z) : ∃ k' y, k = k' + 1 ∧ y ∈ n.next ∧ Path S k' y w z := by
  cases h with
  | nil => exact absurd rfl hne
  | eps h1 h2 h3 h4 => rw [hx] at h1; cases h1; exact ⟨_, _, rfl, h3, h4⟩
  | eat h1 h2 h3 h4 h5 => rw [hx] at h1; cases h1; rw [ht] at h2; cases h2

structure Emb (lo : Nat) (B : Nat × Nat × List NS) (S : List NS) : Prop where
  same : ∀ i, lo ≤ i → i < B.2.2.length → i ≠ B.2.1 → S[i]? = B.2.2[i]?
  last : ∃ n, S[B.2.1]? = some n ∧ n.takes = false
structure EmbA (lo : Nat) (B : Nat × Nat × List NS) (S : List NS) : Prop where
  same : ∀ i, lo ≤ i → i < B.2.2.length → i ≠ B.1 → i ≠ B.2.1 → S[i]? = B.2.2[i]?
  first : ∀ m, B.2.2[B.1]? = some m → ∃ n, S[B.1]? = some n ∧ n.takes = false ∧ ∀ y ∈ m.next, y ∈ n.next
  last : ∃ n, S[B.2.1]? = some n ∧ n.takes = false
def Out (lo : Nat) (B : Nat × Nat × List NS) (z : Nat) : Prop := z < lo ∨ B.2.2.length ≤ z ∨ z = B.2.1
def Frag (lo : Nat) (B : Nat × Nat × List NS) (S : List NS) (L : List Nat → Prop) : Prop :=
  (∀ w, L w → Goes S B.1 w B.2.1) ∧ ∀ k w z, Path S k B.1 w z → Out lo B z → ∃ k1 u v, k1 ≤ k ∧ w = u ++ v ∧ L u ∧ Path S k1 B.2.1 v z
def FragA (lo : Nat) (B : Nat × Nat × List NS) (S : List NS) (L : List Nat → Prop) : Prop :=
  (∀ w, L w → Goes S B.1 w B.2.1) ∧ ∀ k w z y m, B.2.2[B.1]? = some m → y ∈ m.next → Path S k y w z → Out lo B z → ∃ k1 u v, k1 ≤ k ∧ w = u ++ v ∧ L u ∧ Path S k1 B.2.1 v z

theorem star_iff {r : Re} {w : List Nat} : Lang (.star r) w ↔ ∃ us : List (List Nat), (∀ u ∈ us, Lang r u) ∧ w = us.flatten := by
  constructor
  · intro h
    generalize hq : Re.star r = q at h
    induction h with
    | star0 => exact ⟨[], by simp, rfl⟩
    | starS h1 _ _ ih => cases hq; obtain ⟨us, h2, rfl⟩ := ih rfl; exact ⟨_ :: us, by simpa using ⟨h1, h2⟩, by simp⟩
    | _ => cases hq
  · rintro ⟨us, h, rfl⟩
    induction us with
    | nil => exact .star0
    | cons u us ih => exact .starS (h u (by simp)) (ih (fun v hv => h v (by simp [hv])))

theorem plus_iff {r : Re} {w : List Nat} : Lang (.plus r) w ↔ ∃ u us, (∀ v ∈ u :: us, Lang r v) ∧ w = u ++ List.flatten us := by
  constructor
  · intro h
    generalize hq : Re.plus r = q at h
    induction h with
    | plus1 h1 => cases hq; exact ⟨_, [], by simpa using h1, by simp⟩
    | plusS h1 _ _ ih => cases hq; obtain ⟨u, us, h2, rfl⟩ := ih rfl; exact ⟨_, u :: us, by simpa using ⟨h1, by simpa using h2⟩, by simp⟩
    | _ => cases hq
  · rintro ⟨u, us, h, rfl⟩
    induction us generalizing u with
    | nil => simpa using Lang.plus1 (h u (by simp))
    | cons v us ih => exact .plusS (h u (by simp)) (ih v (fun x hx => h x (by simp at hx ⊢; exact .inr hx)))

theorem alt_first {r : Re} (ha : r.isAlt) (hw : r.wf) : ∀ s, ∃ m, (build r s).2.2[(build r s).1]? = some m ∧ m.takes = false := by
  induction r with
  | alt0 => intro s; exact ⟨ns0, (get_two s ns0 ns0).1, rfl⟩
  | alt p r ihp ihr =>
    intro s
    obtain ⟨m, hm, ht⟩ := ihp hw.1 hw.2.1 s
    have P := built p s
    have R := built r (build p s).2.2
    have a1 := P.f0; have a2 := P.f1; have a3 := R.l0; have a4 := R.f0
    refine ⟨{ m with next := m.next ++ [(build r (build p s).2.2).1] }, ?_, ht⟩
    simp only [build]
    rw [get_addE_ne (by omega)]
    exact get_addE_eq ((R.old _ a2).trans hm)
  | _ => exact ha.elim

theorem frag_set (f : BSet) (s S : List NS) (h : Emb s.length (build (.set f) s) S) : Frag s.length (build (.set f) s) S (Lang (.set f)) := by
  have hx : S[s.length + 1]? = some ⟨true, f, [s.length]⟩ := (h.same (s.length + 1) (by omega) (by simp [build]) (by simp [build])).trans (get_two s _ _).2
  constructor
  · rintro w hw
    cases hw with
    | set hc => exact ⟨1, .eat hx rfl hc rfl (.nil _)⟩
  · intro k w z hp ho
    have hp' : Path S k (s.length + 1) w z := hp
    cases hp' with
    | nil => simp [Out, build] at ho; omega
    | eps h1 h2 => rw [hx] at h1; cases h1; cases h2
    | eat h1 h2 h3 h4 h5 =>
      rw [hx] at h1; cases h1; cases h4
      exact ⟨_, [_], _, by omega, rfl, .set h3, h5⟩

theorem frag_cat {p x : Re} (hp : ∀ s S, Emb s.length (build p s) S → Frag s.length (build p s) S (Lang p)) (hx : ∀ s S, Emb s.length (build x s) S → Frag s.length (build x s) S (Lang x))
    (s S : List NS) (h : Emb s.length (build (.cat p x) s) S) : Frag s.length (build (.cat p x) s) S (Lang (.cat p x)) := by
  have P := built p s
  have X := built x (build p s).2.2
  obtain ⟨h1, h2⟩ := h
  simp only [build, length_addE] at h1 h2
  have a1 := P.f0; have a2 := P.f1; have a3 := P.l0; have a4 := P.l1; have a5 := X.f0; have a6 := X.f1; have a7 := X.l0; have a8 := X.l1
  have hmid : S[(build p s).2.1]? = some { ns0 with next := [(build x (build p s).2.2).1] } := by
    rw [h1 _ (by omega) (by omega) (by omega)]
    exact get_addE_eq ((X.old _ (by omega)).trans P.last)
  have FP := hp s S ⟨fun i hi hi2 hne => by rw [h1 i hi (by omega) (by omega), get_addE_ne hne, X.old i hi2], _, hmid, rfl⟩
  have FX := hx (build p s).2.2 S ⟨fun i hi hi2 hne => by rw [h1 i (by omega) hi2 hne, get_addE_ne (by omega)], h2⟩
  constructor
  · intro w hw
    cases hw with
    | cat hu hv => exact (FP.1 _ hu).trans (Goes.hop hmid rfl (by simp) (FX.1 _ hv))
  · intro k w z hpath ho
    simp only [Out, build, length_addE] at ho
    obtain ⟨k1, u1, v1, hk1, rfl, hu1, hp1⟩ := FP.2 k w z hpath (by unfold Out; omega)
    obtain ⟨k2, y, rfl, hy, hp2⟩ := hp1.first hmid rfl (by omega)
    simp only [List.mem_singleton] at hy
    subst hy
    obtain ⟨k3, u2, v2, hk3, rfl, hu2, hp3⟩ := FX.2 k2 v1 z hp2 (by unfold Out; omega)
    exact ⟨k3, u1 ++ u2, v2, by omega, by simp, .cat hu1 hu2, hp3⟩

theorem flat_go {S : List NS} {f l : Nat} {n : NS} {L : List Nat → Prop} (hg : ∀ w, L w → Goes S f w l) (hl : S[l]? = some n) (ht : n.takes = false) (hf : f ∈ n.next) : ∀ us : List (List Nat), (∀ u ∈ us, L u) → Goes S l us.flatten l := by
  intro us
  induction us with
  | nil => exact fun _ => Goes.same S l
  | cons u us ih => exact fun h => by simpa using Goes.hop hl ht hf ((hg u (h u (by simp))).trans (ih (fun v hv => h v (by simp [hv]))))

/-- Round and round: from the end of a part, back to its begin or on. -/
theorem rounds_of {S : List NS} {f l o z : Nat} {n : NS} {L : List Nat → Prop} (hl : S[l]? = some n) (ht : n.takes = false) (hn : n.next = [o, f]) (hz : l ≠ z)
    (hf : ∀ k w, Path S k f w z → ∃ k1 u v, k1 ≤ k ∧ w = u ++ v ∧ L u ∧ Path S k1 l v z) : ∀ (j k : Nat) (w : List Nat), k ≤ j → Path S k l w z → ∃ k1 us v, k1 < k ∧ w = List.flatten us ++ v ∧ (∀ u ∈ us, L u) ∧ Path S k1 o v z := by
  intro j
  induction j with
  | zero => intro k w hk h; obtain ⟨k', y, rfl, _⟩ := h.first hl ht hz; omega
  | succ j ih =>
    intro k w hk h
    obtain ⟨k', y, rfl, hy, h2⟩ := h.first hl ht hz
    rw [hn] at hy
    simp only [List.mem_cons, List.not_mem_nil, or_false] at hy
    rcases hy with rfl | rfl
    · exact ⟨k', [], w, by omega, by simp, by simp, h2⟩
    · obtain ⟨k1, u, v, hk1, rfl, hu, h3⟩ := hf k' w h2
      obtain ⟨k2, us, v2, hk2, rfl, hus, h4⟩ := ih k1 v (by omega) h3
      exact ⟨k2, u :: us, v2, by omega, by simp, by simpa using ⟨hu, hus⟩, h4⟩

theorem frag_star {r : Re} (hr : ∀ s S, Emb s.length (build r s) S → Frag s.length (build r s) S (Lang r))
    (s S : List NS) (h : Emb s.length (build (.star r) s) S) : Frag s.length (build (.star r) s) S (Lang (.star r)) := by
  have R := built r s
  obtain ⟨h1, h2⟩ := h
  simp only [build, length_addE, List.length_append, List.length_cons, List.length_nil] at h1 h2
  have a1 := R.f0; have a2 := R.f1; have a3 := R.l0; have a4 := R.l1
  have g := get_two (build r s).2.2 ns0 ns0
  have hn : S[(build r s).2.2.length]? = some { ns0 with next := [(build r s).1, (build r s).2.2.length + 1] } := by
    have e1 := get_addE_eq (b := (build r s).1) g.1
    have e2 := (get_addE_ne (a := (build r s).2.1) (b := (build r s).2.2.length + 1) (by omega)).trans e1
    have e3 := get_addE_eq (b := (build r s).2.2.length + 1) e2
    rw [h1 _ (by omega) (by omega) (by omega), get_addE_ne (by omega)]
    exact e3
  have hl : S[(build r s).2.1]? = some { ns0 with next := [(build r s).2.2.length + 1, (build r s).1] } := by
    rw [h1 _ (by omega) (by omega) (by omega)]
    have e0 : ((build r s).2.2 ++ [ns0, ns0])[(build r s).2.1]? = some ns0 := by rw [List.getElem?_append_left a4]; exact R.last
    have e1 := (get_addE_ne (a := (build r s).2.2.length) (b := (build r s).1) (by omega)).trans e0
    have e2 := get_addE_eq (b := (build r s).2.2.length + 1) e1
    have e3 := (get_addE_ne (a := (build r s).2.2.length) (b := (build r s).2.2.length + 1) (by omega)).trans e2
    exact get_addE_eq (b := (build r s).1) e3
  have FR := hr s S ⟨fun i hi hi2 hne => by rw [h1 i hi (by omega) (by omega), get_addE_ne hne, get_addE_ne (by omega), get_addE_ne hne, get_addE_ne (by omega), List.getElem?_append_left hi2], _, hl, rfl⟩
  constructor
  · intro w hw
    obtain ⟨us, hus, rfl⟩ := star_iff.1 hw
    show Goes S (build r s).2.2.length us.flatten ((build r s).2.2.length + 1)
    cases us with
    | nil => exact Goes.hop hn rfl (by simp) (Goes.same S _)
    | cons u us =>
      refine Goes.hop hn rfl (y := (build r s).1) (by simp) ?_
      have h3 := (FR.1 u (hus u (by simp))).trans (flat_go FR.1 hl rfl (by simp) us (fun v hv => hus v (by simp [hv])))
      have h4 := h3.trans (Goes.hop hl rfl (y := (build r s).2.2.length + 1) (by simp) (Goes.same S _))
      simpa using h4
  · intro k w z hpath ho
    simp only [Out, build, length_addE, List.length_append, List.length_cons, List.length_nil] at ho
    have hpath' : Path S k (build r s).2.2.length w z := hpath
    show ∃ k1 u v, k1 ≤ k ∧ w = u ++ v ∧ Lang (.star r) u ∧ Path S k1 ((build r s).2.2.length + 1) v z
    obtain ⟨k2, y, rfl, hy, hp2⟩ := hpath'.first hn rfl (by omega)
    simp only [List.mem_cons, List.not_mem_nil, or_false] at hy
    rcases hy with rfl | rfl
    · obtain ⟨k3, u, v, hk3, rfl, hu, hp3⟩ := FR.2 k2 w z hp2 (by unfold Out; omega)
      obtain ⟨k4, us, v2, hk4, rfl, hus, hp4⟩ := rounds_of (L := Lang r) hl rfl rfl (by omega) (fun k w hp => FR.2 k w z hp (by unfold Out; omega)) k3 k3 v (Nat.le_refl _) hp3
      exact ⟨k4, u ++ us.flatten, v2, by omega, by simp, star_iff.2 ⟨u :: us, by simpa using ⟨hu, hus⟩, by simp⟩, hp4⟩
    · exact ⟨k2, [], w, by omega, rfl, .star0, hp2⟩

theorem frag_plus {r : Re} (hr : ∀ s S, Emb s.length (build r s) S → Frag s.length (build r s) S (Lang r))
    (s S : List NS) (h : Emb s.length (build (.plus r) s) S) : Frag s.length (build (.plus r) s) S (Lang (.plus r)) := by
  have R := built r s
  obtain ⟨h1, h2⟩ := h
  simp only [build, length_addE, List.length_append, List.length_cons, List.length_nil] at h1 h2
  have a1 := R.f0; have a2 := R.f1; have a3 := R.l0; have a4 := R.l1
  have g := get_two (build r s).2.2 ns0 ns0
  have hn : S[(build r s).2.2.length]? = some { ns0 with next := [(build r s).1] } := by
    rw [h1 _ (by omega) (by omega) (by omega), get_addE_ne (by omega), get_addE_ne (by omega)]
    exact get_addE_eq g.1
  have hl : S[(build r s).2.1]? = some { ns0 with next := [(build r s).2.2.length + 1, (build r s).1] } := by
    rw [h1 _ (by omega) (by omega) (by omega)]
    have e0 : ((build r s).2.2 ++ [ns0, ns0])[(build r s).2.1]? = some ns0 := by rw [List.getElem?_append_left a4]; exact R.last
    have e1 := (get_addE_ne (a := (build r s).2.2.length) (b := (build r s).1) (by omega)).trans e0
    exact get_addE_eq (b := (build r s).1) (get_addE_eq (b := (build r s).2.2.length + 1) e1)
  have FR := hr s S ⟨fun i hi hi2 hne => by rw [h1 i hi (by omega) (by omega), get_addE_ne hne, get_addE_ne hne, get_addE_ne (by omega), List.getElem?_append_left hi2], _, hl, rfl⟩
  constructor
  · intro w hw
    obtain ⟨u, us, hus, rfl⟩ := plus_iff.1 hw
    show Goes S (build r s).2.2.length (u ++ us.flatten) ((build r s).2.2.length + 1)
    refine Goes.hop hn rfl (y := (build r s).1) (by simp) ?_
    have h3 := (FR.1 u (hus u (by simp))).trans (flat_go FR.1 hl rfl (by simp) us (fun v hv => hus v (by simp [hv])))
    have h4 := h3.trans (Goes.hop hl rfl (y := (build r s).2.2.length + 1) (by simp) (Goes.same S _))
    simpa using h4
  · intro k w z hpath ho
    simp only [Out, build, length_addE, List.length_append, List.length_cons, List.length_nil] at ho
    have hpath' : Path S k (build r s).2.2.length w z := hpath
    show ∃ k1 u v, k1 ≤ k ∧ w = u ++ v ∧ Lang (.plus r) u ∧ Path S k1 ((build r s).2.2.length + 1) v z
    obtain ⟨k2, y, rfl, hy, hp2⟩ := hpath'.first hn rfl (by omega)
    simp only [List.mem_cons, List.not_mem_nil, or_false] at hy
    subst hy
    obtain ⟨k3, u, v, hk3, rfl, hu, hp3⟩ := FR.2 k2 w z hp2 (by unfold Out; omega)
    obtain ⟨k4, us, v2, hk4, rfl, hus, hp4⟩ := rounds_of (L := Lang r) hl rfl rfl (by omega) (fun k w hp => FR.2 k w z hp (by unfold Out; omega)) k3 k3 v (Nat.le_refl _) hp3
    exact ⟨k4, u ++ us.flatten, v2, by omega, by simp, plus_iff.2 ⟨u, us, by simpa using ⟨hu, hus⟩, rfl⟩, hp4⟩

theorem frag_opt {r : Re} (hr : ∀ s S, Emb s.length (build r s) S → Frag s.length (build r s) S (Lang r))
    (s S : List NS) (h : Emb s.length (build (.opt r) s) S) : Frag s.length (build (.opt r) s) S (Lang (.opt r)) := by
  have R := built r s
  obtain ⟨h1, h2⟩ := h
  simp only [build, length_addE, List.length_append, List.length_cons, List.length_nil] at h1 h2
  have a1 := R.f0; have a2 := R.f1; have a3 := R.l0; have a4 := R.l1
  have g := get_two (build r s).2.2 ns0 ns0
  have hn : S[(build r s).2.2.length]? = some { ns0 with next := [(build r s).1, (build r s).2.2.length + 1] } := by
    rw [h1 _ (by omega) (by omega) (by omega)]
    have e1 := get_addE_eq (b := (build r s).1) g.1
    have e2 := (get_addE_ne (a := (build r s).2.1) (b := (build r s).2.2.length + 1) (by omega)).trans e1
    exact get_addE_eq (b := (build r s).2.2.length + 1) e2
  have hl : S[(build r s).2.1]? = some { ns0 with next := [(build r s).2.2.length + 1] } := by
    rw [h1 _ (by omega) (by omega) (by omega), get_addE_ne (by omega)]
    have e0 : ((build r s).2.2 ++ [ns0, ns0])[(build r s).2.1]? = some ns0 := by rw [List.getElem?_append_left a4]; exact R.last
    have e1 := (get_addE_ne (a := (build r s).2.2.length) (b := (build r s).1) (by omega)).trans e0
    exact get_addE_eq (b := (build r s).2.2.length + 1) e1
  have FR := hr s S ⟨fun i hi hi2 hne => by rw [h1 i hi (by omega) (by omega), get_addE_ne (by omega), get_addE_ne hne, get_addE_ne (by omega), List.getElem?_append_left hi2], _, hl, rfl⟩
  constructor
  · intro w hw
    show Goes S (build r s).2.2.length w ((build r s).2.2.length + 1)
    cases hw with
    | opt0 => exact Goes.hop hn rfl (by simp) (Goes.same S _)
    | optS hu =>
      refine Goes.hop hn rfl (y := (build r s).1) (by simp) ?_
      simpa using (FR.1 w hu).trans (Goes.hop hl rfl (y := (build r s).2.2.length + 1) (by simp) (Goes.same S _))
  · intro k w z hpath ho
    simp only [Out, build, length_addE, List.length_append, List.length_cons, List.length_nil] at ho
    have hpath' : Path S k (build r s).2.2.length w z := hpath
    show ∃ k1 u v, k1 ≤ k ∧ w = u ++ v ∧ Lang (.opt r) u ∧ Path S k1 ((build r s).2.2.length + 1) v z
    obtain ⟨k2, y, rfl, hy, hp2⟩ := hpath'.first hn rfl (by omega)
    simp only [List.mem_cons, List.not_mem_nil, or_false] at hy
    rcases hy with rfl | rfl
    · obtain ⟨k3, u, v, hk3, rfl, hu, hp3⟩ := FR.2 k2 w z hp2 (by unfold Out; omega)
      obtain ⟨k4, y, rfl, hy, hp4⟩ := hp3.first hl rfl (by omega)
      simp only [List.mem_cons, List.not_mem_nil, or_false] at hy
      subst hy
      exact ⟨k4, u, v, by omega, rfl, .optS hu, hp4⟩
    · exact ⟨k2, [], w, by omega, rfl, .opt0, hp2⟩

theorem fraga_alt0 (s S : List NS) : FragA s.length (build .alt0 s) S (Lang .alt0) := by
  constructor
  · intro w hw; cases hw
  · intro k w z y m hm hy
    have : (build .alt0 s).2.2[(build .alt0 s).1]? = some ns0 := (get_two s ns0 ns0).1
    rw [this] at hm; cases hm; cases hy

theorem fraga_alt {p r : Re} (hpa : p.isAlt) (hpw : p.wf) (hp : ∀ s S, EmbA s.length (build p s) S → FragA s.length (build p s) S (Lang p)) (hr : ∀ s S, Emb s.length (build r s) S → Frag s.length (build r s) S (Lang r))
    (s S : List NS) (h : EmbA s.length (build (.alt p r) s) S) : FragA s.length (build (.alt p r) s) S (Lang (.alt p r)) := by
  have P := built p s
  have R := built r (build p s).2.2
  obtain ⟨mp, hmp, hmt⟩ := alt_first hpa hpw s
  obtain ⟨h1, hfst, h2⟩ := h
  simp only [build, length_addE] at h1 h2 hfst
  have a1 := P.f0; have a2 := P.f1; have a3 := P.l0; have a4 := P.l1; have a5 := R.f0; have a6 := R.f1; have a7 := R.l0; have a8 := R.l1; have a9 := P.ne
  have hs1 : (addE (addE (build r (build p s).2.2).2.2 (build p s).1 (build r (build p s).2.2).1) (build r (build p s).2.2).2.1 (build p s).2.1)[(build p s).1]? = some { mp with next := mp.next ++ [(build r (build p s).2.2).1] } := by
    rw [get_addE_ne (by omega)]
    exact get_addE_eq ((R.old _ a2).trans hmp)
  obtain ⟨n, hn, hnt, hsub⟩ := hfst _ hs1
  have hrl : S[(build r (build p s).2.2).2.1]? = some { ns0 with next := [(build p s).2.1] } := by
    rw [h1 _ (by omega) (by omega) (by omega) (by omega)]
    exact get_addE_eq ((get_addE_ne (by omega)).trans R.last)
  have FP := hp s S ⟨fun i hi hi2 hne hne2 => by rw [h1 i hi (by omega) hne hne2, get_addE_ne (by omega), get_addE_ne hne, R.old i hi2],
    fun m hm => by rw [hmp] at hm; cases hm; exact ⟨n, hn, hnt, fun y hy => hsub y (by simp [hy])⟩, h2⟩
  have FR := hr (build p s).2.2 S ⟨fun i hi hi2 hne => by rw [h1 i (by omega) hi2 (by omega) (by omega), get_addE_ne hne, get_addE_ne (by omega)], _, hrl, rfl⟩
  constructor
  · intro w hw
    show Goes S (build p s).1 w (build p s).2.1
    cases hw with
    | altl hu => exact FP.1 w hu
    | altr hu =>
      refine Goes.hop hn hnt (hsub (build r (build p s).2.2).1 (by simp)) ?_
      simpa using (FR.1 w hu).trans (Goes.hop hrl rfl (y := (build p s).2.1) (by simp) (Goes.same S _))
  · intro k w z y m hm hy hpath ho
    simp only [Out, build, length_addE] at ho
    have hm' := hs1.symm.trans hm
    cases hm'
    simp only [List.mem_append, List.mem_singleton] at hy
    show ∃ k1 u v, k1 ≤ k ∧ w = u ++ v ∧ Lang (.alt p r) u ∧ Path S k1 (build p s).2.1 v z
    rcases hy with hy | rfl
    · obtain ⟨k1, u, v, hk1, rfl, hu, h3⟩ := FP.2 k w z y mp hmp hy hpath (by unfold Out; omega)
      exact ⟨k1, u, v, hk1, rfl, .altl hu, h3⟩
    · obtain ⟨k1, u, v, hk1, rfl, hu, h3⟩ := FR.2 k w z hpath (by unfold Out; omega)
      obtain ⟨k2, y, rfl, hy, h4⟩ := h3.first hrl rfl (by omega)
      simp only [List.mem_singleton] at hy
      subst hy
      exact ⟨k2, u, v, by omega, rfl, .altr hu, h4⟩

theorem frag_of_fraga {r : Re} (ha : r.isAlt) (hw : r.wf) (h : ∀ s S, EmbA s.length (build r s) S → FragA s.length (build r s) S (Lang r)) (s S : List NS) (he : Emb s.length (build r s) S) : Frag s.length (build r s) S (Lang r) := by
  obtain ⟨m, hm, ht⟩ := alt_first ha hw s
  have B := built r s
  have hS := (he.same _ B.f0 B.f1 B.ne).trans hm
  have F := h s S ⟨fun i h1 h2 _ h3 => he.same i h1 h2 h3, fun m' hm' => by rw [hm] at hm'; cases hm'; exact ⟨m, hS, ht, fun _ h => h⟩, he.last⟩
  refine ⟨F.1, fun k w z hp ho => ?_⟩
  have hne : (build r s).1 ≠ z := by
    have := B.f0; have := B.f1; have := B.ne
    unfold Out at ho; omega
  obtain ⟨k', y, rfl, hy, hp2⟩ := hp.first hS ht hne
  obtain ⟨k1, u, v, hk1, h2, h3, h4⟩ := F.2 k' w z y m hm hy hp2 ho
  exact ⟨k1, u, v, by omega, h2, h3, h4⟩

theorem frag_both (r : Re) : r.wf → (∀ s S, Emb s.length (build r s) S → Frag s.length (build r s) S (Lang r)) ∧ (r.isAlt → ∀ s S, EmbA s.length (build r s) S → FragA s.length (build r s) S (Lang r)) := by
  induction r with
  | set f => exact fun _ => ⟨frag_set f, fun h => h.elim⟩
  | cat p x ihp ihx => exact fun h => ⟨frag_cat (ihp h.1).1 (ihx h.2).1, fun h => h.elim⟩
  | alt0 => exact fun h => ⟨frag_of_fraga trivial h (fun s S _ => fraga_alt0 s S), fun _ s S _ => fraga_alt0 s S⟩
  | alt p r ihp ihr =>
    intro h
    have f := fraga_alt h.1 h.2.1 ((ihp h.2.1).2 h.1) (ihr h.2.2).1
    exact ⟨frag_of_fraga trivial h f, fun _ => f⟩
  | star r ih => exact fun h => ⟨frag_star (ih h).1, fun h => h.elim⟩
  | plus r ih => exact fun h => ⟨frag_plus (ih h).1, fun h => h.elim⟩
  | opt r ih => exact fun h => ⟨frag_opt (ih h).1, fun h => h.elim⟩

/-- The states of a pattern take just its texts. -/
theorem goes_iff {r : Re} (h : r.wf) (w : List Nat) : Goes (build r []).2.2 (build r []).1 w (build r []).2.1 ↔ Lang r w := by
  have B := built r []
  have F := (frag_both r h).1 [] (build r []).2.2 ⟨fun _ _ _ _ => rfl, ns0, B.last, rfl⟩
  constructor
  · rintro ⟨k, hp⟩
    obtain ⟨k1, u, v, _, rfl, hu, hp2⟩ := F.2 k w _ hp (.inr (.inr rfl))
    have hv : v = [] := by
      cases hp2 with
      | nil => rfl
      | eps h1 h2 h3 => rw [B.last] at h1; cases h1; cases h3
      | eat h1 h2 => rw [B.last] at h1; cases h1; cases h2
    rw [hv, List.append_nil]; exact hu
  · exact F.1 w

end Go.Proofs.Ytnbghiaggapoiaa.Rx
