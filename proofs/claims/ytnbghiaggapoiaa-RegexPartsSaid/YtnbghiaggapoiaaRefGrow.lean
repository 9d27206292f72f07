/- The reference's reader: a node's own slices grow: a set by two bytes, the kids by one. -/
import Derived.Test.YtnbghiaggapoiaaRefByte
import Derived.Deep.AppendLies
namespace Go.Proofs.Ytnbghiaggapoiaa
set_option linter.unusedSimpArgs false
set_option linter.unusedVariables false
open Go.RowKit Go.Proofs
open Rx (NS Got)

/-- One more tree that has no blocks. -/
theorem At.tree0 {w W : World} {p : Nat} {s : ByteArray} {i d bad pos : Nat} {bs : List (Nat × List Value)} {ts : List Tr} {nc : NC} {nd : Nd} (h : At w W p s i d bad pos bs ts) (hn : NRep W nc nd []) : At w W p s i d bad pos bs ((nc, nd, []) :: ts) :=
  ⟨h.plt, h.mod, h.pt, h.blk, h.bnd, fun x hx => by
    rcases List.mem_cons.1 hx with rfl | hx
    · exact hn
    · exact h.tree x hx, by simpa using h.new, by simpa using h.tnd⟩

/-- Some trees become one, while one of their rows grows. -/
theorem At.regrow {w W W1 : World} {p : Nat} {s : ByteArray} {i d bad pos : Nat} {bs : List (Nat × List Value)} {ts0 ts : List Tr} (h : At w W p s i d bad pos bs (ts0 ++ ts)) (o : Obj) {row : Option Nat} (hg : (W.alloc o).grownBy W1 row)
    (hr : ∀ k, row = some k → k ∈ ts0.flatMap (·.2.2)) {t : Tr} (hn : NRep W1 t.1 t.2.1 t.2.2) (hb : ∀ k ∈ t.2.2, (k ∈ ts0.flatMap (·.2.2) ∨ W.heap.size ≤ k) ∧ k < W1.heap.size) (hd : t.2.2.Nodup) : At w W1 p s i d bad pos bs (t :: ts) := by
  have hsz : W.heap.size < W1.heap.size := Nat.lt_of_lt_of_le (by simp) hg.size
  have hold : ∀ k, k < W.heap.size → k ∉ ts0.flatMap (·.2.2) → W1.heap[k]? = W.heap[k]? := fun k hk hn =>
    (hg.block k (by simp; omega) (fun e => hn (hr k e.symm))).trans (Below.heap_alloc W o k hk)
  have hin : ∀ {k : Nat}, k ∈ ts0.flatMap (·.2.2) → k ∈ (ts0 ++ ts).flatMap (·.2.2) := fun hk => by rw [List.flatMap_append]; exact List.mem_append.2 (.inl hk)
  have hin2 : ∀ {k : Nat}, k ∈ ts.flatMap (·.2.2) → k ∈ (ts0 ++ ts).flatMap (·.2.2) := fun hk => by rw [List.flatMap_append]; exact List.mem_append.2 (.inr hk)
  have hap := h.tnd
  rw [List.flatMap_append] at hap
  obtain ⟨_, hap2, hap3⟩ := List.nodup_append.1 hap
  have hmod : Mod (fun k => k = p ∨ k ∈ ts0.flatMap (·.2.2)) W W1 := (((Mod.refl _ W).alloc o).grown hg (fun k e _ => .inr (hr k e)))
  refine ⟨h.plt, h.mod.trans hmod (fun k hk => ?_), ?_, fun x hx => ?_, h.bnd, fun x hx => ?_, fun k hk => ?_, ?_⟩
  · rintro (rfl | hk')
    · rfl
    · have := (h.new k (hin hk')).1; omega
  · refine Blk.kept h.pt (hold p (Blk.lt h.pt) (fun hm => ?_))
    have := (h.new p (hin hm)).1
    have := h.plt
    omega
  · have hx' := h.blk x hx
    exact ⟨hx'.1, hx'.2.kept (hold x.1 hx'.2.lt (fun hm => (h.new _ (hin hm)).2.2 (List.mem_map_of_mem hx)))⟩
  · rcases List.mem_cons.1 hx with rfl | hx
    · exact hn
    · refine (h.tree x (List.mem_append.2 (.inr hx))).kept (fun k hk => ?_)
      have hk2 : k ∈ ts.flatMap (·.2.2) := List.mem_flatMap.2 ⟨x, hx, hk⟩
      exact hold k (h.new k (hin2 hk2)).2.1 (fun hm => hap3 k hm k hk2 rfl)
  · rw [List.flatMap_cons] at hk
    rcases List.mem_append.1 hk with hk | hk
    · obtain ⟨h1, h2⟩ := hb k hk
      rcases h1 with h1 | h1
      · have := h.new k (hin h1)
        exact ⟨this.1, h2, this.2.2⟩
      · refine ⟨Nat.le_trans h.mod.size h1, h2, fun hm => ?_⟩
        obtain ⟨x, hx, e⟩ := List.mem_map.1 hm
        have := (h.blk x hx).2.lt
        omega
    · have := h.new k (hin2 hk)
      exact ⟨this.1, by omega, this.2.2⟩
  · rw [List.flatMap_cons]
    refine List.nodup_append.2 ⟨hd, hap2, fun a ha b hb' e => ?_⟩
    subst e
    rcases (hb a ha).1 with h1 | h1
    · exact hap3 a h1 a hb' rfl
    · have := (h.new a (hin2 hb')).2.1
      omega

theorem pairs_snoc (l : List (Nat × Nat)) (x y : Nat) : pairs (l ++ [(x, y)]) = pairs l ++ [.int .u8 (x : Int), .int .u8 (y : Int)] := by simp [pairs]

/-- What a set's node holds. -/
theorem NRep.cls_inv {w : World} {nc : NC} {no : Bool} {l : List (Nat × Nat)} {F : List Nat} (h : NRep w nc (.cls no l) F) : ∃ a n c, nc = ⟨99, no, a, n, c, none, 0, 0⟩ ∧ n = l.length ∧ w.ownsRow 0 83 2 (.slice a n c) n (pairs l) ∧ F = (Value.slice a n c).ownBlock.toList := by
  cases h with
  | @cls _ _ a n c h =>
    obtain ⟨a', c', e⟩ := own_slice h
    simp only [Value.slice.injEq] at e
    obtain ⟨_, rfl, _⟩ := e
    exact ⟨a, _, c, rfl, rfl, h, rfl⟩
  | kids h _ _ => cases h

theorem opt_nodup (o : Option Nat) : o.toList.Nodup := by cases o <;> simp

/-- A set by two bytes. -/
theorem At.grow_set {w W W1 : World} {p : Nat} {s : ByteArray} {i d bad pos : Nat} {bs : List (Nat × List Value)} {no : Bool} {a : Option Addr} {n c : Nat} {l : List (Nat × Nat)} {F : List Nat} {g cap x y : Nat}
    (h : At w W p s i d bad pos bs [(⟨99, no, a, n, c, none, 0, 0⟩, .cls no l, F)]) (o : Obj) (hown : W1.ownsRow 0 83 2 (.slice (some ⟨g, 0, none⟩) (n + 1) cap) (n + 1) (pairs l ++ [.int .u8 (x : Int), .int .u8 (y : Int)]))
    (hg : (W.alloc o).grownBy W1 (Value.slice a n c).ownBlock) (hat : (Value.slice a n c).ownBlock = some g ∨ g = W.heap.size + 1) (hlt : g < W1.heap.size) :
    At w W1 p s i d bad pos bs [(⟨99, no, some ⟨g, 0, none⟩, n + 1, cap, none, 0, 0⟩, .cls no (l ++ [(x, y)]), [g])] := by
  obtain ⟨a', n', c', e, hn', hown0, hF⟩ := NRep.cls_inv (h.tree _ (List.mem_cons_self ..))
  simp only [NC.mk.injEq, true_and, and_true] at e
  obtain ⟨rfl, rfl, rfl⟩ := e
  subst hn' hF
  refine At.regrow (ts0 := [_]) (ts := []) h o hg (fun k e => ?_) (t := (⟨99, no, some ⟨g, 0, none⟩, l.length + 1, cap, none, 0, 0⟩, .cls no (l ++ [(x, y)]), [g])) ?_ (fun k hk => ?_) (by simp)
  · simp [e]
  · have hc : W1.ownsRow 0 83 2 (.slice (some ⟨g, 0, none⟩) (l.length + 1) cap) (l ++ [(x, y)]).length (pairs (l ++ [(x, y)])) := by
      rw [pairs_snoc, List.length_append]; exact hown
    exact NRep.cls hc
  · simp only [List.mem_singleton] at hk
    subst hk
    refine ⟨?_, hlt⟩
    rcases hat with e | e
    · left; simp [e]
    · right; omega

theorem HasKids.same {op : Nat} {l l' : List Nd} {nd : Nd} (h : HasKids op l nd) (h' : HasKids op l' nd) : l = l' := by
  cases h <;> cases h' <;> rfl

/-- What a node with kids holds. -/
theorem NRep.kids_inv {w : World} {nc : NC} {op : Nat} {l : List Nd} {nd : Nd} {F : List Nat} (h : NRep w nc nd F) (hk : HasKids op l nd) :
    ∃ a n c ncs G, nc = ⟨op, false, none, 0, 0, a, n, c⟩ ∧ n = ncs.length ∧ w.ownsRow 0 30 4 (.slice a n c) n (ncs.flatMap NC.cells) ∧ LRep w ncs l G ∧ F = (Value.slice a n c).ownBlock.toList ++ G := by
  cases h with
  | any => cases hk
  | cls _ => cases hk
  | @kids op' l' _ a n c ncs G h1 h2 h3 =>
    have hop : op' = op := by cases h1 <;> cases hk <;> rfl
    subst hop
    obtain rfl := h1.same hk
    obtain ⟨a', c', e⟩ := own_slice h2
    simp only [Value.slice.injEq] at e
    obtain ⟨_, rfl, _⟩ := e
    exact ⟨a, _, c, ncs, G, rfl, rfl, h2, h3, rfl⟩

theorem NC.ones (nc : NC) : ∀ u ∈ nc.cells, u.oneCell' = true := by
  intro u hu
  simp only [NC.cells, List.mem_cons, List.not_mem_nil, or_false] at hu
  rcases hu with rfl | rfl | rfl | rfl <;> rfl

/-- The kids by one. -/
theorem At.grow_kids {w W W1 : World} {p : Nat} {s : ByteArray} {i d bad pos : Nat} {bs : List (Nat × List Value)} {ts : List Tr} {op : Nat} {a : Option Addr} {n c : Nat} {l : List Nd} {nd nd' x : Nd} {nc : NC} {F G G0 : List Nat} {ncs : List NC} {g cap : Nat}
    (h : At w W p s i d bad pos bs ((⟨op, false, none, 0, 0, a, n, c⟩, nd, F) :: (nc, x, G) :: ts)) (hk : HasKids op l nd) (hk' : HasKids op (l ++ [x]) nd')
    (hl : LRep W ncs l G0) (hF : F = (Value.slice a n c).ownBlock.toList ++ G0) (hn : n = ncs.length) (o : Obj)
    (hown : W1.ownsRow 0 30 4 (.slice (some ⟨g, 0, none⟩) (n + 1) cap) (n + 1) (ncs.flatMap NC.cells ++ nc.cells))
    (hg : (W.alloc o).grownBy W1 (Value.slice a n c).ownBlock) (hat : (Value.slice a n c).ownBlock = some g ∨ g = W.heap.size + 1) (hlt : g < W1.heap.size) :
    At w W1 p s i d bad pos bs ((⟨op, false, none, 0, 0, some ⟨g, 0, none⟩, n + 1, cap⟩, nd', g :: (G0 ++ G)) :: ts) := by
  subst hF hn
  have hap := h.tnd
  simp only [List.flatMap_cons] at hap
  obtain ⟨hap1, hap2, hap3⟩ := List.nodup_append.1 hap
  obtain ⟨hap4, hap5, hap6⟩ := List.nodup_append.1 hap1
  obtain ⟨hap7, hap8, hap9⟩ := List.nodup_append.1 hap2
  have hG0 : ∀ k ∈ G0, k < W.heap.size ∧ (Value.slice a ncs.length c).ownBlock ≠ some k := fun k hk => by
    refine ⟨(h.new k (by simp only [List.flatMap_cons, List.mem_append]; exact .inl (.inr hk))).2.1, fun e => ?_⟩
    exact hap6 k (mem_opt.2 e) k hk rfl
  have hG : ∀ k ∈ G, k < W.heap.size ∧ (Value.slice a ncs.length c).ownBlock ≠ some k := fun k hk => by
    refine ⟨(h.new k (by simp only [List.flatMap_cons, List.mem_append]; exact .inr (.inl hk))).2.1, fun e => ?_⟩
    exact hap3 k (List.mem_append.2 (.inl (mem_opt.2 e))) k (List.mem_append.2 (.inl hk)) rfl
  have hkeep : ∀ k, k < W.heap.size → (Value.slice a ncs.length c).ownBlock ≠ some k → W1.heap[k]? = W.heap[k]? := fun k hk hn =>
    (hg.block k (by simp; omega) (fun e => hn e.symm)).trans (Below.heap_alloc W o k hk)
  have hl1 : LRep W1 ncs l G0 := hl.kept (fun k hk => hkeep k (hG0 k hk).1 (hG0 k hk).2)
  have hx1 : NRep W1 nc x G := (h.tree (nc, x, G) (by simp)).kept (fun k hk => hkeep k (hG k hk).1 (hG k hk).2)
  have hgn : g ∉ G0 ++ G := fun hm => by
    rcases List.mem_append.1 hm with hm | hm
    · rcases hat with e | e
      · exact (hG0 g hm).2 e
      · have := (hG0 g hm).1; omega
    · rcases hat with e | e
      · exact (hG g hm).2 e
      · have := (hG g hm).1; omega
  refine At.regrow (ts0 := [(⟨op, false, none, 0, 0, a, ncs.length, c⟩, nd, (Value.slice a ncs.length c).ownBlock.toList ++ G0), (nc, x, G)]) (ts := ts) h o hg (fun k e => ?_)
    (t := (⟨op, false, none, 0, 0, some ⟨g, 0, none⟩, ncs.length + 1, cap⟩, nd', g :: (G0 ++ G))) ?_ (fun k hk => ?_) ?_
  · simp [e]
  · have hr : W1.ownsRow 0 30 4 (.slice (some ⟨g, 0, none⟩) (ncs.length + 1) cap) (ncs ++ [nc]).length ((ncs ++ [nc]).flatMap NC.cells) := by
      rw [List.length_append, List.flatMap_append]; simpa using hown
    exact NRep.kids hk' hr (.snoc hl1 hx1)
  · rcases List.mem_cons.1 hk with rfl | hk
    · refine ⟨?_, hlt⟩
      rcases hat with e | e
      · left; simp [e]
      · right; omega
    · have hsz : W.heap.size < W1.heap.size := Nat.lt_of_lt_of_le (by simp) hg.size
      rcases List.mem_append.1 hk with hk | hk
      · exact ⟨.inl (by simp [hk]), by have := (hG0 k hk).1; omega⟩
      · exact ⟨.inl (by simp [hk]), by have := (hG k hk).1; omega⟩
  · refine List.nodup_cons.2 ⟨hgn, List.nodup_append.2 ⟨hap5, hap7, fun a ha b hb e => ?_⟩⟩
    subst e
    exact hap3 a (List.mem_append.2 (.inr ha)) a (List.mem_append.2 (.inl hb)) rfl

end Go.Proofs.Ytnbghiaggapoiaa
