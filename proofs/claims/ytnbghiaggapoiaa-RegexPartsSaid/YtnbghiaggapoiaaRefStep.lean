/- The reference's reader: what holds while one of its functions runs: where it stands, its own blocks, the trees that it has made. -/
import Derived.Test.YtnbghiaggapoiaaRefTakes
namespace Go.Proofs.Ytnbghiaggapoiaa
set_option linter.unusedSimpArgs false
set_option linter.unusedVariables false
open Go.RowKit Go.Proofs
open Rx (NS Got)

/-- A tree's blocks. -/
abbrev Tr := NC × Nd × List Nat

structure At (w W : World) (p : Nat) (s : ByteArray) (i d bad pos : Nat) (bs : List (Nat × List Value)) (ts : List Tr) : Prop where
  plt : p < w.heap.size
  mod : Mod (fun k => k = p) w W
  pt : Pt W p s i d bad pos
  blk : ∀ x ∈ bs, w.heap.size ≤ x.1 ∧ Blk W x.1 x.2 30
  bnd : (bs.map (·.1)).Nodup
  tree : ∀ x ∈ ts, NRep W x.1 x.2.1 x.2.2
  new : ∀ k ∈ ts.flatMap (·.2.2), w.heap.size ≤ k ∧ k < W.heap.size ∧ k ∉ bs.map (·.1)
  tnd : (ts.flatMap (·.2.2)).Nodup

theorem At.start {w : World} {p : Nat} {s : ByteArray} {i d bad pos : Nat} (h : Pt w p s i d bad pos) : At w w p s i d bad pos [] [] :=
  ⟨Blk.lt h, Mod.refl _ _, h, by simp, by simp, by simp, by simp, by simp⟩

theorem At.turn {w W W' : World} {p : Nat} {s : ByteArray} {i d bad pos i' d' bad' pos' : Nat} {bs bs' : List (Nat × List Value)} {ts : List Tr} (h : At w W p s i d bad pos bs ts)
    (hm : Mod (fun k => k = p ∨ k ∈ bs.map (·.1)) W W') (hp : Pt W' p s i' d' bad' pos') (hb : ∀ x ∈ bs', Blk W' x.1 x.2 30) (hbs : bs'.map (·.1) = bs.map (·.1)) : At w W' p s i' d' bad' pos' bs' ts := by
  have hge : ∀ k ∈ bs.map (·.1), w.heap.size ≤ k := fun k hk => by
    obtain ⟨x, hx, rfl⟩ := List.mem_map.1 hk
    exact (h.blk x hx).1
  refine ⟨h.plt, h.mod.trans hm (fun k hk => ?_), hp, fun x hx => ⟨?_, hb x hx⟩, by rw [hbs]; exact h.bnd, fun x hx => ?_, fun k hk => ?_, h.tnd⟩
  · rintro (rfl | hk')
    · rfl
    · have := hge _ hk'; omega
  · exact hge _ (by rw [← hbs]; exact List.mem_map_of_mem hx)
  · refine (h.tree x hx).kept (fun k hk => ?_)
    have hn := h.new k (List.mem_flatMap.2 ⟨x, hx, hk⟩)
    refine hm.block k hn.2.1 ?_
    rintro (rfl | hk')
    · have := h.plt; omega
    · exact hn.2.2 hk'
  · have hn := h.new k hk
    exact ⟨hn.1, Nat.lt_of_lt_of_le hn.2.1 hm.size, by rw [hbs]; exact hn.2.2⟩

theorem At.pne {w W : World} {p : Nat} {s : ByteArray} {i d bad pos : Nat} {bs : List (Nat × List Value)} {ts : List Tr} (h : At w W p s i d bad pos bs ts) : ∀ x ∈ bs, x.1 ≠ p := fun x hx e => by
  have := (h.blk x hx).1; have := h.plt; omega

/-- The reader's own cells turn alone. -/
theorem At.turnP {w W W' : World} {p : Nat} {s : ByteArray} {i d bad pos i' d' bad' pos' : Nat} {bs : List (Nat × List Value)} {ts : List Tr} (h : At w W p s i d bad pos bs ts)
    (hm : Mod (fun k => k = p) W W') (hp : Pt W' p s i' d' bad' pos') : At w W' p s i' d' bad' pos' bs ts :=
  h.turn (hm.mono (fun _ _ e => .inl e)) hp (fun x hx => (h.blk x hx).2.mod hm (h.pne x hx)) rfl

theorem At.drewN {w W : World} {p : Nat} {s : ByteArray} {i d bad pos : Nat} {bs : List (Nat × List Value)} {ts : List Tr} (h : At w W p s i d bad pos bs ts) (n : Nat) : At w (W.drewN n) p s i d bad pos bs ts :=
  h.turnP ((Mod.refl _ W).drewN n) (Blk.kept h.pt (((Mod.refl (fun _ => False) W).drewN n).block p (Blk.lt h.pt) (fun h => h)))

theorem At.setAt {w W : World} {p : Nat} {s : ByteArray} {i d bad pos : Nat} {bs : List (Nat × List Value)} {ts : List Tr} (h : At w W p s i d bad pos bs ts) (j : Nat) (v : Int) (hv : v = (j : Int)) :
    At w (W.setCell ⟨p, 1, none⟩ (.int .i64 v)) p s j d bad pos bs ts := by
  subst hv
  exact h.turnP ((Mod.refl (fun k => k = p) W).setCell (p := ⟨p, 1, none⟩) (fun _ => rfl) _) (Blk.set h.pt 1 (.int .i64 (j : Int)))

theorem At.setDeep {w W : World} {p : Nat} {s : ByteArray} {i d bad pos : Nat} {bs : List (Nat × List Value)} {ts : List Tr} (h : At w W p s i d bad pos bs ts) (j : Nat) (v : Int) (hv : v = (j : Int)) :
    At w (W.setCell ⟨p, 2, none⟩ (.int .i64 v)) p s i j bad pos bs ts := by
  subst hv
  exact h.turnP ((Mod.refl (fun k => k = p) W).setCell (p := ⟨p, 2, none⟩) (fun _ => rfl) _) (Blk.set h.pt 2 (.int .i64 (j : Int)))

theorem At.below {w W W' : World} {p : Nat} {s : ByteArray} {i d bad pos : Nat} {bs : List (Nat × List Value)} {ts : List Tr} (h : At w W p s i d bad pos bs ts) (hb : Below W.heap.size W W') : At w W' p s i d bad pos bs ts :=
  h.turnP (Mod.of_new hb) (Blk.below h.pt hb (Blk.lt h.pt))

/-- One more block of the function's own. -/
theorem At.alloc {w W : World} {p : Nat} {s : ByteArray} {i d bad pos : Nat} {bs : List (Nat × List Value)} {ts : List Tr} (h : At w W p s i d bad pos bs ts) (vs : List Value) :
    At w (W.alloc (.cells vs.toArray 30)) p s i d bad pos ((W.heap.size, vs) :: bs) ts := by
  have h' := h.below ((Below.refl _ W).alloc (Nat.le_refl _) (.cells vs.toArray 30))
  refine ⟨h.plt, h'.mod, h'.pt, fun x hx => ?_, ?_, h'.tree, fun k hk => ?_, h.tnd⟩
  · rcases List.mem_cons.1 hx with rfl | hx
    · exact ⟨h.mod.size, Blk.new W vs 30⟩
    · exact h'.blk x hx
  · refine List.nodup_cons.2 ⟨fun hm => ?_, h.bnd⟩
    obtain ⟨x, hx, e⟩ := List.mem_map.1 hm
    have := (h.blk x hx).2.lt
    dsimp only at e
    omega
  · have hn := h.new k hk
    refine ⟨hn.1, (h'.new k hk).2.1, fun hm => ?_⟩
    simp only [List.map_cons, List.mem_cons] at hm
    rcases hm with rfl | hm
    · omega
    · exact hn.2.2 hm

/-- Its first block's cells, stored. -/
theorem At.store4 {w W : World} {p : Nat} {s : ByteArray} {i d bad pos b : Nat} {x0 x1 x2 x3 : Value} {bs : List (Nat × List Value)} {ts : List Tr} (h : At w W p s i d bad pos ((b, [x0, x1, x2, x3]) :: bs) ts) (a c e f : Value) :
    At w ((((W.setCell ⟨b, 0, none⟩ a).setCell ⟨b, 1, none⟩ c).setCell ⟨b, 2, none⟩ e).setCell ⟨b, 3, none⟩ f) p s i d bad pos ((b, [a, c, e, f]) :: bs) ts := by
  have hb := h.blk _ (List.mem_cons_self ..)
  have hne : p ≠ b := fun e => h.pne _ (List.mem_cons_self ..) e.symm
  refine h.turn (((((Mod.refl _ W).setCell (p := ⟨b, 0, none⟩) (fun _ => .inr (by simp)) a).setCell (p := ⟨b, 1, none⟩) (fun _ => .inr (by simp)) c).setCell (p := ⟨b, 2, none⟩) (fun _ => .inr (by simp)) e).setCell (p := ⟨b, 3, none⟩) (fun _ => .inr (by simp)) f)
    ((((Blk.setOther h.pt (p := ⟨b, 0, none⟩) hne a).setOther (p := ⟨b, 1, none⟩) hne c).setOther (p := ⟨b, 2, none⟩) hne e).setOther (p := ⟨b, 3, none⟩) hne f) (fun x hx => ?_) rfl
  rcases List.mem_cons.1 hx with rfl | hx
  · exact (((hb.2.set 0 a).set 1 c).set 2 e).set 3 f
  · have hx' := (h.blk x (List.mem_cons_of_mem _ hx)).2
    have hxb : x.1 ≠ b := fun e => by
      have := (List.nodup_cons.1 h.bnd).1
      exact this (by dsimp only; rw [← e]; exact List.mem_map_of_mem hx)
    exact (((hx'.setOther (p := ⟨b, 0, none⟩) hxb a).setOther (p := ⟨b, 1, none⟩) hxb c).setOther (p := ⟨b, 2, none⟩) hxb e).setOther (p := ⟨b, 3, none⟩) hxb f

/-- A cell of its first block, stored. -/
theorem At.store1 {w W : World} {p : Nat} {s : ByteArray} {i d bad pos b : Nat} {vs : List Value} {bs : List (Nat × List Value)} {ts : List Tr} (h : At w W p s i d bad pos ((b, vs) :: bs) ts) (o : Nat) (a : Value) :
    At w (W.setCell ⟨b, o, none⟩ a) p s i d bad pos ((b, vs.set o a) :: bs) ts := by
  have hb := h.blk _ (List.mem_cons_self ..)
  have hne : p ≠ b := fun e => h.pne _ (List.mem_cons_self ..) e.symm
  refine h.turn ((Mod.refl _ W).setCell (p := ⟨b, o, none⟩) (fun _ => .inr (by simp)) a) (Blk.setOther h.pt (p := ⟨b, o, none⟩) hne a) (fun x hx => ?_) rfl
  rcases List.mem_cons.1 hx with rfl | hx
  · exact hb.2.set o a
  · have hx' := (h.blk x (List.mem_cons_of_mem _ hx)).2
    have hxb : x.1 ≠ b := fun e => by
      have := (List.nodup_cons.1 h.bnd).1
      exact this (by dsimp only; rw [← e]; exact List.mem_map_of_mem hx)
    exact hx'.setOther (p := ⟨b, o, none⟩) hxb a

/-- The order of its blocks. -/
theorem At.swap {w W : World} {p : Nat} {s : ByteArray} {i d bad pos : Nat} {x y : Nat × List Value} {bs : List (Nat × List Value)} {ts : List Tr} (h : At w W p s i d bad pos (x :: y :: bs) ts) : At w W p s i d bad pos (y :: x :: bs) ts := by
  refine ⟨h.plt, h.mod, h.pt, fun z hz => h.blk z ?_, ?_, h.tree, fun k hk => ?_, h.tnd⟩
  · simp only [List.mem_cons] at hz ⊢
    rcases hz with h1 | h1 | h1 <;> simp [h1]
  · have := h.bnd
    simp only [List.map_cons, List.nodup_cons, List.mem_cons, not_or] at this ⊢
    exact ⟨⟨fun e => this.1.1 e.symm, this.2.1⟩, this.1.2, this.2.2⟩
  · have hn := h.new k hk
    refine ⟨hn.1, hn.2.1, fun hm => hn.2.2 ?_⟩
    simp only [List.map_cons, List.mem_cons] at hm ⊢
    rcases hm with h1 | h1 | h1 <;> simp [h1]
/-- One of its blocks is let go. -/
theorem At.drop {w W : World} {p : Nat} {s : ByteArray} {i d bad pos : Nat} {x : Nat × List Value} {bs : List (Nat × List Value)} {ts : List Tr} (h : At w W p s i d bad pos (x :: bs) ts) : At w W p s i d bad pos bs ts :=
  ⟨h.plt, h.mod, h.pt, fun y hy => h.blk y (List.mem_cons_of_mem _ hy), (List.nodup_cons.1 h.bnd).2, h.tree, fun k hk => by
    have hn := h.new k hk
    exact ⟨hn.1, hn.2.1, fun hm => hn.2.2 (by simp only [List.map_cons, List.mem_cons]; exact .inr hm)⟩, h.tnd⟩
/-- Its trees are let go. -/
theorem At.bare {w W : World} {p : Nat} {s : ByteArray} {i d bad pos : Nat} {bs : List (Nat × List Value)} {ts : List Tr} (h : At w W p s i d bad pos bs ts) : At w W p s i d bad pos bs [] :=
  ⟨h.plt, h.mod, h.pt, h.blk, h.bnd, by simp, by simp, by simp⟩

/-- One more tree, out of a call. -/
theorem At.got {w W W' : World} {p : Nat} {s : ByteArray} {i d bad pos i' d' bad' pos' : Nat} {bs : List (Nat × List Value)} {ts : List Tr} {nc : NC} {nd : Nd} {F : List Nat} (h : At w W p s i d bad pos bs ts)
    (hm : Mod (fun k => k = p) W W') (hp : Pt W' p s i' d' bad' pos') (hn : NRep W' nc nd F) (hF : ∀ k ∈ F, W.heap.size ≤ k ∧ k < W'.heap.size) (hd : F.Nodup) : At w W' p s i' d' bad' pos' bs ((nc, nd, F) :: ts) := by
  have h' := h.turnP hm hp
  refine ⟨h.plt, h'.mod, h'.pt, h'.blk, h.bnd, fun x hx => ?_, fun k hk => ?_, ?_⟩
  · rcases List.mem_cons.1 hx with rfl | hx
    · exact hn
    · exact h'.tree x hx
  · rw [List.flatMap_cons] at hk
    rcases List.mem_append.1 hk with hk | hk
    · have := hF k hk
      refine ⟨Nat.le_trans h.mod.size this.1, this.2, fun hm => ?_⟩
      obtain ⟨x, hx, e⟩ := List.mem_map.1 hm
      have := (h.blk x hx).2.lt
      omega
    · exact h'.new k hk
  · rw [List.flatMap_cons]
    refine List.nodup_append.2 ⟨hd, h.tnd, fun a ha b hb e => ?_⟩
    subst e
    have h1 := hF a ha
    have h2 := h.new a hb
    omega

theorem Pt.cells {w : World} {p : Nat} {s : ByteArray} {i d bad pos : Nat} (h : Pt w p s i d bad pos) :
    w.cell? ⟨p, 0, none⟩ = some (.string s) ∧ w.cell? ⟨p, 1, none⟩ = some (.int .i64 (i : Int)) ∧ w.cell? ⟨p, 2, none⟩ = some (.int .i64 (d : Int)) ∧ w.cell? ⟨p, 3, none⟩ = some (.int .i64 (bad : Int)) ∧ w.cell? ⟨p, 4, none⟩ = some (.int .i64 (pos : Int)) ∧
    w.frozen? ⟨p, 1, none⟩ = false ∧ w.frozen? ⟨p, 2, none⟩ = false :=
  ⟨Blk.cell h 0 rfl, Blk.cell h 1 rfl, Blk.cell h 2 rfl, Blk.cell h 3 rfl, Blk.cell h 4 rfl, Blk.free h 1, Blk.free h 2⟩
theorem Pt.cells0 {w : World} {p : Nat} {s : ByteArray} {i d pos : Nat} (h : Pt w p s i d 0 pos) :
    w.cell? ⟨p, 0, none⟩ = some (.string s) ∧ w.cell? ⟨p, 1, none⟩ = some (.int .i64 (i : Int)) ∧ w.cell? ⟨p, 2, none⟩ = some (.int .i64 (d : Int)) ∧ w.cell? ⟨p, 3, none⟩ = some (.int .i64 0) ∧ w.cell? ⟨p, 4, none⟩ = some (.int .i64 (pos : Int)) ∧
    w.frozen? ⟨p, 1, none⟩ = false ∧ w.frozen? ⟨p, 2, none⟩ = false :=
  ⟨Blk.cell h 0 rfl, Blk.cell h 1 rfl, Blk.cell h 2 rfl, Blk.cell h 3 rfl, Blk.cell h 4 rfl, Blk.free h 1, Blk.free h 2⟩
theorem Blk.cells4 {w : World} {b : Nat} {x0 x1 x2 x3 : Value} {t : TypeId} (h : Blk w b [x0, x1, x2, x3] t) :
    w.cell? ⟨b, 0, none⟩ = some x0 ∧ w.cell? ⟨b, 1, none⟩ = some x1 ∧ w.cell? ⟨b, 2, none⟩ = some x2 ∧ w.cell? ⟨b, 3, none⟩ = some x3 ∧
    w.frozen? ⟨b, 0, none⟩ = false ∧ w.frozen? ⟨b, 1, none⟩ = false ∧ w.frozen? ⟨b, 2, none⟩ = false ∧ w.frozen? ⟨b, 3, none⟩ = false :=
  ⟨h.cell 0 rfl, h.cell 1 rfl, h.cell 2 rfl, h.cell 3 rfl, h.free 0, h.free 1, h.free 2, h.free 3⟩
theorem At.own {w W : World} {p : Nat} {s : ByteArray} {i d bad pos b : Nat} {x0 x1 x2 x3 : Value} {bs : List (Nat × List Value)} {ts : List Tr} (h : At w W p s i d bad pos ((b, [x0, x1, x2, x3]) :: bs) ts) :
    W.cell? ⟨b, 0, none⟩ = some x0 ∧ W.cell? ⟨b, 1, none⟩ = some x1 ∧ W.cell? ⟨b, 2, none⟩ = some x2 ∧ W.cell? ⟨b, 3, none⟩ = some x3 ∧
    W.frozen? ⟨b, 0, none⟩ = false ∧ W.frozen? ⟨b, 1, none⟩ = false ∧ W.frozen? ⟨b, 2, none⟩ = false ∧ W.frozen? ⟨b, 3, none⟩ = false := (h.blk _ (List.mem_cons_self ..)).2.cells4
theorem At.own2 {w W : World} {p : Nat} {s : ByteArray} {i d bad pos b : Nat} {x0 x1 x2 x3 : Value} {x : Nat × List Value} {bs : List (Nat × List Value)} {ts : List Tr} (h : At w W p s i d bad pos (x :: (b, [x0, x1, x2, x3]) :: bs) ts) :
    W.cell? ⟨b, 0, none⟩ = some x0 ∧ W.cell? ⟨b, 1, none⟩ = some x1 ∧ W.cell? ⟨b, 2, none⟩ = some x2 ∧ W.cell? ⟨b, 3, none⟩ = some x3 ∧
    W.frozen? ⟨b, 0, none⟩ = false ∧ W.frozen? ⟨b, 1, none⟩ = false ∧ W.frozen? ⟨b, 2, none⟩ = false ∧ W.frozen? ⟨b, 3, none⟩ = false := (h.blk _ (List.mem_cons_of_mem _ (List.mem_cons_self ..))).2.cells4

/-- fail, where no error was told yet. -/
theorem At.fail {w W : World} {p : Nat} {s : ByteArray} {i d pos : Nat} {bs : List (Nat × List Value)} {ts : List Tr} (h : At w W p s i d 0 pos bs ts) (e a : Nat) (x y : Int) (hx : x = (e : Int)) (hy : y = (a : Int)) :
    Calls Try.prog 22 #[.pointer (some ⟨p, 0, none⟩), .int .i64 x, .int .i64 y] W fun en w' => en = .returned (.tuple #[]) ∧ At w w' p s i d e a bs ts := by
  subst hx hy
  exact (reffail_any W p s i d pos e a h.pt).mono fun _ _ ⟨h1, h2, h3⟩ => ⟨h1, h.turnP h3 h2⟩

/-- How a step of the reference's reader ends that gives a node: it stands behind it, or the first error is told. -/
def NEnds (g : Got (Rx.Re × Nat)) (w : World) (p : Nat) (s : ByteArray) (d : Nat) (e : Ending) (w' : World) : Prop := Mod (fun k => k = p) w w' ∧ match g with
  | .ok x => ∃ nc nd F pos, e = .returned nc.val ∧ Corr nd x.1 ∧ NRep w' nc nd F ∧ F.Nodup ∧ (∀ k ∈ F, w.heap.size ≤ k ∧ k < w'.heap.size) ∧ Pt w' p s x.2 d 0 pos
  | .bad k c => ∃ nc i', e = .returned (NC.val nc) ∧ i' ≤ s.size ∧ c ≠ 0 ∧ Pt w' p s i' d c k

theorem At.ends_ok {w W : World} {p : Nat} {s : ByteArray} {i d pos : Nat} {bs : List (Nat × List Value)} {ts : List Tr} {nc : NC} {nd : Nd} {F : List Nat} (h : At w W p s i d 0 pos bs ((nc, nd, F) :: ts))
    {g : Got (Rx.Re × Nat)} {r : Rx.Re} {j : Nat} (hg : g = .ok (r, j)) (hj : j = i) (hc : Corr nd r) {e : Ending} (he : e = .returned nc.val) : NEnds g w p s d e W := by
  subst hg hj he
  refine ⟨h.mod, nc, nd, F, pos, rfl, hc, h.tree _ (List.mem_cons_self ..), ?_, fun k hk => ?_, h.pt⟩
  · have := h.tnd
    rw [List.flatMap_cons] at this
    exact (List.nodup_append.1 this).1
  · have := h.new k (by rw [List.flatMap_cons]; exact List.mem_append.2 (.inl hk))
    exact ⟨this.1, this.2.1⟩
theorem At.ends_bad {w W : World} {p : Nat} {s : ByteArray} {i d c k : Nat} {bs : List (Nat × List Value)} {ts : List Tr} (h : At w W p s i d c k bs ts)
    {g : Got (Rx.Re × Nat)} (hg : g = .bad k c) (hc : c ≠ 0) (hi : i ≤ s.size) {e : Ending} (nc : NC) (he : e = .returned nc.val) : NEnds g w p s d e W := by
  subst hg he
  exact ⟨h.mod, nc, i, rfl, hi, hc, h.pt⟩

/-- A call of such a step, within another one. -/
theorem At.next {w W W' : World} {p : Nat} {s : ByteArray} {i d pos : Nat} {bs : List (Nat × List Value)} {ts : List Tr} (h : At w W p s i d 0 pos bs ts) {g : Got (Rx.Re × Nat)} {d' : Nat} {e : Ending} (hn : NEnds g W p s d' e W') :
    (∃ r j nc nd F pos', g = .ok (r, j) ∧ e = .returned nc.val ∧ Corr nd r ∧ At w W' p s j d' 0 pos' bs ((nc, nd, F) :: ts)) ∨
    (∃ k c nc i', g = .bad k c ∧ e = .returned (NC.val nc) ∧ i' ≤ s.size ∧ c ≠ 0 ∧ At w W' p s i' d' c k bs ts) := by
  obtain ⟨hm, hn⟩ := hn
  match g, hn with
  | .ok (r, j), ⟨nc, nd, F, pos', h1, h2, h3, h4, h5, h6⟩ => exact .inl ⟨r, j, nc, nd, F, pos', rfl, h1, h2, h.got hm h6 h3 h5 h4⟩
  | .bad k c, ⟨nc, i', h1, h2, h3, h4⟩ => exact .inr ⟨k, c, nc, i', rfl, h1, h2, h3, h.turnP hm h4⟩

/-- Its first block is the result. -/
theorem At.done {w W : World} {p : Nat} {s : ByteArray} {i d bad pos b : Nat} {v0 v1 v2 v3 : Value} {bs : List (Nat × List Value)} {ts : List Tr} (h : At w W p s i d bad pos ((b, [v0, v1, v2, v3]) :: bs) ts)
    {fn : Func} {q : Tmp} (hf : fn.results = #[.cell q 30]) {tmps : Array Value} (hq : tmps.getD q undef = .pointer (some ⟨b, 0, none⟩)) : (results fn tmps).run Try.prog W = .ok (.agg #[v0, v1, v2, v3]) W :=
  results_cell_row hf _ _ b 30 _ _ _ hq (h.blk _ (List.mem_cons_self ..)).2 Try.underlying30 rfl (by kernel_rfl)

/-- How a step ends that gives a set of one byte. -/
def EEnds (g : Got (Nat × Nat)) (w : World) (p : Nat) (s : ByteArray) (d : Nat) (e : Ending) (w' : World) : Prop := Mod (fun k => k = p) w w' ∧ match g with
  | .ok x => ∃ nc F pos, e = .returned nc.val ∧ NRep w' nc (.cls false [(x.1, x.1)]) F ∧ F.Nodup ∧ (∀ k ∈ F, w.heap.size ≤ k ∧ k < w'.heap.size) ∧ Pt w' p s x.2 d 0 pos
  | .bad k c => ∃ nc i', e = .returned (NC.val nc) ∧ i' ≤ s.size ∧ c ≠ 0 ∧ Pt w' p s i' d c k
theorem At.eends_ok {w W : World} {p : Nat} {s : ByteArray} {i d pos c : Nat} {bs : List (Nat × List Value)} {ts : List Tr} {nc : NC} {F : List Nat} (h : At w W p s i d 0 pos bs ((nc, .cls false [(c, c)], F) :: ts))
    {g : Got (Nat × Nat)} {j : Nat} (hg : g = .ok (c, j)) (hj : j = i) {e : Ending} (he : e = .returned nc.val) : EEnds g w p s d e W := by
  subst hg hj he
  refine ⟨h.mod, nc, F, pos, rfl, h.tree _ (List.mem_cons_self ..), ?_, fun k hk => ?_, h.pt⟩
  · have := h.tnd
    rw [List.flatMap_cons] at this
    exact (List.nodup_append.1 this).1
  · have := h.new k (by rw [List.flatMap_cons]; exact List.mem_append.2 (.inl hk))
    exact ⟨this.1, this.2.1⟩
theorem At.eends_bad {w W : World} {p : Nat} {s : ByteArray} {i d c k : Nat} {bs : List (Nat × List Value)} {ts : List Tr} (h : At w W p s i d c k bs ts)
    {g : Got (Nat × Nat)} (hg : g = .bad k c) (hc : c ≠ 0) (hi : i ≤ s.size) {e : Ending} (nc : NC) (he : e = .returned nc.val) : EEnds g w p s d e W := by
  subst hg he
  exact ⟨h.mod, nc, i, rfl, hi, hc, h.pt⟩
theorem At.enext {w W W' : World} {p : Nat} {s : ByteArray} {i d pos : Nat} {bs : List (Nat × List Value)} {ts : List Tr} (h : At w W p s i d 0 pos bs ts) {g : Got (Nat × Nat)} {d' : Nat} {e : Ending} (hn : EEnds g W p s d' e W') :
    (∃ c j nc F pos', g = .ok (c, j) ∧ e = .returned nc.val ∧ At w W' p s j d' 0 pos' bs ((nc, .cls false [(c, c)], F) :: ts)) ∨
    (∃ k c nc i', g = .bad k c ∧ e = .returned (NC.val nc) ∧ i' ≤ s.size ∧ c ≠ 0 ∧ At w W' p s i' d' c k bs ts) := by
  obtain ⟨hm, hn⟩ := hn
  match g, hn with
  | .ok (c, j), ⟨nc, F, pos', h1, h3, h4, h5, h6⟩ => exact .inl ⟨c, j, nc, F, pos', rfl, h1, h.got hm h6 h3 h5 h4⟩
  | .bad k c, ⟨nc, i', h1, h2, h3, h4⟩ => exact .inr ⟨k, c, nc, i', rfl, h1, h2, h3, h.turnP hm h4⟩

/-- one, within a step. -/
theorem At.one {w W : World} {p : Nat} {s : ByteArray} {i d bad pos : Nat} {bs : List (Nat × List Value)} {ts : List Tr} (h : At w W p s i d bad pos bs ts) (c : Nat) :
    Calls Try.prog 50 #[.int .u8 (c : Int)] W fun e w' => ∃ (op : Nat) (no : Bool) (sa : Option Addr) (sn sc : Nat) (ka : Option Addr) (kn kc : Nat) (F : List Nat), e = .returned (.agg #[.int .u8 (op : Int), .bool no, .slice sa sn sc, .slice ka kn kc]) ∧ At w w' p s i d bad pos bs ((⟨op, no, sa, sn, sc, ka, kn, kc⟩, .cls false [(c, c)], F) :: ts) :=
  (refone_any W c).mono fun e w' ⟨⟨op, no, sa, sn, sc, ka, kn, kc⟩, F, h1, h2, h3, h4, h5⟩ =>
    ⟨op, no, sa, sn, sc, ka, kn, kc, F, h1, h.got (Mod.of_new h5) (Blk.below h.pt h5 (Blk.lt h.pt)) h2 h4 h3⟩

theorem take_of (s : ByteArray) (i : Nat) : Rx.take (tx s) i = if h : i < s.size then (if s[i].toNat < 32 ∨ 126 < s[i].toNat then .bad i 2 else .ok s[i].toNat) else .bad i 2 := by
  unfold Rx.take Rx.peek
  by_cases h : i < s.size
  · rw [dif_pos h, if_neg (by simp; omega), bt_get s i h]
    split <;> rfl
  · rw [dif_neg h, if_pos (by simp; omega)]; rfl

end Go.Proofs.Ytnbghiaggapoiaa
