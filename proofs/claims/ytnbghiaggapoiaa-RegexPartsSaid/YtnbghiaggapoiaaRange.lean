/- A range over a function: a law for a caller that owns some blocks (B), over an iterator that may write blocks of its own. Every function is within the fence. -/
import Derived.Test.YtnbghiaggapoiaaBase
import Derived.RangeFuncKeeps
import Derived.RangeFuncLeaves
import Derived.RangeFuncCalls
import Derived.OwnWalkIn
import Derived.TacticsInMore
import Derived.LoopNIn
import Derived.LoopIn
namespace Go.Proofs.Ytnbghiaggapoiaa
set_option linter.unusedSimpArgs false
set_option linter.unusedVariables false
open Go.RowKit

/-- What is said of some blocks alone: it stays while these lie as they lay. -/
structure Steady {β : Type} (J : β → (Nat → Prop) → World → Prop) : Prop where
  keep : ∀ s B W W', J s B W → W.heap.size ≤ W'.heap.size → (∀ k, B k → W'.heap[k]? = W.heap[k]?) → J s B W'
  lt : ∀ s B W, J s B W → ∀ k, B k → k < W.heap.size

/-- What one call of yield may do: it writes the caller's blocks and new ones. -/
def Yields {α : Type} (J Jx : List α → (Nat → Prop) → World → Prop) (xs : List α) (B : Nat → Prop) (W : World) (e : Ending) (W' : World) : Prop :=
  ∃ B' : Nat → Prop, (∀ k, B' k → B k ∨ W.heap.size ≤ k) ∧ Mod B W W' ∧ ((e = .returned (.bool true) ∧ J xs B' W') ∨ (e = .returned (.bool false) ∧ Jx xs B' W'))

/-- An iterator that yields ys, in order, till it is told to stop; it reads blocks of Rd, and writes what it has made itself. -/
def Runs {α : Type} (P : Program) (gf : Nat) (lb : Array Value) (encs : α → Array Value) (ys : List α) (w0 : World) (Rd : Nat → Prop) : Prop :=
  ∀ (l : Nat) (J Jx : List α → (Nat → Prop) → World → Prop) (B0 : Nat → Prop), Steady J → Steady Jx →
    (∀ pre x rest B W, ys = pre ++ x :: rest → J pre B W → (∀ k, Rd k → W.heap[k]? = w0.heap[k]?) → YieldAt Fence.wide 0 P l (encs x) W (Yields J Jx (pre ++ [x]) B W)) →
    (∀ k, Rd k → ¬ B0 k ∧ k < w0.heap.size) → J [] B0 w0 →
    CallsIn Fence.wide 0 P gf (#[.func (.yield l) #[] #[]] ++ lb) w0 fun e W' => (∃ v, e = .returned v) ∧
      ∃ B' : Nat → Prop, (∀ k, B' k → B0 k ∨ w0.heap.size ≤ k) ∧ Mod B0 w0 W' ∧ (J ys B' W' ∨ ∃ pre, pre <+: ys ∧ Jx pre B' W')

/-- How a round of the caller's may end. -/
def RoundEnds {α : Type} (I : List α → (Nat → Prop) → World → Prop) (Ix : Code → List α → (Nat → Prop) → World → Prop) (xs : List α) (B : Nat → Prop) (W : World) : Exit → Act → World → Prop
  | .normal, _, W' => ∃ B' : Nat → Prop, (∀ k, B' k → B k ∨ W.heap.size ≤ k) ∧ Mod B W W' ∧ I xs B' W'
  | .ret, _, W' => ∃ B' : Nat → Prop, (∀ k, B' k → B k ∨ W.heap.size ≤ k) ∧ Mod B W W' ∧ Ix .ret xs B' W'
  | .exit id, _, W' => ∃ B' : Nat → Prop, (∀ k, B' k → B k ∨ W.heap.size ≤ k) ∧ Mod B W W' ∧ Ix (.exit id) xs B' W'
  | .goto t, _, W' => ∃ B' : Nat → Prop, (∀ k, B' k → B k ∨ W.heap.size ≤ k) ∧ Mod B W W' ∧ Ix (.goto t) xs B' W'
  | _, _, _ => False

theorem Mod.putObj {B : Nat → Prop} {a w : World} (h : Mod B a w) {l : Nat} (hl : l < a.heap.size → B l) (o : Obj) : Mod B a (w.putObj l o) :=
  ⟨h.os, h.tape, h.output, by simpa using h.size, fun k hk hB => (World.putObj_heap_other (fun e => hB (by subst e; exact hl hk))).trans (h.block k hk hB)⟩

theorem range_wp {P : Program} {α : Type} {g : Operand} {ps : Array Tmp} {assign body : Code} {Q : Exit → Act → World → Prop} {a : Act} {w : World}
    {gf : Nat} {lb : Array Value} (hg : a.eval g = .func (.func gf) #[] lb) (eg : ∀ args w, (callFunc gf args).run P w = .ok (.enter gf args) w)
    {encs : α → Array Value} {ys : List α} {Rd : Nat → Prop} (hseq : ∀ W, Below w.heap.size w W → Runs P gf lb encs ys W Rd) (hps : ∀ x, (encs x).size = ps.size)
    (I : List α → (Nat → Prop) → World → Prop) (Ix : Code → List α → (Nat → Prop) → World → Prop) (hI : Steady I) (hIx : ∀ c, Steady (Ix c)) (B0 : Nat → Prop) (h0 : I [] B0 w) (hRd : ∀ k, Rd k → ¬ B0 k ∧ k < w.heap.size) (a₁ : α → Act)
    (hassign : ∀ (l : Nat) (x : α) (W : World) (K : Act → World → Prop), K (a₁ x) W →
      assign.wpIn (Fence.wide.inRound l) 0 P (Exit.then K (fun _ _ _ => False)) { tmps := (ps.zip (encs x)).foldl (fun t (p, v) => t.setIfInBounds p v) a.tmps, defers := [] } W)
    (hbody : ∀ (l : Nat) (pre : List α) (x : α) (rest : List α) (B : Nat → Prop) (W : World), ys = pre ++ x :: rest → I pre B W → (∀ k, Rd k → W.heap[k]? = w.heap[k]?) → body.wpIn (Fence.wide.inRound l) 0 P (RoundEnds I Ix (pre ++ [x]) B W) (a₁ x) W)
    (hdone : ∀ (B : Nat → Prop) (W : World), I ys B W → Mod B0 w W → W.heap[w.heap.size]? = some (.deferred (some [])) → ¬ B w.heap.size → (∀ k, B k → B0 k ∨ w.heap.size ≤ k) → Q .normal { a with defers := { target := .collected w.heap.size, args := #[] } :: a.defers } W)
    (hstop : ∀ (c : Code) (pre : List α) (B : Nat → Prop) (W : World), pre <+: ys → Ix c pre B W → Mod B0 w W → W.heap[w.heap.size]? = some (.deferred (some [])) → ¬ B w.heap.size → (∀ k, B k → B0 k ∨ w.heap.size ≤ k) → c.wpIn Fence.wide 0 P Q { a with defers := { target := .collected w.heap.size, args := #[] } :: a.defers } W) :
    (Code.rangeFunc g ps assign body).wpIn Fence.wide 0 P Q a w := by
  refine wpIn_rangeFunc ?_
  intro fn hfn
  obtain ⟨rec, hrec⟩ : ∃ rec : LoopState → Option Code → Loop, rec = fun st pe => { state := st, pending := pe, fn, tmps := a.tmps, params := ps, assign, body, defers := w.heap.size } := ⟨_, rfl⟩
  obtain ⟨W1, hW1⟩ : ∃ W1, (w.alloc (.deferred (some []))).alloc (.loop (rec .ready none)) = W1 := ⟨_, rfl⟩
  have hL1 : W1.heap[w.heap.size + 1]? = some (.loop (rec .ready none)) := by
    rw [← hW1]; have := World.alloc_heap_new (w.alloc (.deferred (some []))) (.loop (rec .ready none)); rwa [World.size_alloc] at this
  have hK1 : W1.heap[w.heap.size]? = some (.deferred (some [])) := by
    rw [← hW1]; exact (Below.heap_alloc _ _ _ (by simp)).trans (World.alloc_heap_new w _)
  have hb1 : Below w.heap.size w W1 := by
    rw [← hW1]; exact (((Below.refl _ w).alloc (Nat.le_refl _) _).alloc (by simp) _)
  have hs1 : W1.heap.size = w.heap.size + 2 := by rw [← hW1]; simp
  refine ⟨w.heap.size + 1, [{ target := .collected w.heap.size, args := #[] }], W1, { target := .fn (.func gf) lb, args := #[.func (.yield (w.heap.size + 1)) #[] #[]] }, W1, gf,
    #[.func (.yield (w.heap.size + 1)) #[] #[]] ++ lb, W1, ?_, ?_, fun _ _ => trivial, ?_, fun h => by simp [Fence.wide] at h, ?_⟩
  · rw [← hW1, hrec]; exact run_enterLoop_outer _ _ _ _ _
  · simp only [resolve, hg]
    simp [go_sem]
  · simp [invoke, go_sem, eg]
  · -- the caller's blocks, with the record and the block of deferred calls
    have hI1 : I [] B0 W1 := hI.keep _ _ _ _ h0 hb1.size (fun k hk => hb1.block k (hI.lt _ _ _ h0 k hk))
    let J : List α → (Nat → Prop) → World → Prop := fun pre B W => ∃ Bc : Nat → Prop, (∀ k, B k ↔ (Bc k ∨ k = w.heap.size ∨ k = w.heap.size + 1)) ∧ ¬ Bc w.heap.size ∧ ¬ Bc (w.heap.size + 1) ∧ I pre Bc W ∧
      W.heap[w.heap.size + 1]? = some (.loop (rec .ready none)) ∧ W.heap[w.heap.size]? = some (.deferred (some []))
    let Jx : List α → (Nat → Prop) → World → Prop := fun pre B W => ∃ (Bc : Nat → Prop) (c : Code), (∀ k, B k ↔ (Bc k ∨ k = w.heap.size ∨ k = w.heap.size + 1)) ∧ ¬ Bc w.heap.size ∧ ¬ Bc (w.heap.size + 1) ∧ Ix c pre Bc W ∧
      W.heap[w.heap.size + 1]? = some (.loop (rec .done (some c))) ∧ W.heap[w.heap.size]? = some (.deferred (some []))
    have hJ : Steady J := by
      constructor
      · rintro s B W W' ⟨Bc, he, h1, h2, h3, h4, h5⟩ hsz hk
        exact ⟨Bc, he, h1, h2, hI.keep _ _ _ _ h3 hsz (fun k hk' => hk k ((he k).2 (.inl hk'))), (hk _ ((he _).2 (.inr (.inr rfl)))).trans h4, (hk _ ((he _).2 (.inr (.inl rfl)))).trans h5⟩
      · rintro s B W ⟨Bc, he, h1, h2, h3, h4, h5⟩ k hk
        rcases (he k).1 hk with h | h | h
        · exact hI.lt _ _ _ h3 k h
        · subst h; exact (Array.getElem?_eq_some_iff.1 h5).1
        · subst h; exact (Array.getElem?_eq_some_iff.1 h4).1
    have hJx : Steady Jx := by
      constructor
      · rintro s B W W' ⟨Bc, c, he, h1, h2, h3, h4, h5⟩ hsz hk
        exact ⟨Bc, c, he, h1, h2, (hIx c).keep _ _ _ _ h3 hsz (fun k hk' => hk k ((he k).2 (.inl hk'))), (hk _ ((he _).2 (.inr (.inr rfl)))).trans h4, (hk _ ((he _).2 (.inr (.inl rfl)))).trans h5⟩
      · rintro s B W ⟨Bc, c, he, h1, h2, h3, h4, h5⟩ k hk
        rcases (he k).1 hk with h | h | h
        · exact (hIx c).lt _ _ _ h3 k h
        · subst h; exact (Array.getElem?_eq_some_iff.1 h5).1
        · subst h; exact (Array.getElem?_eq_some_iff.1 h4).1
    have hlt0 : ∀ k, B0 k → k < w.heap.size := hI.lt _ _ _ h0
    refine (hseq W1 hb1 (w.heap.size + 1) J Jx (fun k => B0 k ∨ k = w.heap.size ∨ k = w.heap.size + 1) hJ hJx ?_ ?_ ?_).mono ?_
    · -- one round
      rintro pre x rest B W hys ⟨Bc, he, hn1, hn2, hi, hl, hk⟩ hrd
      have hlt : w.heap.size + 1 < W.heap.size := (Array.getElem?_eq_some_iff.1 hl).1
      have hy := run_yield (P := P) (args := encs x) hl (by rw [hrec]; exact hps x)
      rw [hrec] at hy
      refine ⟨fn, _, assign, body, hy, roundIn_of_wpIn hfn (hassign _ x W _ ⟨_, run_beginRound hl (by rw [hrec]), ?_⟩)⟩
      have hl2 : (W.putObj (w.heap.size + 1) (.loop { rec .ready none with state := .busy })).heap[w.heap.size + 1]? = some (.loop { rec .ready none with state := .busy }) := World.putObj_heap_same hlt
      have hk2 : (W.putObj (w.heap.size + 1) (.loop { rec .ready none with state := .busy })).heap[w.heap.size]? = some (.deferred (some [])) := (World.putObj_heap_other (by omega)).trans hk
      have hi2 : I pre Bc (W.putObj (w.heap.size + 1) (.loop { rec .ready none with state := .busy })) := hI.keep _ _ _ _ hi (by simp) (fun k hk' => World.putObj_heap_other (fun e => hn2 (e ▸ hk')))
      refine wpIn_mono (hbody _ pre x rest Bc _ hys hi2 (fun k hk' => (World.putObj_heap_other (fun e => by have := (hRd k hk').2; omega)).trans ((hrd k hk').trans (hb1.block k (hRd k hk').2)))) ?_
      have fin : ∀ (jump : Option Code) (W3 : World) (B' : Nat → Prop), (∀ k, B' k → Bc k ∨ (W.putObj (w.heap.size + 1) (.loop { rec .ready none with state := .busy })).heap.size ≤ k) → Mod Bc (W.putObj (w.heap.size + 1) (.loop { rec .ready none with state := .busy })) W3 →
          (Instr.endRound (w.heap.size + 1) jump).run P W3 = .ok (.bool jump.isNone) (W3.putObj (w.heap.size + 1) (.loop (rec (if jump.isNone then .ready else .done) jump))) ∧
          (W3.putObj (w.heap.size + 1) (.loop (rec (if jump.isNone then .ready else .done) jump))).heap[w.heap.size + 1]? = some (.loop (rec (if jump.isNone then .ready else .done) jump)) ∧
          (W3.putObj (w.heap.size + 1) (.loop (rec (if jump.isNone then .ready else .done) jump))).heap[w.heap.size]? = some (.deferred (some [])) ∧
          ¬ B' w.heap.size ∧ ¬ B' (w.heap.size + 1) ∧ Mod B W (W3.putObj (w.heap.size + 1) (.loop (rec (if jump.isNone then .ready else .done) jump))) ∧
          (∀ k, (B' k ∨ k = w.heap.size ∨ k = w.heap.size + 1) → B k ∨ W.heap.size ≤ k) := fun jump W3 B' hsub hm => by
        have hl3 : W3.heap[w.heap.size + 1]? = some (.loop { rec .ready none with state := .busy }) := (hm.block _ (by simpa using hlt) hn2).trans hl2
        have hk3 : W3.heap[w.heap.size]? = some (.deferred (some [])) := (hm.block _ (by simp; omega) hn1).trans hk2
        have hr := run_endRound (P := P) jump hl3
        have hns : ∀ k, k < W.heap.size → ¬ Bc k → ¬ B' k := fun k hk' hn hb => by
          rcases hsub k hb with h | h
          · exact hn h
          · simp at h; omega
        rw [hrec] at hr hl3 ⊢
        refine ⟨hr, World.putObj_heap_same (Array.getElem?_eq_some_iff.1 hl3).1, (World.putObj_heap_other (by omega)).trans hk3, hns _ (by omega) hn1, hns _ (by omega) hn2, ?_, ?_⟩
        · refine Mod.putObj ?_ (fun _ => (he _).2 (.inr (.inr rfl))) _
          refine (Mod.putObj (Mod.refl B W) (fun _ => (he _).2 (.inr (.inr rfl))) _).trans hm (fun k _ hk' => (he k).2 (.inl hk'))
        · rintro k (hb | rfl | rfl)
          · rcases hsub k hb with h | h
            · exact .inl ((he k).2 (.inl h))
            · exact .inr (by simpa using h)
          · exact .inl ((he _).2 (.inr (.inl rfl)))
          · exact .inl ((he _).2 (.inr (.inr rfl)))
      have keepI : ∀ {β : Type} {K : β → (Nat → Prop) → World → Prop} (_ : Steady K) {s : β} {B' : Nat → Prop} {W3 : World} {o : Obj}, K s B' W3 → ¬ B' (w.heap.size + 1) → K s B' (W3.putObj (w.heap.size + 1) o) := fun hK _ _ _ _ hs hn =>
        hK.keep _ _ _ _ hs (by simp) (fun k hk' => World.putObj_heap_other (fun e => hn (e ▸ hk')))
      rintro e a3 W3 hp
      cases e with
      | normal =>
        obtain ⟨B', hsub, hm, hi3⟩ := hp
        obtain ⟨hr, hl4, hk4, hn3, hn4, hm4, hs4⟩ := fin none W3 B' hsub hm
        exact ⟨_, _, hr, fun k => B' k ∨ k = w.heap.size ∨ k = w.heap.size + 1, hs4, hm4, .inl ⟨rfl, B', fun _ => Iff.rfl, hn3, hn4, keepI hI hi3 hn4, hl4, hk4⟩⟩
      | ret =>
        obtain ⟨B', hsub, hm, hi3⟩ := hp
        obtain ⟨hr, hl4, hk4, hn3, hn4, hm4, hs4⟩ := fin (some .ret) W3 B' hsub hm
        exact ⟨_, _, hr, fun k => B' k ∨ k = w.heap.size ∨ k = w.heap.size + 1, hs4, hm4, .inr ⟨rfl, B', .ret, fun _ => Iff.rfl, hn3, hn4, keepI (hIx _) hi3 hn4, hl4, hk4⟩⟩
      | exit id =>
        obtain ⟨B', hsub, hm, hi3⟩ := hp
        obtain ⟨hr, hl4, hk4, hn3, hn4, hm4, hs4⟩ := fin (some (.exit id)) W3 B' hsub hm
        exact ⟨_, _, hr, fun k => B' k ∨ k = w.heap.size ∨ k = w.heap.size + 1, hs4, hm4, .inr ⟨rfl, B', .exit id, fun _ => Iff.rfl, hn3, hn4, keepI (hIx _) hi3 hn4, hl4, hk4⟩⟩
      | goto t =>
        obtain ⟨B', hsub, hm, hi3⟩ := hp
        obtain ⟨hr, hl4, hk4, hn3, hn4, hm4, hs4⟩ := fin (some (.goto t)) W3 B' hsub hm
        exact ⟨_, _, hr, fun k => B' k ∨ k = w.heap.size ∨ k = w.heap.size + 1, hs4, hm4, .inr ⟨rfl, B', .goto t, fun _ => Iff.rfl, hn3, hn4, keepI (hIx _) hi3 hn4, hl4, hk4⟩⟩
      | panic ch => exact hp.elim
      | outgrown => exact hp.elim
    · intro k hk
      obtain ⟨h1, h2⟩ := hRd k hk
      refine ⟨?_, by omega⟩
      rintro (h | h | h)
      · exact h1 h
      · omega
      · omega
    · exact ⟨B0, fun _ => Iff.rfl, fun h => by have := hlt0 _ h; omega, fun h => by have := hlt0 _ h; omega, hI1, hL1, hK1⟩
    · -- behind the iterator
      rintro e W2 ⟨⟨v, rfl⟩, B', hsub, hm, hh⟩
      have hmw : Mod B0 w W2 := (Mod.of_new hb1).trans hm (fun i hi h => by
        rcases h with h | h | h
        · exact h
        · omega
        · omega)
      have hmp : ∀ o, Mod B0 w (W2.putObj (w.heap.size + 1) o) := fun o => hmw.putObj (fun h => by omega) o
      have hsub' : ∀ k, B' k → B0 k ∨ w.heap.size ≤ k := fun k hk => by
        rcases hsub k hk with (h | h | h) | h
        · exact .inl h
        · exact .inr (by omega)
        · exact .inr (by omega)
        · exact .inr (by omega)
      rcases hh with ⟨Bc, he, hn1, hn2, hi, hl, hk⟩ | ⟨pre, hpre, Bc, c, he, hn1, hn2, hi, hl, hk⟩
      · refine ⟨none, _, by have := run_endLoop (P := P) hl (by rw [hrec]; simp); rw [hrec] at this; exact this, hdone Bc _ ?_ (hmp _) ((World.putObj_heap_other (by omega)).trans hk) hn1 (fun k hk' => hsub' k ((he k).2 (.inl hk')))⟩
        exact hI.keep _ _ _ _ hi (by simp) (fun k hk' => World.putObj_heap_other (fun e => hn2 (e ▸ hk')))
      · refine ⟨some c, _, by have := run_endLoop (P := P) hl (by rw [hrec]; simp); rw [hrec] at this; exact this, hstop c pre Bc _ hpre ?_ (hmp _) ((World.putObj_heap_other (by omega)).trans hk) hn1 (fun k hk' => hsub' k ((he k).2 (.inl hk')))⟩
        exact (hIx c).keep _ _ _ _ hi (by simp) (fun k hk' => World.putObj_heap_other (fun e => hn2 (e ▸ hk')))

end Go.Proofs.Ytnbghiaggapoiaa
