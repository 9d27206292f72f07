/- Words that all proofs of this seat use: which blocks a call may have written (Mod), whole blocks, sets of bytes. No program in sight. -/
import Derived.WalkKit
import Derived.WalkSpells
import Derived.WalkLawsBesides
import Derived.Lib.Hide
import Derived.StillTailTactics
namespace Go.Proofs.Ytnbghiaggapoiaa
set_option linter.unusedSimpArgs false
set_option linter.unusedVariables false
open Go.RowKit

/-- Of the blocks that lie in w only those of B may have turned on the way to w'. -/
structure Mod (B : Nat → Prop) (w w' : World) : Prop where
  os : w'.os = w.os
  tape : w'.tape = w.tape
  output : w'.output = w.output
  size : w.heap.size ≤ w'.heap.size
  block : ∀ k, k < w.heap.size → ¬ B k → w'.heap[k]? = w.heap[k]?

theorem Mod.refl (B : Nat → Prop) (w : World) : Mod B w w := ⟨rfl, rfl, rfl, Nat.le_refl _, fun _ _ _ => rfl⟩

theorem Mod.trans {B B' : Nat → Prop} {a b c : World} (h : Mod B a b) (k : Mod B' b c) (hs : ∀ i, i < a.heap.size → B' i → B i) : Mod B a c :=
  ⟨k.os.trans h.os, k.tape.trans h.tape, k.output.trans h.output, Nat.le_trans h.size k.size, fun i hi hB =>
    (k.block i (Nat.lt_of_lt_of_le hi h.size) (fun h' => hB (hs i hi h'))).trans (h.block i hi hB)⟩

theorem Mod.mono {B B' : Nat → Prop} {a b : World} (h : Mod B a b) (hs : ∀ i, i < a.heap.size → B i → B' i) : Mod B' a b :=
  ⟨h.os, h.tape, h.output, h.size, fun i hi hB => h.block i hi (fun h' => hB (hs i hi h'))⟩

theorem Mod.of_below {B : Nat → Prop} {n : Nat} {a b : World} (h : Below n a b) (hB : ∀ i, i < a.heap.size → n ≤ i → B i) : Mod B a b :=
  ⟨h.os, h.tape, h.output, h.size, fun i hi hn => h.block i (Nat.lt_of_not_le (fun h' => hn (hB i hi h')))⟩

theorem Mod.of_new {B : Nat → Prop} {a b : World} (h : Below a.heap.size a b) : Mod B a b := .of_below h (fun i hi h' => absurd hi (Nat.not_lt_of_le h'))

theorem Mod.below {B : Nat → Prop} {n : Nat} {a b : World} (h : Mod B a b) (hn : n ≤ a.heap.size) (hB : ∀ i, i < n → ¬ B i) : Below n a b :=
  ⟨h.os, h.tape, h.output, h.size, fun i hi => h.block i (Nat.lt_of_lt_of_le hi hn) (hB i hi)⟩

theorem Mod.drew {B : Nat → Prop} {a w : World} (h : Mod B a w) : Mod B a w.drew := ⟨h.os, h.tape, h.output, h.size, h.block⟩
theorem Mod.drewN {B : Nat → Prop} {a w : World} (h : Mod B a w) (n : Nat) : Mod B a (w.drewN n) := by
  induction n with
  | zero => exact h
  | succ n ih => exact ⟨ih.os, ih.tape, ih.output, ih.size, ih.block⟩

theorem Mod.alloc {B : Nat → Prop} {a w : World} (h : Mod B a w) (o : Obj) : Mod B a (w.alloc o) :=
  h.trans (.of_new ((Below.refl _ w).alloc (Nat.le_refl _) o)) (fun _ _ h => h)

theorem Mod.setCell {B : Nat → Prop} {a w : World} (h : Mod B a w) {p : Addr} (hp : p.block < a.heap.size → B p.block) (u : Value) : Mod B a (w.setCell p u) :=
  ⟨h.os, h.tape, h.output, by simpa [World.setCell] using h.size, fun k hk hB =>
    (Below.heap_setCell _ _ _ _ (fun e => hB (by subst e; exact hp hk))).trans (h.block k hk hB)⟩

theorem Mod.grown {B : Nat → Prop} {a w w' : World} {row : Option Nat} (h : Mod B a w) (hg : w.grownBy w' row) (hr : ∀ k, row = some k → k < a.heap.size → B k) : Mod B a w' :=
  ⟨hg.os.trans h.os, hg.tape.trans h.tape, hg.output.trans h.output, Nat.le_trans h.size hg.size, fun k hk hB =>
    (hg.block k (Nat.lt_of_lt_of_le hk h.size) (fun e => hB (hr k e.symm hk))).trans (h.block k hk hB)⟩

theorem Mod.cell {B : Nat → Prop} {a b : World} (h : Mod B a b) {p : Addr} (hp : p.block < a.heap.size) (hB : ¬ B p.block) : b.cell? p = a.cell? p := World.cell?_of_block (w := a) (h.block _ hp hB)
theorem Mod.frozen {B : Nat → Prop} {a b : World} (h : Mod B a b) {p : Addr} (hp : p.block < a.heap.size) (hB : ¬ B p.block) : b.frozen? p = a.frozen? p := World.frozen?_of_block (w := a) (h.block _ hp hB)

/-- A block known whole, nothing of it frozen. -/
def Blk (w : World) (b : Nat) (vs : List Value) (t : TypeId) : Prop := w.heap[b]? = some (.cells vs.toArray t (0, 0))

theorem Blk.lt {w : World} {b : Nat} {vs : List Value} {t : TypeId} (h : Blk w b vs t) : b < w.heap.size := (Array.getElem?_eq_some_iff.1 h).1
theorem Blk.cell {w : World} {b : Nat} {vs : List Value} {t : TypeId} (h : Blk w b vs t) (i : Nat) {v : Value} (hv : vs[i]? = some v) : w.cell? ⟨b, i, none⟩ = some v := by
  simp only [Blk] at h
  simp [World.cell?, h, hv]
theorem Blk.free {w : World} {b : Nat} {vs : List Value} {t : TypeId} (h : Blk w b vs t) (i : Nat) : w.frozen? ⟨b, i, none⟩ = false := by
  simp only [Blk] at h
  simp [World.frozen?, h]
theorem Blk.set {w : World} {b : Nat} {vs : List Value} {t : TypeId} (h : Blk w b vs t) (i : Nat) (v : Value) : Blk (w.setCell ⟨b, i, none⟩ v) b (vs.set i v) t := by
  have hlt := h.lt
  simp only [Blk] at h ⊢
  simp only [World.setCell]
  rw [Array.getElem?_modify]
  simp [h]
theorem Blk.kept {w w' : World} {b : Nat} {vs : List Value} {t : TypeId} (h : Blk w b vs t) (e : w'.heap[b]? = w.heap[b]?) : Blk w' b vs t := by
  simp only [Blk] at h ⊢; rw [e, h]
theorem Blk.mod {B : Nat → Prop} {w w' : World} {b : Nat} {vs : List Value} {t : TypeId} (h : Blk w b vs t) (m : Mod B w w') (hB : ¬ B b) : Blk w' b vs t := h.kept (m.block b h.lt hB)
theorem Blk.below {n : Nat} {w w' : World} {b : Nat} {vs : List Value} {t : TypeId} (h : Blk w b vs t) (m : Below n w w') (hB : b < n) : Blk w' b vs t := h.kept (m.block b hB)
theorem Blk.new (w : World) (vs : List Value) (t : TypeId) : Blk (w.alloc (.cells vs.toArray t)) w.heap.size vs t := heap_alloc_new w _
theorem Blk.alloc {w : World} {b : Nat} {vs : List Value} {t : TypeId} (h : Blk w b vs t) (o : Obj) : Blk (w.alloc o) b vs t := h.kept (Below.heap_alloc w o b h.lt)
theorem Blk.setOther {w : World} {b : Nat} {vs : List Value} {t : TypeId} (h : Blk w b vs t) {p : Addr} (hp : b ≠ p.block) (u : Value) : Blk (w.setCell p u) b vs t := h.kept (Below.heap_setCell _ _ _ _ hp)
theorem Blk.drew {w : World} {b : Nat} {vs : List Value} {t : TypeId} (h : Blk w b vs t) : Blk w.drew b vs t := h

theorem heap_alloc_at {w : World} {o : Obj} {n : Nat} (h : w.heap.size = n) : (w.alloc o).heap[n]? = some o := by subst h; exact heap_alloc_new w o

/-- A region that draws its order: n operations that read, then a tail in one forced order. -/
theorem region_tail {P : Program} {id : Nat} {Q : Exit → Act → World → Prop} {a : Act} {w : World} {l : List Oper} (n : Nat) (hm : P.follows .mixedOrders = true) (hB : Region.lexTailB .any l.toArray n = true)
    (h : wpStill P l.toArray w.drew (fun a' => wpList P l.toArray Q (l.drop n) a' w.drew) (l.take n) a) : (Code.region id l.toArray true).wp P Q a w :=
  wp_region_still_tail n hm hB h

theorem ret_bool {a b : Bool} (h : a = b) : Ending.returned (.bool a) = .returned (.bool b) := by rw [h]
theorem ret_int {k : IntKind} {a b : Int} (h : a = b) : Ending.returned (.int k a) = .returned (.int k b) := by rw [h]
end Go.Proofs.Ytnbghiaggapoiaa
