/- Package regex, the parser: how it lies in memory; state, to, peek, is, take, fail. -/
import Derived.Test.YtnbghiaggapoiaaProg
import Derived.Test.YtnbghiaggapoiaaBits
import Derived.Test.YtnbghiaggapoiaaRx
import Derived.Deep.RegionHeld3
import Derived.Deep.AppendLies
import Derived.BigRegion
import Derived.StillTailTactics
import Derived.Deep.RegionLaw
namespace Go.Proofs.Ytnbghiaggapoiaa
set_option linter.unusedSimpArgs false
set_option linter.unusedVariables false
open Go.RowKit Go.Proofs
open Rx (NS)

/-- A state's cells: takes, four words, the slice of what is next. -/
structure SC where
  takes : Bool
  a0 : Nat
  a1 : Nat
  a2 : Nat
  a3 : Nat
  nv : Value
def SC.cells (s : SC) : List Value := [.bool s.takes, .int .u64 s.a0, .int .u64 s.a1, .int .u64 s.a2, .int .u64 s.a3, s.nv]
def SC.val (s : SC) : Value := .agg #[.bool s.takes, .int .u64 s.a0, .int .u64 s.a1, .int .u64 s.a2, .int .u64 s.a3, s.nv]
def SC.blk (s : SC) : List Nat := s.nv.ownBlock.toList

def ints (l : List Nat) : List Value := l.map fun (n : Nat) => .int .i64 (n : Int)

structure SRep (w : World) (base : Nat) (sc : SC) (ns : NS) : Prop where
  takes : sc.takes = ns.takes
  set : IsSet sc.a0 sc.a1 sc.a2 sc.a3 ns.set
  next : w.ownsRow base 3 1 sc.nv ns.next.length (ints ns.next)

/-- The states' slice: its own row and that of each state, all apart: F. -/
structure StRep (w : World) (base : Nat) (sv : Value) (scs : List SC) (sts : List NS) (F : List Nat) : Prop where
  row : w.ownsRow base 70 6 sv scs.length (scs.flatMap SC.cells)
  len : scs.length = sts.length
  each : ∀ (i : Nat) (sc : SC) (ns : NS), scs[i]? = some sc → sts[i]? = some ns → SRep w base sc ns
  blocks : F = sv.ownBlock.toList ++ scs.flatMap SC.blk
  apart : F.Nodup

/-- The parser at block p: the text, the place, how deep, the states. -/
structure PAt (w : World) (base p : Nat) (s : ByteArray) (i d : Nat) (sts : List NS) (F : List Nat) : Prop where
  ex : ∃ sv scs G, Blk w p [.string s, .int .i64 i, .int .i64 d, sv] 47 ∧ StRep w base sv scs sts G ∧ F = p :: G ∧ p ∉ G ∧ base ≤ p

theorem flat_cells_length (scs : List SC) : (scs.flatMap SC.cells).length = scs.length * 6 := by
  induction scs with
  | nil => rfl
  | cons x l ih => simp [SC.cells, ih]; omega

theorem flat_cells_get {scs : List SC} {i : Nat} {sc : SC} (h : scs[i]? = some sc) (j : Nat) (hj : j < 6) : (scs.flatMap SC.cells)[i * 6 + j]? = sc.cells[j]? := by
  induction scs generalizing i with
  | nil => simp at h
  | cons x l ih =>
    cases i with
    | zero =>
      simp at h; subst h
      simp only [List.flatMap_cons]
      rw [List.getElem?_append_left (by simp [SC.cells]; omega)]
      simp
    | succ i =>
      simp at h
      simp only [List.flatMap_cons]
      rw [List.getElem?_append_right (by simp [SC.cells]; omega)]
      have : (i + 1) * 6 + j - x.cells.length = i * 6 + j := by simp [SC.cells]; omega
      rw [this]; exact ih h

theorem mem_opt {o : Option Nat} {k : Nat} : k ∈ o.toList ↔ o = some k := by cases o <;> simp [eq_comm]

theorem StRep.lt {w : World} {base : Nat} {sv : Value} {scs : List SC} {sts : List NS} {F : List Nat} (h : StRep w base sv scs sts F) : ∀ k ∈ F, base ≤ k ∧ k < w.heap.size := by
  intro k hk
  rw [h.blocks] at hk
  rcases List.mem_append.1 hk with hk | hk
  · exact h.row.lt k (mem_opt.1 hk)
  · obtain ⟨sc, hsc, hk⟩ := List.mem_flatMap.1 hk
    obtain ⟨i, hi⟩ := List.getElem?_of_mem hsc
    have hlt : i < scs.length := (List.getElem?_eq_some_iff.1 hi).1
    have hlt' : i < sts.length := h.len ▸ hlt
    exact (h.each i sc sts[i] hi (List.getElem?_eq_getElem hlt')).next.lt k (mem_opt.1 hk)

theorem PAt.lt {w : World} {base p : Nat} {s : ByteArray} {i d : Nat} {sts : List NS} {F : List Nat} (h : PAt w base p s i d sts F) : ∀ k ∈ F, base ≤ k ∧ k < w.heap.size := by
  obtain ⟨sv, scs, G, hb, hst, rfl, hp, hbase⟩ := h.ex
  intro k hk
  rcases List.mem_cons.1 hk with rfl | hk
  · exact ⟨hbase, hb.lt⟩
  · exact hst.lt k hk

theorem ownsRow_eq {w w' : World} {base : Nat} {e : TypeId} {size : Nat} {v : Value} {n : Nat} {xs : List Value} (h : w.ownsRow base e size v n xs) (hk : ∀ k, v.ownBlock = some k → w'.heap[k]? = w.heap[k]?) : w'.ownsRow base e size v n xs := by
  refine ⟨h.1, ?_⟩
  rcases h.2 with hn | ⟨g, cap, cur, rfl, hb, hgg, rest⟩
  · exact .inl hn
  · exact .inr ⟨g, cap, cur, rfl, hb, (hk g rfl).trans hgg, rest⟩

theorem StRep.kept {w w' : World} {base : Nat} {sv : Value} {scs : List SC} {sts : List NS} {F : List Nat} (h : StRep w base sv scs sts F) (hk : ∀ k ∈ F, w'.heap[k]? = w.heap[k]?) : StRep w' base sv scs sts F := by
  refine ⟨ownsRow_eq h.row (fun k e => hk k ?_), h.len, fun i sc ns h1 h2 => ?_, h.blocks, h.apart⟩
  · rw [h.blocks]; exact List.mem_append.2 (.inl (mem_opt.2 e))
  · have := h.each i sc ns h1 h2
    refine ⟨this.takes, this.set, ownsRow_eq this.next (fun k e => hk k ?_)⟩
    rw [h.blocks]
    exact List.mem_append.2 (.inr (List.mem_flatMap.2 ⟨sc, List.mem_of_getElem? h1, mem_opt.2 e⟩))

theorem PAt.kept {w w' : World} {base p : Nat} {s : ByteArray} {i d : Nat} {sts : List NS} {F : List Nat} (h : PAt w base p s i d sts F) (hk : ∀ k ∈ F, w'.heap[k]? = w.heap[k]?) : PAt w' base p s i d sts F := by
  obtain ⟨sv, scs, G, hb, hst, rfl, hp, hbase⟩ := h.ex
  exact ⟨sv, scs, G, hb.kept (hk p (by simp)), hst.kept (fun k hk' => hk k (by simp [hk'])), rfl, hp, hbase⟩

theorem PAt.mod {B : Nat → Prop} {w w' : World} {base p : Nat} {s : ByteArray} {i d : Nat} {sts : List NS} {F : List Nat} (h : PAt w base p s i d sts F) (m : Mod B w w') (hB : ∀ k ∈ F, ¬ B k) : PAt w' base p s i d sts F :=
  h.kept (fun k hk => m.block k (h.lt k hk).2 (hB k hk))
theorem PAt.below {n : Nat} {w w' : World} {base p : Nat} {s : ByteArray} {i d : Nat} {sts : List NS} {F : List Nat} (h : PAt w base p s i d sts F) (m : Below n w w') (hB : ∀ k ∈ F, k < n) : PAt w' base p s i d sts F :=
  h.kept (fun k hk => m.block k (hB k hk))

theorem Try.infoState : (Try.prog.info? 70).map (fun i => (i.zero, i.size, i.bytes)) = some (some (.agg #[.bool false, .int .u64 0, .int .u64 0, .int .u64 0, .int .u64 0, .slice none 0 0]), 6, 64) := by kernel_rfl
theorem Try.infoInt : (Try.prog.info? 3).map (fun i => (i.zero, i.size, i.bytes)) = some (some (.int .i64 0), 1, 8) := by kernel_rfl

theorem own_oneCell {w : World} {base : Nat} {e : TypeId} {size : Nat} {v : Value} {n : Nat} {xs : List Value} (h : w.ownsRow base e size v n xs) : v.oneCell' = true := by
  rcases h.2 with ⟨rfl, _⟩ | ⟨g, cap, cur, rfl, _⟩ <;> rfl
theorem SRep.oneCells {w : World} {base : Nat} {sc : SC} {ns : NS} (h : SRep w base sc ns) : ∀ u ∈ sc.cells, u.oneCell' = true := by
  intro u hu
  have := own_oneCell h.next
  simp only [SC.cells, List.mem_cons, List.not_mem_nil, or_false] at hu
  rcases hu with rfl | rfl | rfl | rfl | rfl | rfl <;> first | rfl | exact this

/-- One state more. -/
theorem StRep.snoc {w w1 : World} {base : Nat} {sv : Value} {scs : List SC} {sts : List NS} {G : List Nat} {sc : SC} {ns : NS} {gg cap : Nat} (h : StRep w base sv scs sts G) (hs : SRep w base sc ns) (hn : ∀ k, sc.nv.ownBlock = some k → k ∉ G)
    (hown : w1.ownsRow base 70 6 (.slice (some ⟨gg, 0, none⟩) (scs.length + 1) cap) (scs.length + 1) (scs.flatMap SC.cells ++ sc.cells))
    (hk : ∀ k, k < w.heap.size → sv.ownBlock ≠ some k → w1.heap[k]? = w.heap[k]?) (hat : sv.ownBlock = some gg ∨ w.heap.size ≤ gg) :
    ∃ G', StRep w1 base (.slice (some ⟨gg, 0, none⟩) (scs.length + 1) cap) (scs ++ [sc]) (sts ++ [ns]) G' ∧ (∀ k ∈ G', k ∈ G ∨ w.heap.size ≤ k ∨ sc.nv.ownBlock = some k) := by
  have hlt := h.lt
  have hap := h.apart
  have hbl := h.blocks
  subst hbl
  have hapart := List.nodup_append.1 hap
  have hgg : gg ∉ scs.flatMap SC.blk ++ sc.blk := by
    intro hg
    rcases List.mem_append.1 hg with hg | hg
    · rcases hat with hat | hat
      · exact hapart.2.2 gg (mem_opt.2 hat) gg hg rfl
      · have := (hlt gg (List.mem_append.2 (.inr hg))).2; omega
    · rcases hat with hat | hat
      · exact hn gg (mem_opt.1 hg) (List.mem_append.2 (.inl (mem_opt.2 hat)))
      · have := (hs.next.lt gg (mem_opt.1 hg)).2; omega
  have hne : ∀ k, k ∈ scs.flatMap SC.blk ++ sc.blk → sv.ownBlock ≠ some k := by
    intro k hk' e
    rcases List.mem_append.1 hk' with hk' | hk'
    · exact hapart.2.2 k (mem_opt.2 e) k hk' rfl
    · exact hn k (mem_opt.1 hk') (List.mem_append.2 (.inl (mem_opt.2 e)))
  have hlt2 : ∀ k, k ∈ scs.flatMap SC.blk ++ sc.blk → k < w.heap.size := by
    intro k hk'
    rcases List.mem_append.1 hk' with hk' | hk'
    · exact (hlt k (List.mem_append.2 (.inr hk'))).2
    · exact (hs.next.lt k (mem_opt.1 hk')).2
  have keep : ∀ x : SC, x ∈ scs ++ [sc] → ∀ n, SRep w base x n → SRep w1 base x n := by
    intro x hx n hr
    refine ⟨hr.takes, hr.set, ownsRow_eq hr.next (fun k e => ?_)⟩
    have hm : k ∈ scs.flatMap SC.blk ++ sc.blk := by
      rcases List.mem_append.1 hx with hx | hx
      · exact List.mem_append.2 (.inl (List.mem_flatMap.2 ⟨x, hx, mem_opt.2 e⟩))
      · simp at hx; subst hx; exact List.mem_append.2 (.inr (mem_opt.2 e))
    exact hk k (hlt2 k hm) (hne k hm)
  refine ⟨gg :: (scs.flatMap SC.blk ++ sc.blk), ⟨?_, by simp [h.len], ?_, ?_, ?_⟩, ?_⟩
  · have e : (scs ++ [sc]).flatMap SC.cells = scs.flatMap SC.cells ++ sc.cells := by simp
    rw [e, List.length_append]; exact hown
  · intro i x n hx hn'
    rcases Nat.lt_or_ge i scs.length with hi | hi
    · rw [List.getElem?_append_left hi] at hx
      rw [List.getElem?_append_left (by rw [← h.len]; exact hi)] at hn'
      exact keep x (List.mem_append.2 (.inl (List.mem_of_getElem? hx))) n (h.each i x n hx hn')
    · rw [List.getElem?_append_right hi] at hx
      rw [List.getElem?_append_right (by rw [← h.len]; exact hi)] at hn'
      have hi0 : i - scs.length = 0 := by
        rcases Nat.eq_zero_or_pos (i - scs.length) with h0 | h0
        · exact h0
        · rw [List.getElem?_eq_none (by simp; omega)] at hx; cases hx
      rw [hi0] at hx
      rw [← h.len, hi0] at hn'
      simp at hx hn'; subst hx; subst hn'
      exact keep sc (by simp) ns hs
  · simp [Value.ownBlock, SC.blk]
  · refine List.nodup_cons.2 ⟨hgg, List.nodup_append.2 ⟨hapart.2.1, by unfold SC.blk; cases sc.nv.ownBlock <;> simp, ?_⟩⟩
    intro a ha b hb e
    subst e
    exact hn a (mem_opt.1 hb) (List.mem_append.2 (.inr ha))
  · intro k hk'
    rcases List.mem_cons.1 hk' with rfl | hk'
    · rcases hat with hat | hat
      · exact .inl (List.mem_append.2 (.inl (mem_opt.2 hat)))
      · exact .inr (.inl hat)
    · rcases List.mem_append.1 hk' with hk' | hk'
      · exact .inl (List.mem_append.2 (.inr hk'))
      · exact .inr (.inr (mem_opt.1 hk'))

/-- Behind the append: the new slice is stored into the parser. -/
theorem state_close {w w1 : World} {base p : Nat} {s : ByteArray} {i d : Nat} {sts : List NS} {F : List Nat} {sc : SC} {ns : NS} {sv : Value} {scs : List SC} {G : List Nat} {gg cap : Nat}
    (hb : Blk w p [.string s, .int .i64 i, .int .i64 d, sv] 47) (h : StRep w base sv scs sts G) (hF : F = p :: G) (hp : p ∉ G) (hbase : base ≤ p) (hs : SRep w base sc ns) (hn : ∀ k, sc.nv.ownBlock = some k → k ∉ F)
    (hown : w1.ownsRow base 70 6 (.slice (some ⟨gg, 0, none⟩) (scs.length + 1) cap) (scs.length + 1) (scs.flatMap SC.cells ++ sc.cells))
    (w0 : World) (h0 : Below w.heap.size w w0) (hg : w0.grownBy w1 sv.ownBlock) (hat : sv.ownBlock = some gg ∨ w.heap.size ≤ gg) :
    ∃ F', PAt (w1.setCell ⟨p, 3, none⟩ (.slice (some ⟨gg, 0, none⟩) (scs.length + 1) cap)) base p s i d (sts ++ [ns]) F' ∧
      Mod (· ∈ F) w (w1.setCell ⟨p, 3, none⟩ (.slice (some ⟨gg, 0, none⟩) (scs.length + 1) cap)) ∧ (∀ k ∈ F', k ∈ F ∨ w.heap.size ≤ k ∨ sc.nv.ownBlock = some k) := by
  subst hF
  have hk : ∀ k, k < w.heap.size → sv.ownBlock ≠ some k → w1.heap[k]? = w.heap[k]? := fun k hk hne => (hg.block k (Nat.lt_of_lt_of_le hk h0.size) (Ne.symm hne)).trans (h0.block k hk)
  obtain ⟨G', hst, hsub⟩ := h.snoc hs (fun k e hm => hn k e (List.mem_cons.2 (.inr hm))) hown hk hat
  have hps : sv.ownBlock ≠ some p := fun e => hp (by rw [h.blocks]; exact List.mem_append.2 (.inl (mem_opt.2 e)))
  have hpG' : p ∉ G' := by
    intro hm
    rcases hsub p hm with h1 | h1 | h1
    · exact hp h1
    · have := hb.lt; omega
    · exact hn p h1 (by simp)
  have hm1 : Mod (· ∈ p :: G) w w1 := by
    refine (Mod.of_new h0).trans (B' := fun k => sv.ownBlock = some k) ⟨hg.os, hg.tape, hg.output, hg.size, fun k hk hne => hg.block k hk (Ne.symm hne)⟩ (fun k _ e => ?_)
    exact List.mem_cons.2 (.inr (by rw [h.blocks]; exact List.mem_append.2 (.inl (mem_opt.2 e))))
  refine ⟨p :: G', ⟨.slice (some ⟨gg, 0, none⟩) (scs.length + 1) cap, scs ++ [sc], G', ?_, ?_, rfl, hpG', hbase⟩, hm1.setCell (fun _ => by simp) _, ?_⟩
  · exact (hb.kept (hk p hb.lt hps)).set 3 _
  · exact hst.kept (fun k hk' => Below.heap_setCell _ _ _ _ (fun e => hpG' (by subst e; exact hk')))
  · intro k hk'
    rcases List.mem_cons.1 hk' with rfl | hk'
    · exact .inl (by simp)
    · rcases hsub k hk' with h1 | h1 | h1
      · exact .inl (by simp [h1])
      · exact .inr (.inl h1)
      · exact .inr (.inr h1)

set_option maxRecDepth 100000 in
set_option maxHeartbeats 1000000 in
theorem state_any (w : World) (base p : Nat) (s : ByteArray) (i d : Nat) (sts : List NS) (F : List Nat) (sc : SC) (ns : NS) (hp : PAt w base p s i d sts F) (hs : SRep w base sc ns) (hn : ∀ k, sc.nv.ownBlock = some k → k ∉ F) (hlen : sts.length ≤ 1000000) :
    Calls Try.prog 29 #[.pointer (some ⟨p, 0, none⟩), sc.val] w fun e w' => e = .returned (.int .i64 (sts.length : Int)) ∧
      ∃ F', PAt w' base p s i d (sts ++ [ns]) F' ∧ Mod (· ∈ F) w w' ∧ (∀ k ∈ F', k ∈ F ∨ w.heap.size ≤ k ∨ sc.nv.ownBlock = some k) := by
  obtain ⟨i0, hi0, hz0, hz1, hz2⟩ := info_parts Try.infoState
  have HF := Lib.hid hp.lt
  obtain ⟨sv, scs, G, hb, hst, hF, hpG, hbase⟩ := hp.ex
  have hpl := hb.lt
  have c3 := hb.cell 3 rfl
  have f3 := hb.free 3
  have hl := hst.len
  have hrow := Lib.hid hst.row
  have HS := Lib.hid hst
  have hps : sv.ownBlock ≠ some p := fun e => hpG (by rw [hst.blocks]; exact List.mem_append.2 (.inl (mem_opt.2 e)))
  have Hb := Lib.hid hb
  have HF' := Lib.hid hF
  have Hn := Lib.hid hn
  have Hl := Lib.hid hl
  have hlen' : scs.length ≤ 1000000 := by omega
  have Hs := Lib.hid hs
  have Hsv := Lib.hid hst.row.lt
  clear hst hb hF hn hl hs hp
  unfold SC.val
  go_enter Try.func29, Try.ntmps29
  go_wp2
  go_region_law (first
    | (refine step_append_lies _ (by rfl) _ _ _ (by rfl) base 70 i0 _ 6 64 Try.underlying45 hi0 hz0 hz1 hz2 rfl (by omega) sv scs.length (scs.flatMap SC.cells) (by rfl) (((hrow.out.alloc _).alloc _).drew)
        ⟨w.heap.size + 1, 0, none⟩ 1 1 sc.cells (by rfl) (by rfl) (World.news_of_block (cs := sc.cells.toArray) (t := 70) (fr := (0, 0)) (heap_alloc_at (w := w.alloc _) (by simp))) Hs.out.oneCells
        (by omega) (by unfold maxLen; omega) (by omega) (by simp; omega) (w.heap.size + 1 + 1) (by simp) ?_
       intro gg cap w1 hown1 hgrow hat hlt
       have c3' : w1.cell? ⟨p, 3, none⟩ = some sv := by rw [hgrow.cell_far _ (by simp; omega) (Ne.symm hps)]; simp [*, World.cell?_alloc_some]
       have f3' : w1.frozen? ⟨p, 3, none⟩ = false := by rw [hgrow.frozen_far _ (by simp; omega) (Ne.symm hps)]; simp [*, frozen?_alloc_cells]
       have Hown := Lib.hid hown1
       have Hgrow := Lib.hid hgrow
       have Hat := Lib.hid hat
       clear hown1 hgrow hat))
  all_goals
    go_wp2
    go_ret
    refine ⟨ret_int (by have := Hl.out; omega), state_close Hb.out HS.out HF'.out hpG hbase Hs.out Hn.out Hown.out _ ?_ Hgrow.out ?_⟩
    · go_grown
    · rcases Hat.out with h | h
      · exact .inl h
      · exact .inr (by omega)

theorem flat_cells_modify (scs : List SC) (a : Nat) (v : Value) (ha : a < scs.length) : (scs.modify a fun s => { s with nv := v }).flatMap SC.cells = (scs.flatMap SC.cells).set (a * 6 + 5) v := by
  induction scs generalizing a with
  | nil => simp at ha
  | cons x l ih =>
    cases a with
    | zero => simp [SC.cells]
    | succ a =>
      have := ih a (by simpa using ha)
      simp only [List.modify_succ_cons, List.flatMap_cons, this]
      rw [List.set_append_right _ _ (by simp [SC.cells]; omega)]
      congr 2
      simp [SC.cells]; omega

theorem nodup_blk {scs : List SC} (h : (scs.flatMap SC.blk).Nodup) {i j : Nat} {x y : SC} (hx : scs[i]? = some x) (hy : scs[j]? = some y) (hij : i ≠ j) : ∀ k, k ∈ x.blk → k ∉ y.blk := by
  induction scs generalizing i j with
  | nil => simp at hx
  | cons z l ih =>
    simp only [List.flatMap_cons] at h
    have hn := List.nodup_append.1 h
    cases i with
    | zero =>
      cases j with
      | zero => exact absurd rfl hij
      | succ j =>
        simp at hx hy; subst hx
        intro k hk hk'
        exact hn.2.2 k hk k (List.mem_flatMap.2 ⟨y, List.mem_of_getElem? hy, hk'⟩) rfl
    | succ i =>
      cases j with
      | zero =>
        simp at hx hy; subst hy
        intro k hk hk'
        exact hn.2.2 k hk' k (List.mem_flatMap.2 ⟨x, List.mem_of_getElem? hx, hk⟩) rfl
      | succ j => simp at hx hy; exact ih hn.2.1 hx hy (by omega)

theorem mem_blk_modify {scs : List SC} {a : Nat} {v : Value} {k : Nat} (h : k ∈ (scs.modify a fun s => { s with nv := v }).flatMap SC.blk) : k ∈ scs.flatMap SC.blk ∨ v.ownBlock = some k := by
  obtain ⟨x, hx, hk⟩ := List.mem_flatMap.1 h
  obtain ⟨i, hi⟩ := List.getElem?_of_mem hx
  rw [List.getElem?_modify] at hi
  by_cases e : a = i
  · subst e
    cases hq : scs[a]? with
    | none => simp [hq] at hi
    | some y => simp [hq] at hi; subst hi; exact .inr (mem_opt.1 hk)
  · simp [e] at hi
    exact .inl (List.mem_flatMap.2 ⟨x, List.mem_of_getElem? hi, hk⟩)

theorem nodup_modify {scs : List SC} {a : Nat} {v : Value} {sc : SC} (h : (scs.flatMap SC.blk).Nodup) (hsc : scs[a]? = some sc)
    (hv : ∀ k, v.ownBlock = some k → k ∈ sc.blk ∨ k ∉ scs.flatMap SC.blk) : ((scs.modify a fun s => { s with nv := v }).flatMap SC.blk).Nodup := by
  induction scs generalizing a with
  | nil => simp at hsc
  | cons z l ih =>
    simp only [List.flatMap_cons] at h hv
    have hn := List.nodup_append.1 h
    have hone : v.ownBlock.toList.Nodup := by cases v.ownBlock <;> simp
    cases a with
    | zero =>
      simp at hsc; subst hsc
      simp only [List.modify_zero_cons, List.flatMap_cons]
      refine List.nodup_append.2 ⟨hone, hn.2.1, fun x hx y hy e => ?_⟩
      subst e
      rcases hv x (mem_opt.1 hx) with h1 | h1
      · exact hn.2.2 x h1 x hy rfl
      · exact h1 (List.mem_append.2 (.inr hy))
    | succ a =>
      simp at hsc
      simp only [List.modify_succ_cons, List.flatMap_cons]
      refine List.nodup_append.2 ⟨hn.1, ih hn.2.1 hsc (fun k hk => ?_), fun x hx y hy e => ?_⟩
      · rcases hv k hk with h1 | h1
        · exact .inl h1
        · exact .inr (fun hm => h1 (List.mem_append.2 (.inr hm)))
      · subst e
        rcases mem_blk_modify hy with h1 | h1
        · exact hn.2.2 x hx x h1 rfl
        · rcases hv x h1 with h2 | h2
          · exact hn.2.2 x hx x (List.mem_flatMap.2 ⟨sc, List.mem_of_getElem? hsc, h2⟩) rfl
          · exact h2 (List.mem_append.2 (.inl hx))

/-- What a slice owns while one of its cells is stored. -/
theorem ownsRow_set {w : World} {base : Nat} {e : TypeId} {size g n cap : Nat} {xs : List Value} (h : w.ownsRow base e size (.slice (some ⟨g, 0, none⟩) n cap) n xs) (j : Nat) (hj : j < xs.length) (v : Value) :
    (w.setCell ⟨g, j, none⟩ v).ownsRow base e size (.slice (some ⟨g, 0, none⟩) n cap) n (xs.set j v) := by
  obtain ⟨hl, h⟩ := h
  refine ⟨by simpa using hl, .inr ?_⟩
  rcases h with ⟨h, _⟩ | ⟨g', cap', cur, hv, hb, hg, hnc, hcm, hcs, ht⟩
  · cases h
  · simp only [Value.slice.injEq, Option.some.injEq, Addr.mk.injEq] at hv
    obtain ⟨⟨rfl, _⟩, _, rfl⟩ := hv
    refine ⟨g, cap, cur.setIfInBounds j v, rfl, hb, ?_, hnc, hcm, by simpa using hcs, ?_⟩
    · simp only [World.setCell]
      rw [Array.getElem?_modify]
      simp [hg]
    · rw [← ht, Array.toList_setIfInBounds, List.take_set]

/-- A state goes on to one more: behind the append and the store. -/
theorem to_close {w w1 : World} {base p : Nat} {s : ByteArray} {i d : Nat} {sts : List NS} {F : List Nat} {sv : Value} {scs : List SC} {G : List Nat} {g n cap gg c' a : Nat} {b : Nat} {sc : SC} {ns : NS}
    (hb : Blk w p [.string s, .int .i64 i, .int .i64 d, sv] 47) (h : StRep w base sv scs sts G) (hF : F = p :: G) (hp : p ∉ G) (hbase : base ≤ p) (hsv : sv = .slice (some ⟨g, 0, none⟩) scs.length cap)
    (hsc : scs[a]? = some sc) (hns : sts[a]? = some ns) (hn : n = ns.next.length + 1)
    (hown : w1.ownsRow base 3 1 (.slice (some ⟨gg, 0, none⟩) n c') n (ints ns.next ++ [.int .i64 b]))
    (w0 : World) (h0 : Below w.heap.size w w0) (hg : w0.grownBy w1 sc.nv.ownBlock) (hat : sc.nv.ownBlock = some gg ∨ w.heap.size ≤ gg) :
    ∃ F', PAt (w1.setCell ⟨g, a * 6 + 5, none⟩ (.slice (some ⟨gg, 0, none⟩) n c')) base p s i d (Rx.addE sts a b) F' ∧
      Mod (· ∈ F) w (w1.setCell ⟨g, a * 6 + 5, none⟩ (.slice (some ⟨gg, 0, none⟩) n c')) ∧ (∀ k ∈ F', k ∈ F ∨ w.heap.size ≤ k) := by
  subst hF hsv hn
  have hlt := h.lt
  have hbl := h.blocks
  have hap := h.apart
  rw [hbl] at hap
  have hapart := List.nodup_append.1 hap
  have ha : a < scs.length := (List.getElem?_eq_some_iff.1 hsc).1
  have hgG : g ∈ G := by rw [hbl]; simp [Value.ownBlock]
  have hscG : ∀ k, k ∈ sc.blk → k ∈ scs.flatMap SC.blk := fun k hk => List.mem_flatMap.2 ⟨sc, List.mem_of_getElem? hsc, hk⟩
  have hgn : g ∉ scs.flatMap SC.blk := fun hm => hapart.2.2 g (by simp [Value.ownBlock]) g hm rfl
  have hk : ∀ k, k < w.heap.size → sc.nv.ownBlock ≠ some k → w1.heap[k]? = w.heap[k]? := fun k hk hne => (hg.block k (Nat.lt_of_lt_of_le hk h0.size) (Ne.symm hne)).trans (h0.block k hk)
  have hrow1 : w1.ownsRow base 70 6 (.slice (some ⟨g, 0, none⟩) scs.length cap) scs.length (scs.flatMap SC.cells) :=
    ownsRow_eq h.row (fun k e => hk k (h.row.lt k e).2 (fun e' => by
      simp [Value.ownBlock] at e; subst e
      exact hgn (hscG g (mem_opt.2 e'))))
  have hggn : gg ∉ scs.flatMap SC.blk ∨ gg ∈ sc.blk := by
    rcases hat with hat | hat
    · exact .inr (mem_opt.2 hat)
    · exact .inl (fun hm => by have := (hlt gg (by rw [hbl]; exact List.mem_append.2 (.inr hm))).2; omega)
  have hggg : gg ≠ g := by
    intro e; subst e
    rcases hat with hat | hat
    · exact hgn (hscG gg (mem_opt.2 hat))
    · have := (hlt gg hgG).2; omega
  have hpg : p ≠ g := fun e => hp (e ▸ hgG)
  have hpn : sc.nv.ownBlock ≠ some p := fun e => hp (by rw [hbl]; exact List.mem_append.2 (.inr (hscG p (mem_opt.2 e))))
  have hgp : gg ≠ p := by
    intro e; subst e
    rcases hat with hat | hat
    · exact hpn hat
    · have := hb.lt; omega
  have hother : ∀ k, k ≠ g → (w1.setCell ⟨g, a * 6 + 5, none⟩ (.slice (some ⟨gg, 0, none⟩) (ns.next.length + 1) c')).heap[k]? = w1.heap[k]? := fun k hk => Below.heap_setCell _ _ _ _ hk
  have hm1 : Mod (· ∈ p :: G) w w1 := by
    refine (Mod.of_new h0).trans (B' := fun k => sc.nv.ownBlock = some k) ⟨hg.os, hg.tape, hg.output, hg.size, fun k hk hne => hg.block k hk (Ne.symm hne)⟩ (fun k _ e => ?_)
    exact List.mem_cons.2 (.inr (by rw [hbl]; exact List.mem_append.2 (.inr (hscG k (mem_opt.2 e)))))
  refine ⟨p :: g :: ((scs.modify a fun s => { s with nv := .slice (some ⟨gg, 0, none⟩) (ns.next.length + 1) c' }).flatMap SC.blk),
    ⟨.slice (some ⟨g, 0, none⟩) scs.length cap, scs.modify a fun s => { s with nv := .slice (some ⟨gg, 0, none⟩) (ns.next.length + 1) c' }, _, ?_, ⟨?_, ?_, ?_, ?_, ?_⟩, rfl, ?_, hbase⟩, hm1.setCell (fun _ => List.mem_cons.2 (.inr hgG)) _, ?_⟩
  · exact (hb.kept (hk p hb.lt hpn)).kept (hother p hpg)
  · rw [flat_cells_modify _ _ _ ha, List.length_modify]
    exact ownsRow_set hrow1 (a * 6 + 5) (by rw [flat_cells_length]; omega) _
  · rw [List.length_modify, Rx.length_addE]; exact h.len
  · intro j x m hx hm
    rw [List.getElem?_modify] at hx
    rw [Rx.addE, List.getElem?_modify] at hm
    by_cases e : a = j
    · subst e
      simp [hsc] at hx
      simp [hns] at hm
      subst hx hm
      have hr := h.each a sc ns hsc hns
      refine ⟨hr.takes, hr.set, ?_⟩
      have := ownsRow_eq hown (w' := w1.setCell ⟨g, a * 6 + 5, none⟩ (.slice (some ⟨gg, 0, none⟩) (ns.next.length + 1) c')) (fun k e => hother k (by simp [Value.ownBlock] at e; subst e; exact hggg))
      simpa [ints] using this
    · simp [e] at hx hm
      have hr := h.each j x m hx hm
      refine ⟨hr.takes, hr.set, ownsRow_eq hr.next (fun k hk' => ?_)⟩
      have hkx : k ∈ x.blk := mem_opt.2 hk'
      have hkG : k ∈ scs.flatMap SC.blk := List.mem_flatMap.2 ⟨x, List.mem_of_getElem? hx, hkx⟩
      have hkg : k ≠ g := fun e => hgn (e ▸ hkG)
      rw [hother k hkg]
      exact hk k (hr.next.lt k hk').2 (fun e' => nodup_blk hapart.2.1 hsc hx e k (mem_opt.2 e') hkx)
  · simp [Value.ownBlock]
  · refine List.nodup_cons.2 ⟨fun hm => ?_, nodup_modify hapart.2.1 hsc (fun k hk' => ?_)⟩
    · rcases mem_blk_modify hm with h1 | h1
      · exact hgn h1
      · simp [Value.ownBlock] at h1; exact hggg h1
    · simp [Value.ownBlock] at hk'; subst hk'; exact hggn.symm
  · intro hm
    rcases List.mem_cons.1 hm with h1 | h1
    · exact hpg h1
    · rcases mem_blk_modify h1 with h2 | h2
      · exact hp (by rw [hbl]; exact List.mem_append.2 (.inr h2))
      · simp [Value.ownBlock] at h2; exact hgp h2
  · intro k hk'
    rcases List.mem_cons.1 hk' with h1 | h1
    · exact .inl (by simp [h1])
    · rcases List.mem_cons.1 h1 with h1 | h1
      · exact .inl (by simp [h1, hgG])
      · rcases mem_blk_modify h1 with h2 | h2
        · exact .inl (List.mem_cons.2 (.inr (by rw [hbl]; exact List.mem_append.2 (.inr h2))))
        · simp [Value.ownBlock] at h2; subst h2
          rcases hat with hat | hat
          · exact .inl (List.mem_cons.2 (.inr (by rw [hbl]; exact List.mem_append.2 (.inr (hscG gg (mem_opt.2 hat))))))
          · exact .inr hat

theorem own_cell {w : World} {base : Nat} {e : TypeId} {size g n cap : Nat} {xs : List Value} (h : w.ownsRow base e size (.slice (some ⟨g, 0, none⟩) n cap) n xs) {j : Nat} {v : Value} (hj : xs[j]? = some v) :
    w.cell? ⟨g, j, none⟩ = some v ∧ w.frozen? ⟨g, j, none⟩ = false := by
  obtain ⟨hl, h⟩ := h
  rcases h with ⟨h, _⟩ | ⟨g', cap', cur, hv, hb, hg, hnc, hcm, hcs, ht⟩
  · cases h
  · simp only [Value.slice.injEq, Option.some.injEq, Addr.mk.injEq] at hv
    obtain ⟨⟨rfl, _⟩, _, rfl⟩ := hv
    constructor
    · rw [cell_of_row w g j cur e (0, 0) hg]
      rw [← ht, List.getElem?_take] at hj
      split at hj
      · simpa using hj
      · cases hj
    · exact frozen_of_row w g j cur e hg

set_option maxRecDepth 100000 in
set_option maxHeartbeats 1000000 in
theorem to_any (w : World) (base p : Nat) (s : ByteArray) (i d : Nat) (sts : List NS) (F : List Nat) (a b : Nat) (hp : PAt w base p s i d sts F) (ha : a < sts.length) (hw : Rx.wt sts ≤ 1000000) :
    Calls Try.prog 31 #[.pointer (some ⟨p, 0, none⟩), .int .i64 (a : Int), .int .i64 (b : Int)] w fun e w' => e = .returned (.tuple #[]) ∧
      ∃ F', PAt w' base p s i d (Rx.addE sts a b) F' ∧ Mod (· ∈ F) w w' ∧ (∀ k ∈ F', k ∈ F ∨ w.heap.size ≤ k) := by
  obtain ⟨i0, hi0, hz0, hz1, hz2⟩ := info_parts Try.infoInt
  obtain ⟨sv, scs, G, hb, hst, hF, hpG, hbase⟩ := hp.ex
  have hpl := hb.lt
  have hl := hst.len
  have hlw := Rx.length_le_wt sts
  obtain ⟨sc, hsc⟩ : ∃ sc, scs[a]? = some sc := ⟨scs[a]'(by omega), List.getElem?_eq_getElem _⟩
  obtain ⟨ns, hns⟩ : ∃ ns, sts[a]? = some ns := ⟨sts[a], List.getElem?_eq_getElem _⟩
  have hnw : ns.next.length ≤ 1000000 := Nat.le_trans (Rx.next_le_wt (List.mem_of_getElem? hns)) hw
  obtain ⟨g, cap, hsv, _, hgl⟩ := hst.row.form (by omega)
  have hr := hst.each a sc ns hsc hns
  have c3 := hb.cell 3 rfl
  have hrow := hst.row
  rw [hsv] at hrow
  obtain ⟨c5, f5⟩ := own_cell hrow (j := a * 6 + 5) (v := sc.nv) (by rw [flat_cells_get hsc 5 (by omega)]; rfl)
  have hgp : g ≠ p := fun e => hpG (by rw [hst.blocks, hsv]; simp [Value.ownBlock, e])
  have hnp : sc.nv.ownBlock ≠ some p := fun e => hpG (by rw [hst.blocks]; exact List.mem_append.2 (.inr (List.mem_flatMap.2 ⟨sc, List.mem_of_getElem? hsc, mem_opt.2 e⟩)))
  have hng : sc.nv.ownBlock ≠ some g := fun e => by
    have hap := hst.apart
    rw [hst.blocks, hsv] at hap
    exact (List.nodup_append.1 hap).2.2 g (by simp [Value.ownBlock]) g (List.mem_flatMap.2 ⟨sc, List.mem_of_getElem? hsc, mem_opt.2 e⟩) rfl
  rw [hsv] at c3
  have Hnext := Lib.hid hr.next
  have hcl : a < scs.length := by omega
  have hcl0 : scs.length ≤ 1000000 := by omega
  have HS := Lib.hid hst
  have Hb := Lib.hid hb
  have HF := Lib.hid hF
  have Hsv := Lib.hid hsv
  have Hsc := Lib.hid hsc
  have Hns := Lib.hid hns
  have Hbase : base ≤ w.heap.size := by omega
  clear hst hb hF hsv hsc hns hr hrow hl hp
  go_enter Try.func31, Try.ntmps31
  go_wp2
  go_region_law (first
    | (refine step_append_lies _ (by rfl) _ _ _ (by rfl) base 3 i0 _ 1 8 Try.underlying59 hi0 hz0 hz1 hz2 rfl (by omega) sc.nv ns.next.length (ints ns.next) (by rfl) ((Hnext.out.alloc _).drew)
        ⟨w.heap.size, 0, none⟩ 1 1 [.int .i64 b] (by rfl) (by rfl) (World.news_of_block (cs := #[.int .i64 b]) (t := 3) (fr := (0, 0)) (heap_alloc_at (w := w) (by simp))) (by simp [Value.oneCell'])
        (by omega) (by unfold maxLen; omega) (by omega) (by simp; omega) (w.heap.size + 1) (by simp) ?_
       intro gg cap1 w1 hown1 hgrow hat hlt
       have c3' : w1.cell? ⟨p, 3, none⟩ = some (.slice (some ⟨g, 0, none⟩) scs.length cap) := by rw [hgrow.cell_far _ (by simp; omega) (Ne.symm hnp)]; simp [*, World.cell?_alloc_some]
       have c5' : w1.cell? ⟨g, a * 6 + 5, none⟩ = some sc.nv := by rw [hgrow.cell_far _ (by simp; omega) (Ne.symm hng)]; simp [*, World.cell?_alloc_some]
       have f5' : w1.frozen? ⟨g, a * 6 + 5, none⟩ = false := by rw [hgrow.frozen_far _ (by simp; omega) (Ne.symm hng)]; simp [*, frozen?_alloc_cells]
       have Hown := Lib.hid hown1
       have Hgrow := Lib.hid hgrow
       have Hat := Lib.hid hat
       clear hown1 hgrow hat))
  all_goals
    go_wp2
    go_end0
    refine ⟨rfl, to_close Hb.out HS.out HF.out hpG hbase Hsv.out Hsc.out Hns.out rfl Hown.out _ ?_ Hgrow.out ?_⟩
    · go_grown
    · rcases Hat.out with h | h
      · exact .inl h
      · exact .inr (by omega)

end Go.Proofs.Ytnbghiaggapoiaa
