/- Package regex: a set of numbers (set[int]): how it lies in memory; put. -/
import Derived.Test.YtnbghiaggapoiaaParser
import Derived.Test.YtnbghiaggapoiaaNfa
import Derived.Maps.OwnOps
import Derived.Maps.Views
import Derived.Deep.AppendLies
namespace Go.Proofs.Ytnbghiaggapoiaa
set_option linter.unusedSimpArgs false
set_option linter.unusedVariables false
open Go.RowKit Go.Proofs Go.Maps

theorem law_int : Keyed Try.prog 3 := int_keyed Try.underlying3
theorem zero_bool (w : World) : (zeroValue 4).run Try.prog w = .ok (.bool false) w := by kernel_rfl

theorem eqlSome (bm : Nat) (w : World) : (binOp .eql 60 (.map (some bm)) (.map none)).run Try.prog w = .ok (.bool false) w := by kernel_rfl
theorem eqlNil (w : World) : (binOp .eql 60 (.map none) (.map none)).run Try.prog w = .ok (.bool true) w := by kernel_rfl

theorem plainElem_bool_inv {H : Type} {P : Program} {e : TypeId} (he : P.underlying e = some .bool) {v : Value} {z : DataW H × List MemPlace} (h : plainElem P e v = some z) : ∃ x, v = .bool x ∧ z = (.lit (.bool x), []) := by
  unfold plainElem at h
  rw [he] at h
  cases v <;> simp at h
  exact ⟨_, rfl, h.symm⟩

theorem wpList_lookup_own_bool {H : Type} {P : Program} (w : World) {ops : Array Oper} {rest : List Oper} {o : Oper} {a : Act} {Q : Exit → Act → World → Prop}
    (hg : o.guard = none) (m x : Operand) (t : TypeId) (hop : o.op = Op.lookup t m x false)
    (k e : TypeId) (K : Keyed P k) (ht : P.underlying t = some (.map k e)) (he : P.underlying e = some .bool) (hz : (zeroValue e).run P w = .ok (.bool false) w) (b n : Nat) (D : DataW H)
    (hm : a.eval m = .map (some b)) (hown : w.ownsMap P k (plainElem P e) b n D) (key : Value) (kl : Lit) (hx : a.eval x = key) (hkey : keyOf P k key = some kl)
    (hK : ∀ c : Bool, D.atKey kl (.lit (.bool false)) = .lit (.bool c) → wpList P ops Q rest (a.put o.dst (.bool c)) w) :
    wpList P ops Q (o :: rest) a w := by
  refine wpList_plain hg fun K' hK' => ?_
  obtain ⟨v, ps, hrun, hv⟩ := hown.lookup K ht hz (plainElem_bool he false) hkey
  obtain ⟨c, rfl, hc⟩ := plainElem_bool_inv he hv
  simp only [Prod.mk.injEq] at hc
  unfold Oper.wp
  simp [execOp, hop, hm, hx, hrun, Result.andThen]
  exact hK' _ _ (hK c hc.1)

/-- What a map of numbers to true holds. -/
structure Holds (D : DataW Unit) (l : List Nat) : Prop where
  map : IsMap D
  at' : ∀ x : Nat, D.atKey (.int .i64 x) (.lit (.bool false)) = .lit (.bool (decide (x ∈ l)))

theorem Holds.nil : Holds (.map []) [] := ⟨isMap_empty, fun x => by simp [DataW.atKey]⟩
theorem Holds.snoc {D : DataW Unit} {l : List Nat} (h : Holds D l) (x : Nat) : Holds (D.put (.int .i64 x) (.lit (.bool true))) (l ++ [x]) := by
  refine ⟨h.map.put _ _, fun y => ?_⟩
  by_cases e : y = x
  · subst e; rw [atKey_put_same h.map (by simp [WideAt.IsKeyLit])]; simp
  · rw [atKey_put_other (by simp; omega), h.at' y]; simp [e]

/-- A set at block b: its map, and the row of what is in it, in order. F: its blocks. -/
structure SetRep (w : World) (base b : Nat) (l : List Nat) (F : List Nat) : Prop where
  ex : ∃ mv sv, Blk w b [mv, sv] 62 ∧ w.ownsRow base 3 1 sv l.length (ints l) ∧ base ≤ b ∧ F.Nodup ∧
    ((mv = .map none ∧ l = [] ∧ F = b :: sv.ownBlock.toList) ∨ ∃ m D, mv = .map (some m) ∧ w.ownsMap Try.prog 3 (plainElem (H := Unit) Try.prog 4) m l.length D ∧ Holds D l ∧ base ≤ m ∧ F = b :: m :: sv.ownBlock.toList)

theorem ownsMap_eq {w w' : World} {P : Program} {k : TypeId} {R : Value → Option (DataW Unit × List MemPlace)} {b n : Nat} {D : DataW Unit} (h : w.ownsMap P k R b n D) (e : w'.heap[b]? = w.heap[b]?) : w'.ownsMap P k R b n D := by
  obtain ⟨es, clock, hb, hr⟩ := h
  exact ⟨es, clock, e.trans hb, hr⟩

theorem SetRep.lt {w : World} {base b : Nat} {l F : List Nat} (h : SetRep w base b l F) : ∀ k ∈ F, base ≤ k ∧ k < w.heap.size := by
  obtain ⟨mv, sv, hb, hrow, hbase, hn, h⟩ := h.ex
  rcases h with ⟨_, _, rfl⟩ | ⟨m, D, _, hm, _, hbm, rfl⟩
  · intro k hk
    rcases List.mem_cons.1 hk with rfl | hk
    · exact ⟨hbase, hb.lt⟩
    · exact hrow.lt k (mem_opt.1 hk)
  · intro k hk
    rcases List.mem_cons.1 hk with rfl | hk
    · exact ⟨hbase, hb.lt⟩
    · rcases List.mem_cons.1 hk with rfl | hk
      · exact ⟨hbm, hm.lt⟩
      · exact hrow.lt k (mem_opt.1 hk)

theorem SetRep.self {w : World} {base b : Nat} {l F : List Nat} (h : SetRep w base b l F) : b ∈ F := by
  obtain ⟨mv, sv, hb, hrow, hbase, hn, h⟩ := h.ex
  rcases h with ⟨_, _, rfl⟩ | ⟨m, D, _, hm, _, hbm, rfl⟩ <;> simp

theorem SetRep.kept {w w' : World} {base b : Nat} {l F : List Nat} (h : SetRep w base b l F) (hk : ∀ k ∈ F, w'.heap[k]? = w.heap[k]?) : SetRep w' base b l F := by
  have hbF := h.self
  obtain ⟨mv, sv, hb, hrow, hbase, hn, h⟩ := h.ex
  refine ⟨mv, sv, hb.kept (hk b hbF), ?_, hbase, hn, ?_⟩
  · refine ownsRow_eq hrow (fun k e => hk k ?_)
    rcases h with ⟨_, _, rfl⟩ | ⟨m, D, _, hm, _, hbm, rfl⟩ <;> simp [e]
  · rcases h with h | ⟨m, D, e1, hm, hh, hbm, e2⟩
    · exact .inl h
    · exact .inr ⟨m, D, e1, ownsMap_eq hm (hk m (by rw [e2]; simp)), hh, hbm, e2⟩

theorem SetRep.mod {B : Nat → Prop} {w w' : World} {base b : Nat} {l F : List Nat} (h : SetRep w base b l F) (m : Mod B w w') (hB : ∀ k ∈ F, ¬ B k) : SetRep w' base b l F :=
  h.kept (fun k hk => m.block k (h.lt k hk).2 (hB k hk))

/-- A set that has nothing yet. -/
theorem SetRep.new (w : World) (base : Nat) (hb : base ≤ w.heap.size) : SetRep (w.alloc (.cells #[.map none, .slice none 0 0] 62)) base w.heap.size [] [w.heap.size] :=
  ⟨.map none, .slice none 0 0, Blk.new w _ _, World.ownsRow_nil _ _ _ _, hb, by simp, .inl ⟨rfl, rfl, by simp [Value.ownBlock]⟩⟩

/-- Behind the map's store, the append and the slice's store. -/
theorem put_close {w w1 w2 : World} {base b m n : Nat} {l : List Nat} {sv : Value} {D : DataW Unit} {x gg cap : Nat}
    (hb : Blk w b [.map (some m), sv] 62) (hrow : w.ownsRow base 3 1 sv l.length (ints l)) (hh : Holds D l) (hbb : base ≤ b) (hbm : base ≤ m) (hap : (b :: m :: sv.ownBlock.toList).Nodup) (hml : m < w.heap.size) (hn : n = l.length + 1)
    (hown1 : w1.ownsMap Try.prog 3 (plainElem Try.prog 4) m n (D.put (.int .i64 x) (.lit (.bool true)))) (hg1 : w.grownBy w1 (some m))
    (hown2 : w2.ownsRow base 3 1 (.slice (some ⟨gg, 0, none⟩) n cap) n (ints l ++ [.int .i64 x])) (o : Obj) (hg2 : (w1.alloc o).grownBy w2 sv.ownBlock) (hat : sv.ownBlock = some gg ∨ gg = w1.heap.size + 1) :
    ∃ F', SetRep (w2.setCell ⟨b, 1, none⟩ (.slice (some ⟨gg, 0, none⟩) n cap)) base b (l ++ [x]) F' ∧ Mod (· ∈ b :: m :: sv.ownBlock.toList) w (w2.setCell ⟨b, 1, none⟩ (.slice (some ⟨gg, 0, none⟩) n cap)) ∧
      ∀ k ∈ F', k ∈ b :: m :: sv.ownBlock.toList ∨ w.heap.size ≤ k := by
  subst hn
  have hbm' : b ≠ m := fun e => by simp [e] at hap
  have hbs : sv.ownBlock ≠ some b := fun e => by simp [e] at hap
  have hms : sv.ownBlock ≠ some m := fun e => by simp [e] at hap
  have hbl := hb.lt
  have hs1 := hg1.size
  have hk2 : ∀ k, k < w1.heap.size → sv.ownBlock ≠ some k → w2.heap[k]? = w1.heap[k]? := fun k hk hne =>
    (hg2.block k (by simp; omega) (Ne.symm hne)).trans (Below.heap_alloc _ _ _ hk)
  have hgb : gg ≠ b := by
    rintro rfl
    rcases hat with h | h
    · exact hbs h
    · omega
  have hgm : gg ≠ m := by
    rintro rfl
    rcases hat with h | h
    · exact hms h
    · omega
  have hs2 := hg2.size
  refine ⟨[b, m, gg], ⟨.map (some m), .slice (some ⟨gg, 0, none⟩) (l.length + 1) cap, ?_, ?_, hbb, ?_, .inr ⟨m, _, rfl, ?_, hh.snoc x, hbm, by simp [Value.ownBlock]⟩⟩, ?_, ?_⟩
  · have e : w2.heap[b]? = w.heap[b]? := (hk2 b (by omega) hbs).trans (hg1.block b hbl (by simp [hbm']))
    exact (hb.kept e).set 1 _
  · have := ownsRow_eq hown2 (w' := w2.setCell ⟨b, 1, none⟩ (.slice (some ⟨gg, 0, none⟩) (l.length + 1) cap)) (fun k e => Below.heap_setCell _ _ _ _ (by simp [Value.ownBlock] at e; subst e; exact hgb))
    simpa [ints] using this
  · simp [hbm', Ne.symm hgb, Ne.symm hgm]
  · rw [List.length_append]
    exact ownsMap_eq hown1 ((Below.heap_setCell _ _ _ _ (Ne.symm hbm')).trans (hk2 m (by omega) hms))
  · have m1 : Mod (· ∈ b :: m :: sv.ownBlock.toList) w w1 := (Mod.refl _ w).grown hg1 (fun k e _ => by cases e; simp)
    have m2 : Mod (· ∈ b :: m :: sv.ownBlock.toList) w w2 := (m1.alloc o).grown hg2 (fun k e _ => by simp [e])
    exact m2.setCell (fun _ => by simp) _
  · intro k hk
    simp only [List.mem_cons, List.not_mem_nil, or_false] at hk
    rcases hk with rfl | rfl | rfl
    · exact .inl (by simp)
    · exact .inl (by simp)
    · rcases hat with h | h
      · exact .inl (by simp [h])
      · exact .inr (by omega)

set_option maxRecDepth 100000 in
set_option maxHeartbeats 1000000 in
theorem put_any (w : World) (base b : Nat) (l F : List Nat) (x : Nat) (h : SetRep w base b l F) (hx : x < 2 ^ 62) (hl : l.length ≤ 1000000) :
    Calls Try.prog 25 #[.pointer (some ⟨b, 0, none⟩), .int .i64 (x : Int)] w fun e w' => e = .returned (.tuple #[]) ∧
      ∃ F', SetRep w' base b (push l x) F' ∧ Mod (· ∈ F) w w' ∧ ∀ k ∈ F', k ∈ F ∨ w.heap.size ≤ k := by
  obtain ⟨i0, hi0, hz0, hz1, hz2⟩ := info_parts Try.infoInt
  have hmm := @run_makeMap Try.prog
  have h1 := eqlSome
  have h2 := eqlNil
  have hkey : keyOf Try.prog 3 (.int .i64 (x : Int)) = some (.int .i64 (x : Int)) := keyOf_int_mk Try.underlying3 (WalkArith.wf_i64 (by omega))
  obtain ⟨mv, sv, hb, hrow, hbase, hn, hrep⟩ := h.ex
  have hbl := hb.lt
  have hrl := hrow.lt
  rcases hrep with ⟨rfl, rfl, rfl⟩ | ⟨m, D, rfl, hm, hh, hbm, rfl⟩
  · have hbs : sv.ownBlock ≠ some b := fun e => by simp [e] at hn
    have c0 := hb.cell 0 rfl
    have c1 := hb.cell 1 rfl
    have f0 := hb.free 0
    have f1 := hb.free 1
    obtain ⟨wA, hwA⟩ : ∃ wA, (w.setCell ⟨b, 0, none⟩ (.map (some w.heap.size))).alloc (.map #[] 0) = wA := ⟨_, rfl⟩
    have hbA : Blk wA b [.map (some w.heap.size), sv] 62 := by rw [← hwA]; exact (hb.set 0 _).alloc _
    have hmA : wA.ownsMap Try.prog 3 (plainElem (H := Unit) Try.prog 4) w.heap.size 0 (.map []) := by
      rw [← hwA]; have := World.ownsMap_made (w.setCell ⟨b, 0, none⟩ (.map (some w.heap.size))) Try.prog 3 (plainElem (H := Unit) Try.prog 4); rwa [World.size_setCell] at this
    have hrA : wA.ownsRow base 3 1 sv 0 (ints []) := by
      rw [← hwA]
      exact ownsRow_eq hrow (fun k e => (Below.heap_alloc _ _ _ (by simpa using (hrl k e).2)).trans (Below.heap_setCell _ _ _ _ (by rintro rfl; exact hbs e)))
    have hMA : Mod (· ∈ b :: sv.ownBlock.toList) w wA := by rw [← hwA]; exact ((Mod.refl _ w).setCell (fun _ => by simp) _).alloc _
    have hsA : wA.heap.size = w.heap.size + 1 := by rw [← hwA]; simp
    have hnA : (b :: w.heap.size :: sv.ownBlock.toList).Nodup := by
      simp only [List.nodup_cons, List.mem_cons, not_or, mem_opt] at hn ⊢
      exact ⟨⟨by omega, hn.1⟩, fun e => by have := (hrl _ e).2; omega, hn.2⟩
    have hmp := Lib.hid (show push ([] : List Nat) x = [] ++ [x] from rfl)
    have HbA := Lib.hid hbA
    have HmA := Lib.hid hmA
    have HrA := Lib.hid hrA
    have HMA := Lib.hid hMA
    have HnA := Lib.hid hnA
    have cA1 := hbA.cell 1 rfl
    have cA0 := hbA.cell 0 rfl
    have fA1 := hbA.free 1
    clear hb hrow hn hrl hbA hmA hrA hMA hnA h
    go_enter Try.func25, Try.ntmps25
    go_wp2_with (first
      | (at_lookup; try rw [hwA]
         refine wpList_lookup_own_bool _ rfl _ _ 60 rfl 3 4 law_int Try.underlying60 Try.underlying4 (zero_bool _) w.heap.size 0 _ rfl HmA.out _ _ rfl hkey ?_
         intro c hat
         have hc : c = false := by simpa [DataW.atKey, eq_comm] using hat
         clear hat
         subst hc)
      | (at_mapUpdate; refine wpList_mapUpdate_own _ rfl _ _ _ 60 rfl 3 4 law_int Try.underlying60 _ w.heap.size 0 _ rfl HmA.out (by unfold maxLen; omega) _ _ _ rfl rfl hkey _ [] (plainElem_bool Try.underlying4 _) ?_
         intro w1 hown1 hg1
         have hs1 := hg1.size
         have hr1 := Lib.hid (ownsRow_eq HrA.out (fun k e => hg1.block k (HrA.out.lt k e).2 (by intro e'; cases e'; have := HnA.out; simp [e] at this)))
         have d1 : w1.cell? ⟨b, 1, none⟩ = some sv := by rw [hg1.cell_far _ (by simp; omega) (by simp; omega)]; exact cA1
         have d0 : w1.cell? ⟨b, 0, none⟩ = some (.map (some w.heap.size)) := by rw [hg1.cell_far _ (by simp; omega) (by simp; omega)]; exact cA0
         have g1 : w1.frozen? ⟨b, 1, none⟩ = false := by rw [hg1.frozen_far _ (by simp; omega) (by simp; omega)]; exact fA1
         have Hown1 := Lib.hid hown1
         have Hg1 := Lib.hid hg1
         clear hown1 hg1)
      | (at_builtin; refine wpList_append_lies _ (by rfl) _ _ _ (by rfl) base 3 i0 _ 1 8 Try.underlying59 hi0 hz0 hz1 hz2 rfl (by omega) sv 0 (ints []) (by rfl) (hr1.out.alloc _)
          ⟨w1.heap.size, 0, none⟩ 1 1 [.int .i64 x] (by rfl) (by rfl) (World.news_of_block (cs := #[.int .i64 x]) (t := 3) (fr := (0, 0)) (heap_alloc_at (w := w1) (by simp))) (by simp [Value.oneCell'])
          (by omega) (by unfold maxLen; omega) (by omega) (by simp; omega) (w1.heap.size + 1) (by simp) ?_
         intro gg cap w2 hown2 hgrow2 hat hlt
         have d2 : w2.frozen? ⟨b, 1, none⟩ = false := by rw [hgrow2.frozen_far _ (by simp; omega) (Ne.symm hbs)]; simp [*, frozen?_alloc_cells]
         have e2 : w2.cell? ⟨b, 1, none⟩ = some sv := by rw [hgrow2.cell_far _ (by simp; omega) (Ne.symm hbs)]; simp [*, World.cell?_alloc_some]
         have Hown2 := Lib.hid hown2
         have Hgrow2 := Lib.hid hgrow2
         have Hat := Lib.hid hat
         clear hown2 hgrow2 hat)
      | go_in)
    go_end0
    refine ⟨rfl, ?_⟩
    obtain ⟨F', h1, h2, h3⟩ := put_close HbA.out HrA.out Holds.nil hbase (by omega) HnA.out (by omega) rfl Hown1.out Hg1.out Hown2.out _ Hgrow2.out Hat.out
    refine ⟨F', hmp.out ▸ h1, HMA.out.trans h2 (fun k hk hm => ?_), fun k hk => ?_⟩
    · simp only [List.mem_cons] at hm ⊢
      rcases hm with h | h | h
      · exact .inl h
      · omega
      · exact .inr h
    · rcases h3 k hk with h | h
      · simp only [List.mem_cons] at h ⊢
        rcases h with h | h | h
        · exact .inl (.inl h)
        · exact .inr (by omega)
        · exact .inl (.inr h)
      · exact .inr (by omega)
  · have hbs : sv.ownBlock ≠ some b := fun e => by simp [e] at hn
    have hbm' : b ≠ m := fun e => by simp [e] at hn
    have hms : sv.ownBlock ≠ some m := fun e => by simp [e] at hn
    have c0 := hb.cell 0 rfl
    have c1 := hb.cell 1 rfl
    have f1 := hb.free 1
    have hml := hm.lt
    have Hb := Lib.hid hb
    have Hm := Lib.hid hm
    have Hr := Lib.hid hrow
    have Hh := Lib.hid hh
    have Hn := Lib.hid hn
    have Hrep := Lib.hid h
    clear hb hm hrow hh hn h hrl hmm
    by_cases hxl : x ∈ l
    · have hp := Lib.hid (show push l x = l by simp [push, hxl])
      have Hx := Lib.hid hxl
      clear hxl
      go_enter Try.func25, Try.ntmps25
      go_wp2_with (first
        | (at_lookup
           refine wpList_lookup_own_bool _ rfl _ _ 60 rfl 3 4 law_int Try.underlying60 Try.underlying4 (zero_bool _) m l.length _ rfl Hm.out _ _ rfl hkey ?_
           intro c hat
           have hc : c = true := by have := (Hh.out.at' x).symm.trans hat; simpa [Hx.out, eq_comm] using this
           clear hat
           subst hc)
        | go_in)
      go_end0
      exact ⟨rfl, _, hp.out.symm ▸ Hrep.out, Mod.refl _ _, fun k hk => .inl hk⟩
    · have hp := Lib.hid (show push l x = l ++ [x] by simp [push, hxl])
      have Hx := Lib.hid hxl
      clear hxl
      go_enter Try.func25, Try.ntmps25
      go_wp2_with (first
        | (at_lookup
           refine wpList_lookup_own_bool _ rfl _ _ 60 rfl 3 4 law_int Try.underlying60 Try.underlying4 (zero_bool _) m l.length _ rfl Hm.out _ _ rfl hkey ?_
           intro c hat
           have hc : c = false := by have := (Hh.out.at' x).symm.trans hat; simpa [Hx.out, eq_comm] using this
           clear hat
           subst hc)
        | (at_mapUpdate; refine wpList_mapUpdate_own _ rfl _ _ _ 60 rfl 3 4 law_int Try.underlying60 _ m l.length _ rfl Hm.out (by unfold maxLen; omega) _ _ _ rfl rfl hkey _ [] (plainElem_bool Try.underlying4 _) ?_
           intro w1 hown1 hg1
           have hs1 := hg1.size
           have hr1 := Lib.hid (ownsRow_eq Hr.out (fun k e => hg1.block k (Hr.out.lt k e).2 (by intro e'; cases e'; exact hms e)))
           have d1 : w1.cell? ⟨b, 1, none⟩ = some sv := by rw [hg1.cell_far _ (by simp; omega) (by simp; omega)]; exact c1
           have g1 : w1.frozen? ⟨b, 1, none⟩ = false := by rw [hg1.frozen_far _ (by simp; omega) (by simp; omega)]; exact f1
           have Hown1 := Lib.hid hown1
           have Hg1 := Lib.hid hg1
           clear hown1 hg1)
        | (at_builtin; refine wpList_append_lies _ (by rfl) _ _ _ (by rfl) base 3 i0 _ 1 8 Try.underlying59 hi0 hz0 hz1 hz2 rfl (by omega) sv l.length (ints l) (by rfl) (hr1.out.alloc _)
            ⟨w1.heap.size, 0, none⟩ 1 1 [.int .i64 x] (by rfl) (by rfl) (World.news_of_block (cs := #[.int .i64 x]) (t := 3) (fr := (0, 0)) (heap_alloc_at (w := w1) (by simp))) (by simp [Value.oneCell'])
            (by omega) (by unfold maxLen; omega) (by omega) (by simp; omega) (w1.heap.size + 1) (by simp) ?_
           intro gg cap w2 hown2 hgrow2 hat hlt
           have d2 : w2.frozen? ⟨b, 1, none⟩ = false := by rw [hgrow2.frozen_far _ (by simp; omega) (Ne.symm hbs)]; simp [*, frozen?_alloc_cells]
           have e2 : w2.cell? ⟨b, 1, none⟩ = some sv := by rw [hgrow2.cell_far _ (by simp; omega) (Ne.symm hbs)]; simp [*, World.cell?_alloc_some]
           have Hown2 := Lib.hid hown2
           have Hgrow2 := Lib.hid hgrow2
           have Hat := Lib.hid hat
           clear hown2 hgrow2 hat)
        | go_in)
      go_end0
      refine ⟨rfl, ?_⟩
      rw [hp.out]
      exact put_close Hb.out Hr.out Hh.out hbase hbm Hn.out hml rfl Hown1.out Hg1.out Hown2.out _ Hgrow2.out Hat.out

end Go.Proofs.Ytnbghiaggapoiaa
