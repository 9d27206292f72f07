/- Package regex: Match: whether a text is as a pattern says. -/
import Derived.Test.YtnbghiaggapoiaaNear
import Derived.Test.YtnbghiaggapoiaaCompile
import Derived.Sort.BigQuietIn
import Derived.Sort.QuietTacIn
import Derived.Lib.QuietBelowIn
namespace Go.Proofs.Ytnbghiaggapoiaa
set_option linter.unusedSimpArgs false
set_option linter.unusedVariables false
open Go.RowKit Go.Proofs Go.Maps Go.Sort
open Rx (NS)

attribute [local go_sem] Oper.semAt_some

section
variable {F : Fence} {n : Nat} {P : Program} {ops : Array Oper}

theorem wpIn_inRound {Q : Exit → Act → World → Prop} {o : Oper} (l : Nat) (hro : F.round = none) (h : ∀ c, o.op ≠ .defer c) {a : Act} {w : World} {K : Act → World → Prop} (hh : o.wpIn F n P a w K Q) : o.wpIn (F.inRound l) n P a w K Q := by
  unfold Oper.wpIn at *
  refine ⟨hh.1, ?_⟩
  have h2 := hh.2
  rw [hro, Oper.semAt_none] at h2
  rw [Fence.inRound_round, Oper.semAt_eq _ _ _ h]
  exact h2

theorem wpAnyIn_inRound {Q : Exit → Act → World → Prop} {md : Region.Mode} (l : Nat) (hro : F.round = none) (hnd : ∀ (i : Nat) (o : Oper), ops[i]? = some o → ∀ c, o.op ≠ .defer c) : ∀ (fuel : Nat) (listed : Array Bool) (a : Act) (w : World), wpAnyIn F n P md ops Q fuel listed a w → wpAnyIn (F.inRound l) n P md ops Q fuel listed a w := by
  intro fuel
  induction fuel with
  | zero => exact fun _ _ _ h => h
  | succ fuel ih =>
    intro listed a w h
    refine ⟨h.1, fun i hi => ?_⟩
    have h2 := h.2 i hi
    unfold wpOpIn at *
    cases ho : ops[i]? with
    | none => rw [ho] at h2; exact ih _ _ _ h2
    | some o =>
      rw [ho] at h2
      simp only at h2 ⊢
      split
      · rename_i hw
        rw [if_pos hw] at h2
        exact wpIn_inRound l hro (hnd i o ho) (Oper.wpIn_mono (fun a w => ih _ a w) h2)
      · rename_i hw
        rw [if_neg hw] at h2
        exact ⟨h2.1, ih _ _ _ h2.2⟩

/-- A region that draws its order, within a round, whose operations only read, and whose callees lay blocks at most: one walk serves every order. -/
theorem region_quiet_round {id : Nat} {Q : Exit → Act → World → Prop} {a : Act} {w : World} {l : List Oper} (r : Nat) (hro : F.round = none) (hm : P.follows .mixedOrders = true) (hB : Region.lexB .any l.toArray = true) (hnd : ∀ o ∈ l, ∀ c, o.op ≠ .defer c)
    (h : wpQuietIn F n P l.toArray (fun w' => ∃ p : Regrown, w' = grow (redrawn w p.d) p.os) (fun a' => ∀ w', (∃ p : Regrown, w' = grow (redrawn w p.d) p.os) → Q .normal a' w') l a) : (Code.region id l.toArray true).wpIn (F.inRound r) n P Q a w := by
  simp only [Region.lexB, Bool.and_eq_true] at hB
  refine wpIn_region_any hm (wpAnyIn_inRound (ops := l.toArray) r hro (fun i o ho c => hnd o (List.mem_of_getElem? (by simpa using ho)) c) _ _ _ _
    (wpAnyIn_of_quiet (C := fun w' => ∃ p : Regrown, w' = grow (redrawn w p.d) p.os) (Q := fun a' => ∀ w', (∃ p : Regrown, w' = grow (redrawn w p.d) p.os) → Q .normal a' w') hro (fun _ w' hw' h => h w' hw') _ _ _ _ ⟨⟨w.drawn + 1, #[]⟩, by rw [grow_empty]; rfl⟩ ?_))
  have := wpAnyQIn_lex (F := F) (n := n) (md := .any) hB.1 l 0 (Array.replicate l.length false) a (by simp) (by simpa using hB.2) (by simpa using h)
  simpa using this
end

/-- The marks that ranges over functions have left among the deferred calls. -/
def markOf (d : Nat) : Deferred := { target := .collected d, args := #[] }
structure Marks (w : World) (ns : List Nat) : Prop where
  nodup : ns.Nodup
  lies : ∀ d ∈ ns, w.heap[d]? = some (.deferred (some []))

theorem leaves_marks {P : Program} {fn : Func} {tmps : Array Value} {R : Ending → World → Prop} : ∀ (ns : List Nat) (w : World), Marks w ns → (∀ w', Mod (· ∈ ns) w w' → LeavesInM Fence.wide 0 P fn tmps R [] .returning w') → LeavesInM Fence.wide 0 P fn tmps R (ns.map markOf) .returning w := by
  intro ns
  induction ns with
  | nil => exact fun w _ h => h w (Mod.refl _ _)
  | cons d ns ih =>
    intro w hm h
    have hn := List.nodup_cons.1 hm.nodup
    refine ⟨by simp, .inl ⟨d, _, rfl, run_takeDeferred (hm.lies d (by simp)), ?_⟩⟩
    have hp : Mod (· ∈ d :: ns) w (w.putObj d (.deferred none)) := (Mod.refl _ w).putObj (fun _ => by simp) _
    refine ih _ ⟨hn.2, fun x hx => ?_⟩ (fun w' hw' => h w' (hp.trans hw' (fun i _ hi => by simp [hi])))
    exact (World.putObj_heap_other (fun e => hn.1 (by subst e; exact hx))).trans (hm.lies x (by simp [hx]))

theorem Marks.mod {w w' : World} {ns : List Nat} {B : Nat → Prop} (h : Marks w ns) (m : Mod B w w') (hB : ∀ d ∈ ns, ¬ B d) : Marks w' ns :=
  ⟨h.nodup, fun d hd => (m.block d (Array.getElem?_eq_some_iff.1 (h.lies d hd)).1 (hB d hd)).trans (h.lies d hd)⟩

theorem own_mono {w : World} {base base' : Nat} {e : TypeId} {size : Nat} {v : Value} {n : Nat} {xs : List Value} (h : w.ownsRow base e size v n xs) (hb : base' ≤ base) : w.ownsRow base' e size v n xs :=
  ⟨h.1, h.2.imp id fun ⟨g, cap, cur, h1, h2, h3⟩ => ⟨g, cap, cur, h1, Nat.le_trans hb h2, h3⟩⟩

theorem take_txt (txt : ByteArray) (i : Nat) (h : i < txt.size) : ((tx txt).map fun b => b.toNat).take (i + 1) = ((tx txt).map fun b => b.toNat).take i ++ [txt[i].toNat] := by
  rw [List.take_succ_eq_append_getElem (by simpa using h)]
  congr 1
  simp
  rfl

theorem runs_false {sts : List NS} {first last : Nat} {cs : List Nat} (i : Nat) (h : (cs.take i).foldl (Rx.step sts) [first] = []) : Rx.runs sts first last cs = false := by
  have e : cs.foldl (Rx.step sts) [first] = [] := by
    rw [← List.take_append_drop i cs, List.foldl_append, h, Rx.steps_nil]
  unfold Rx.runs
  rw [e, Rx.near_nil]; simp

theorem match_end (w W : World) (ns : List Nat) (tmps : Array Value) (res : Bool) (h : Marks W ns) (hns : ∀ d ∈ ns, w.heap.size + 3 ≤ d) (hb : Blk W (w.heap.size + 2) [.bool res] 4) (hbe : Below w.heap.size w W) (h4 : tmps[4]? = some (.pointer (some ⟨w.heap.size + 2, 0, none⟩))) :
    LeavesInM Fence.wide 0 Try.prog Try.f12 tmps (fun e w' => e = .returned (.bool res) ∧ Below w.heap.size w w') (ns.map markOf) .returning W := by
  refine leaves_marks ns W h (fun w' hm => ?_)
  have hc := (hb.mod hm (fun hd => by have := hns _ hd; omega)).cell 0 rfl
  refine ⟨.bool res, ?_, rfl, hbe.trans (hm.below hbe.size (fun i hi hd => by have := hns _ hd; omega))⟩
  simp [results, Try.results12, go_sem, h4, hc]

set_option maxRecDepth 100000 in
set_option maxHeartbeats 4000000 in
theorem match_any (w : World) (rb base : Nat) (s : ByteArray) (txt : ByteArray) (first last : Nat) (sv : Value) (scs : List SC) (sts : List NS) (F : List Nat)
    (hrb : Blk w rb [.string s, sv, .int .i64 (first : Int), .int .i64 (last : Int)] 53) (hst : StRep w base sv scs sts F) (hsound : Rx.Sound sts) (hwt : Rx.wt sts ≤ 1000000) (hfirst : first < sts.length) (htxt : txt.size ≤ 1000000) :
    Calls Try.prog 12 #[.pointer (some ⟨rb, 0, none⟩), .string txt] w fun e w' => e = .returned (.bool (Rx.runs sts first last ((tx txt).map fun b => b.toNat))) ∧ Below w.heap.size w w' := by
  refine (callsIn_wide (n := 0)).1 ?_
  refine callsIn_of_wp_marks Try.func12 rfl trivial ?_ rfl
  simp only [Try.ntmps12, List.size_toArray, List.length_cons, List.length_nil, Nat.reduceAdd, Nat.reduceSub, Array.replicate_succ, Array.replicate_zero, List.push_toArray, List.append_toArray, List.nil_append, List.cons_append]
  obtain ⟨w3, hw3⟩ : ∃ w3, ((w.alloc (.cells #[.pointer (some ⟨rb, 0, none⟩)] 23)).alloc (.cells #[.string txt] 9)).alloc (.cells #[.bool false] 4) = w3 := ⟨_, rfl⟩
  have hA : Blk w3 w.heap.size [.pointer (some ⟨rb, 0, none⟩)] 23 := by rw [← hw3]; exact ((Blk.new w _ _).alloc _).alloc _
  have hB : Blk w3 (w.heap.size + 1) [.string txt] 9 := by
    rw [← hw3]; have := (Blk.new (w.alloc (.cells #[.pointer (some ⟨rb, 0, none⟩)] 23)) [.string txt] 9).alloc (.cells #[.bool false] 4); rwa [World.size_alloc] at this
  have hC : Blk w3 (w.heap.size + 2) [.bool false] 4 := by
    rw [← hw3]; have := Blk.new ((w.alloc (.cells #[.pointer (some ⟨rb, 0, none⟩)] 23)).alloc (.cells #[.string txt] 9)) [.bool false] 4; simpa using this
  have hbe : Below w.heap.size w w3 := by rw [← hw3]; exact (((Below.refl _ w).alloc (Nat.le_refl _) _).alloc (by simp) _).alloc (by simp; omega) _
  have hs3 : w3.heap.size = w.heap.size + 3 := by rw [← hw3]; simp
  have hD : Blk (w3.alloc (.cells #[.int .i64 (first : Int)] 3)) w3.heap.size [.int .i64 (first : Int)] 3 := Blk.new _ _ _
  have hrb3 : Blk w3 rb [.string s, sv, .int .i64 (first : Int), .int .i64 (last : Int)] 53 := hrb.below hbe hrb.lt
  have hst3 : StRep w3 base sv scs sts F := hst.kept (fun k hk => hbe.block k (hst.lt k hk).2)
  have hrbl := hrb.lt
  have cA := hA.cell 0 rfl
  have cB := hB.cell 0 rfl
  have cr := hrb3.cell 2 rfl
  have HltF := Lib.hid hst.lt
  have HA := Lib.hid hA
  have HB := Lib.hid hB
  have HC := Lib.hid hC
  have HD := Lib.hid hD
  have Hbe := Lib.hid hbe
  have Hrb := Lib.hid hrb3
  have Hst := Lib.hid hst3
  have Hsound := Lib.hid hsound
  clear hrb hst hsound hA hB hC hD hbe hrb3 hst3
  gi_wp2
  have hN : (w3.alloc (.cells #[.int .i64 (first : Int)] 3)).ownsRow (w.heap.size + 3) 3 1 (.slice (some ⟨w.heap.size + 3, 0, none⟩) 1 1) [first].length (ints [first]) := by
    refine ⟨rfl, .inr ⟨w.heap.size + 3, 1, #[.int .i64 (first : Int)], rfl, Nat.le_refl _, ?_, Nat.le_refl _, by unfold maxLen; omega, rfl, rfl⟩⟩
    exact heap_alloc_at hs3
  have hfew1 : Few sts.length [first] := ⟨by simpa using hfirst, by simp⟩
  have Hfew := Lib.hid hfew1
  have HN := Lib.hid hN
  have HA := Lib.hid (HA.out.alloc (.cells #[.int .i64 (first : Int)] 3))
  have HB := Lib.hid (HB.out.alloc (.cells #[.int .i64 (first : Int)] 3))
  have HC := Lib.hid (HC.out.alloc (.cells #[.int .i64 (first : Int)] 3))
  have Hrb := Lib.hid (Hrb.out.alloc (.cells #[.int .i64 (first : Int)] 3))
  have Hst := Lib.hid (Hst.out.kept (w' := w3.alloc (.cells #[.int .i64 (first : Int)] 3)) (fun k hk => Below.heap_alloc _ _ _ (by have := HltF.out k hk; omega)))
  have Hbe := Lib.hid (Hbe.out.alloc (by omega) (.cells #[.int .i64 (first : Int)] 3))
  have hs4 : (w3.alloc (.cells #[.int .i64 (first : Int)] 3)).heap.size = w.heap.size + 4 := by simp [hs3]
  clear hw3 cA cB cr HD hs3 hN hfew1
  generalize w3.alloc (.cells #[.int .i64 (first : Int)] 3) = w4 at *
  refine wpIn_loop (fun a' wr => ∃ (ds : List Deferred) (u5 u6 u7 u8 u17 u18 u19 u20 u21 u22 u23 u24 u25 u26 u27 u28 u29 u30 u31 u32 u33 u34 u35 u36 u37 u38 u39 u40 u41 u42 u43 u44 u45 u46 u47 u48 u49 u50 u51 u52 u53 u54 u55 u56 u57 u58 u59 u60 u61 u62 : Value), (∃ (i : Nat) (nw ns : List Nat), u17 = .int .i64 (i : Int) ∧ i ≤ txt.size ∧ wr.ownsRow (w.heap.size + 3) 3 1 u5 nw.length (ints nw) ∧ 0 < nw.length ∧ Few sts.length nw ∧ nw = (((tx txt).map fun b => b.toNat).take i).foldl (Rx.step sts) [first] ∧ Below (w.heap.size + 3) w4 wr ∧ Marks wr ns ∧ ds = ns.map markOf ∧ ∀ d ∈ ns, w.heap.size + 3 ≤ d) ∧ a' = { tmps := #[.pointer (some ⟨rb, 0, none⟩), .string txt, .pointer (some ⟨w.heap.size, 0, none⟩), .pointer (some ⟨w.heap.size + 1, 0, none⟩), .pointer (some ⟨w.heap.size + 1 + 1, 0, none⟩), u5, u6, u7, u8, undef, .pointer (some ⟨rb, 0, none⟩), .pointer (some ⟨rb, 0, none⟩), .pointer (some ⟨rb, 2, none⟩), .int .i64 (first : Int), .slice (some ⟨w.heap.size + 3, 0, none⟩) 1 1, .string txt, .int .i64 (txt.size : Int), u17, u18, u19, u20, u21, u22, u23, u24, u25, u26, u27, u28, u29, u30, u31, u32, u33, u34, u35, u36, u37, u38, u39, u40, u41, u42, u43, u44, u45, u46, u47, u48, u49, u50, u51, u52, u53, u54, u55, u56, u57, u58, u59, u60, u61, u62, undef, undef, undef, undef, undef, undef, undef, undef, undef, undef], defers := ds })
    (fun a' _ => txt.size - (intOf (a'.tmps.getD 17 undef)).toNat) ?atStart ?round
  case atStart =>
    refine ⟨[], _, _, _, _, _, _, _, _, _, _, _, _, _, _, _, _, _, _, _, _, _, _, _, _, _, _, _, _, _, _, _, _, _, _, _, _, _, _, _, _, _, _, _, _, _, _, _, _, _, _, ?rel, rfl⟩
    exact ⟨0, [first], [], rfl, Nat.zero_le _, HN.out, by simp, Hfew.out, by simp, Below.refl _ _, ⟨by simp, by simp⟩, rfl, by simp⟩
  case round =>
    rintro a' wr ⟨ds, u5, u6, u7, u8, u17, u18, u19, u20, u21, u22, u23, u24, u25, u26, u27, u28, u29, u30, u31, u32, u33, u34, u35, u36, u37, u38, u39, u40, u41, u42, u43, u44, u45, u46, u47, u48, u49, u50, u51, u52, u53, u54, u55, u56, u57, u58, u59, u60, u61, u62, ⟨i, nw, ns, rfl, hi, hrow, hnw, hfew, hnweq, hbw, hmk, rfl, hns⟩, rfl⟩
    have cB : wr.cell? ⟨w.heap.size + 1, 0, none⟩ = some (.string txt) := (hbw.cell (p := ⟨w.heap.size + 1, 0, none⟩) (by show w.heap.size + 1 < w.heap.size + 3; omega)).trans (HB.out.cell 0 rfl)
    have cA : wr.cell? ⟨w.heap.size, 0, none⟩ = some (.pointer (some ⟨rb, 0, none⟩)) := (hbw.cell (p := ⟨w.heap.size, 0, none⟩) (by show w.heap.size < w.heap.size + 3; omega)).trans (HA.out.cell 0 rfl)
    have Hrow := Lib.hid hrow
    have Hfew2 := Lib.hid hfew
    have Heq := Lib.hid hnweq
    have Hbw := Lib.hid hbw
    have Hmk := Lib.hid hmk
    have Hns := Lib.hid hns
    have hone := own_oneCell hrow
    clear hrow hfew hnweq hbw hmk hns
    by_cases hlt : i < txt.size
    · obtain ⟨wi, hwi⟩ : ∃ wi, (wr.alloc (.cells #[.int .i64 (i : Int)] 3)).alloc (.cells #[.map none, .slice none 0 0] 62) = wi := ⟨_, rfl⟩
      have hI : Blk wi wr.heap.size [.int .i64 (i : Int)] 3 := by rw [← hwi]; exact (Blk.new wr _ _).alloc _
      have hT : SetRep wi (wr.heap.size + 1) (wr.heap.size + 1) [] [wr.heap.size + 1] := by
        rw [← hwi]; have := SetRep.new (wr.alloc (.cells #[.int .i64 (i : Int)] 3)) (wr.heap.size + 1) (by simp); rwa [World.size_alloc] at this
      have hbi : Below wr.heap.size wr wi := by rw [← hwi]; exact ((Below.refl _ wr).alloc (Nat.le_refl _) _).alloc (by simp) _
      have hsi : wi.heap.size = wr.heap.size + 2 := by rw [← hwi]; simp
      have hgr := Hbw.out.size
      have cAi : wi.cell? ⟨w.heap.size, 0, none⟩ = some (.pointer (some ⟨rb, 0, none⟩)) := (hbi.cell (p := ⟨w.heap.size, 0, none⟩) (by show w.heap.size < wr.heap.size; omega)).trans cA
      have HI := Lib.hid hI
      have HT := Lib.hid hT
      have Hbi := Lib.hid hbi
      clear hI hT hbi
      gi_wp2_with (refine ⟨trivial, rfl, ?_⟩; gi_at_call 23; refine (callsIn_wide.2 (near_any _ _ _ rfl hone)).mono ?_; rintro e w5 ⟨rfl, hrx, hfx, hbe5, hs5⟩)
      rw [hsi] at hrx hfx hs5
      have hi5 := HI.out.below hbe5 (by omega)
      have hset5 := HT.out.kept (w' := w5) (fun k hk => hbe5.block k (by have := (HT.out.lt k hk).2; omega))
      have hbr5 : Below wr.heap.size wr w5 := Hbi.out.trans (hbe5.mono (by omega))
      have hb45 : Below (w.heap.size + 3) w4 w5 := Hbw.out.trans (hbr5.mono (by omega))
      have hrow5 := ownsRow_eq Hrow.out (w' := w5) (fun k e => hbr5.block k (Hrow.out.lt k e).2)
      have hrb5 := Hrb.out.below hb45 (by omega)
      have hst5 := Hst.out.kept (w' := w5) (fun k hk => hb45.block k (by have := (HltF.out k hk).2; omega))
      have hA5 := HA.out.below hb45 (by omega)
      have hB5 := HB.out.below hb45 (by omega)
      have hmk5 := Hmk.out.mod (Mod.of_below (B := fun k => wr.heap.size ≤ k) hbr5 (fun i _ h => h)) (fun d hd h => by have := (Array.getElem?_eq_some_iff.1 (Hmk.out.lies d hd)).1; omega)
      have HnsN := Lib.hid (fun d (hd : d ∈ ns) => (Array.getElem?_eq_some_iff.1 (Hmk.out.lies d hd)).1)
      have hnl : nw.length ≤ 1000000 := by have := Hfew2.out.length; have := Rx.length_le_wt sts; omega
      have Hrx := Lib.hid hrx
      have Hfx := Lib.hid hfx
      have HI5 := Lib.hid hi5
      have Hset5 := Lib.hid hset5
      have Hbr5 := Lib.hid hbr5
      have Hb45 := Lib.hid hb45
      have Hrow5 := Lib.hid hrow5
      have Hrb5 := Lib.hid hrb5
      have Hst5 := Lib.hid hst5
      have HA5 := Lib.hid hA5
      have HB5 := Lib.hid hB5
      have Hmk5 := Lib.hid hmk5
      have HrowN := Lib.hid (fun k e => (Hrow.out.lt k e).2)
      clear hwi cAi cA cB HI HT Hbi hbe5 hrx hfx hi5 hset5 hbr5 hb45 hrow5 hrb5 hst5 hA5 hB5 hmk5 Hbw Hrow Hmk
      clear hsi wi
      refine range_wp (gf := 34) (lb := #[.pointer (some ⟨wr.heap.size + 2 + 1, 0, none⟩), .pointer (some ⟨wr.heap.size + 2, 0, none⟩)]) rfl (enters_of Try.func34 (by kernel_rfl) rfl) (encs := fun x : Nat => #[.int .i64 (x : Int)]) (ys := Rx.near sts nw)
        (Rd := fun k => k < w5.heap.size ∧ k ≠ wr.heap.size + 1) ?seq (fun _ => rfl)
        (fun pre B W => ∃ G, SetRep W (wr.heap.size + 1) (wr.heap.size + 1) (pre.foldl (Rx.hop sts txt[i].toNat) []) G ∧ ∀ k, B k ↔ k ∈ G) (fun _ _ _ _ => False) ?steady ?steady2 (fun k => k = wr.heap.size + 1) ?start ?rd ?a1 ?assign ?body ?done ?stop
      case assign =>
        intro r x W K hK
        gi_wp2
        exact hK
      case steady =>
        refine ⟨fun pre B W W' ⟨G, h, he⟩ _ hk => ⟨G, h.kept (fun k hk' => hk k ((he k).2 hk')), he⟩, fun pre B W ⟨G, h, he⟩ k hk => (h.lt k ((he k).1 hk)).2⟩
      case steady2 => exact fun c => ⟨fun _ _ _ _ h => h.elim, fun _ _ _ h => h.elim⟩
      case start => exact ⟨_, Hset5.out, fun k => by simp⟩
      case rd => exact fun k hk => ⟨hk.2, hk.1⟩
      case seq =>
        intro W hW
        refine near1_runs W rb (wr.heap.size + 2 + 1) (wr.heap.size + 2) base (w.heap.size + 3) s _ _ sv u5 scs sts F nw _ (Hrx.out.below hW (by omega)) (Hfx.out.below hW (by omega))
          (ownsRow_eq Hrow5.out (fun k e => hW.block k (Hrow5.out.lt k e).2)) hnw hnl Hfew2.out.lt (Hrb5.out.below hW (by omega)) (Hst5.out.kept (fun k hk => hW.block k (Hst5.out.lt k hk).2)) Hsound.out hwt ?_
        rintro k (rfl | rfl | rfl | h | h)
        · exact ⟨by omega, by omega⟩
        · exact ⟨by omega, by omega⟩
        · exact ⟨by omega, by omega⟩
        · have := HltF.out k h; exact ⟨by omega, by omega⟩
        · have := (Hrow5.out.lt k h).2; have := HrowN.out k h; exact ⟨by omega, by omega⟩
      case stop => exact fun _ _ _ _ _ h => h.elim
      case done =>
        rintro B W ⟨G, hset, hBG⟩ hM hmk hnB hsub
        have hbW : Below (w.heap.size + 3) w4 W := Hb45.out.trans (hM.below (by omega) (fun i hi h => by omega))
        have hCW := HC.out.below hbW (by omega)
        have hcr := hCW.cell 0 rfl
        have hfr := hCW.free 0
        have hmk6 : Marks W (w5.heap.size :: ns) := by
          refine ⟨List.nodup_cons.2 ⟨fun h => by have := HnsN.out _ h; omega, Hmk5.out.nodup⟩, fun d hd => ?_⟩
          rcases List.mem_cons.1 hd with rfl | hd
          · exact hmk
          · have := HnsN.out d hd
            exact (hM.block d (by omega) (by omega)).trans (Hmk5.out.lies d hd)
        have hl2 : (((tx txt).map fun b => b.toNat).take (i + 1)).foldl (Rx.step sts) [first] = (Rx.near sts nw).foldl (Rx.hop sts txt[i].toNat) [] := by
          rw [take_txt txt i hlt, List.foldl_append, ← Heq.out]; rfl
        have hfw : Few sts.length ((Rx.near sts nw).foldl (Rx.hop sts txt[i].toNat) []) := Rx.hops_few Hsound.out _ _ (Few.nil _)
        generalize (Rx.near sts nw).foldl (Rx.hop sts txt[i].toNat) [] = l2 at *
        obtain ⟨mv, sv1, hsb, hrow, _, _, hrepr⟩ := hset.ex
        have hc1 := hsb.cell 1 rfl
        have hbl := fun k e => (hrow.lt k e).1
        obtain ⟨a1, c1, rfl⟩ := own_slice hrow
        have HbW := Lib.hid hbW
        have HCW := Lib.hid hCW
        have Hmk6 := Lib.hid hmk6
        have Hl2 := Lib.hid hl2
        have Hfw := Lib.hid hfw
        have HrowW := Lib.hid (own_mono (base' := w.heap.size + 3) hrow (by omega))
        clear hbW hCW hmk6 hl2 hfw hset hBG hM hmk hnB hsub hsb hrow hrepr hbl
        by_cases hz : l2.length = 0
        · obtain rfl : l2 = [] := List.length_eq_zero_iff.1 hz
          gi_wp2
          rw [runs_false (i + 1) Hl2.out]
          exact match_end w _ (w5.heap.size :: ns) _ false (Hmk6.out.mod ((Mod.refl (fun k => k = w.heap.size + 2) _).setCell (fun _ => rfl) _) (fun d hd h => by
              rcases List.mem_cons.1 hd with rfl | hd
              · omega
              · have := Hns.out d hd; omega)) (fun d hd => by
              rcases List.mem_cons.1 hd with rfl | hd
              · omega
              · exact Hns.out d hd) (HCW.out.set 0 _) ((Hbe.out.trans (HbW.out.mono (by omega))).setCell (p := ⟨w.heap.size + 2, 0, none⟩) (by show w.heap.size ≤ w.heap.size + 2; omega) _) rfl
        · gi_wp2
          refine ⟨⟨_, _, _, _, _, _, _, _, _, _, _, _, _, _, _, _, _, _, _, _, _, _, _, _, _, _, _, _, _, _, _, _, _, _, _, _, _, _, _, _, _, _, _, _, _, _, _, _, _, _, _, ?relq, rfl⟩, ?meas⟩
          case relq =>
            exact ⟨i + 1, l2, w5.heap.size :: ns, by go_num, by omega, HrowW.out, by omega, Hfw.out, Hl2.out.symm, HbW.out, Hmk6.out, rfl, fun d hd => by
              rcases List.mem_cons.1 hd with rfl | hd
              · omega
              · exact Hns.out d hd⟩
          case meas => simp [intOf]; omega
      case body =>
        rintro r pre x rest B W hys ⟨G, hset, hBG⟩ hrd
        have hxm : x ∈ Rx.near sts nw := by rw [hys]; simp
        have hxl : x < sts.length := (Rx.near_few Hsound.out Hfew2.out.lt).lt x hxm
        obtain ⟨n0, hn0⟩ : ∃ n0, sts[x]? = some n0 := ⟨_, List.getElem?_eq_getElem hxl⟩
        obtain ⟨g, cap, sc, rfl, hgF, hnF, hsr, hc0, hc1, hc2, hc3, hc4, hc5⟩ := Hst5.out.read hn0
        have hmv : ∀ (b o : Nat) (v : Value), b < w5.heap.size → b ≠ wr.heap.size + 1 → w5.cell? ⟨b, o, none⟩ = some v → W.cell? ⟨b, o, none⟩ = some v := fun b o v h1 h2 h3 => (World.cell?_of_block (w := w5) (hrd _ ⟨h1, h2⟩)).trans h3
        have hgl := HltF.out g hgF
        have kA := cell_regrown (hmv _ _ _ (by omega) (by omega) (HA5.out.cell 0 rfl))
        have kB := cell_regrown (hmv _ _ _ (by omega) (by omega) (HB5.out.cell 0 rfl))
        have kI := cell_regrown (hmv _ _ _ (by omega) (by omega) (HI5.out.cell 0 rfl))
        have k1 := cell_regrown (hmv _ _ _ (by omega) (by omega) (Hrb5.out.cell 1 rfl))
        have kt := cell_regrown (hmv _ _ _ (by omega) (by omega) hc0)
        have kw1 := cell_regrown (hmv _ _ _ (by omega) (by omega) hc1)
        have kw2 := cell_regrown (hmv _ _ _ (by omega) (by omega) hc2)
        have kw3 := cell_regrown (hmv _ _ _ (by omega) (by omega) hc3)
        have kw4 := cell_regrown (hmv _ _ _ (by omega) (by omega) hc4)
        have zn := hmv _ _ _ (by omega) (by omega) hc5
        have hc256 : txt[i].toNat < 256 := txt[i].toNat_lt
        have cH : ∀ d os, CallsIn Fence.wide 0 Try.prog 24 #[.agg #[.int .u64 sc.a0, .int .u64 sc.a1, .int .u64 sc.a2, .int .u64 sc.a3], .int .u8 txt[i].toNat] (grow (redrawn W d) os) fun e w'' => e = .returned (.bool (n0.set txt[i].toNat)) ∧ ∃ p : Regrown, w'' = grow (redrawn W p.d) p.os := fun d os =>
          CallsIn.regrown_of (callsIn_wide.2 (has_any _ n0.set _ _ ⟨sc.a0, sc.a1, sc.a2, sc.a3, rfl, hsr.set⟩ hc256))
        have Hset := Lib.hid hset
        have HBG := Lib.hid hBG
        have Hsr := Lib.hid hsr
        have Hn0 := Lib.hid hn0
        have HnF := Lib.hid hnF
        have Hmv := Lib.hid hmv
        have Hpr := Lib.hid (show pre.length ≤ 1000000 by
          have h1 := (Rx.near_few Hsound.out Hfew2.out.lt).length
          rw [hys] at h1
          have := Rx.length_le_wt sts
          simp at h1; omega)
        clear hset hBG hsr hn0 hnF hmv hc0 hc1 hc2 hc3 hc4 hc5 hrd hys hxm
        cases ht : n0.takes with
        | false =>
          have e := Hsr.out.takes
          rw [ht] at e
          rw [e] at kt
          have Hhop := Lib.hid (show Rx.hop sts txt[i].toNat (pre.foldl (Rx.hop sts txt[i].toNat) []) x = pre.foldl (Rx.hop sts txt[i].toNat) [] by simp [Rx.hop, Hn0.out, ht])
          clear e ht
          refine wpIn_block ?_
          refine wpIn_seq ?_
          refine region_quiet_round r rfl (by kernel_rfl) (by kernel_rfl) (by simp) ?_
          repeat
            (refine wpQuietIn_step (fun _ _ _ _ => trivial) (fun K hK => ?_)
             go_simp
             first
               | (refine hK _ ?_; clear hK K)
               | (apply Exists.intro
                  refine ⟨fun _ => ?_, hK _ ?_⟩
                  (first | exact cH _ _ | exact ⟨rfl, cH _ _⟩ | exact ⟨by simp [Fence.wide], cH _ _⟩)
                  clear hK K))
          refine wpQuietIn_nil ?_
          rintro _ ⟨⟨dq, osq⟩, rfl⟩
          have hbq := below_regrown W dq osq
          generalize grow (redrawn W dq) osq = W6 at *
          have Hbq := Lib.hid hbq
          clear hbq kA kB kI k1 kt kw1 kw2 kw3 kw4 cH
          gi_wp2
          refine ⟨B, fun k hk => .inl hk, Mod.of_new Hbq.out, G, ?_, HBG.out⟩
          rw [List.foldl_append, List.foldl_cons, List.foldl_nil, Hhop.out]
          exact Hset.out.kept (fun k hk => Hbq.out.block k (Hset.out.lt k hk).2)
        | true =>
          have e := Hsr.out.takes
          rw [ht] at e
          rw [e] at kt
          cases hin : n0.set txt[i].toNat with
          | false =>
            have Hhop := Lib.hid (show Rx.hop sts txt[i].toNat (pre.foldl (Rx.hop sts txt[i].toNat) []) x = pre.foldl (Rx.hop sts txt[i].toNat) [] by simp [Rx.hop, Hn0.out, ht, hin])
            rw [hin] at cH
            clear e ht hin
            refine wpIn_block ?_
            refine wpIn_seq ?_
            refine region_quiet_round r rfl (by kernel_rfl) (by kernel_rfl) (by simp) ?_
            repeat
              (refine wpQuietIn_step (fun _ _ _ _ => trivial) (fun K hK => ?_)
               go_simp
               first
                 | (refine hK _ ?_; clear hK K)
                 | (apply Exists.intro
                    refine ⟨fun _ => ?_, hK _ ?_⟩
                    (first | exact cH _ _ | exact ⟨rfl, cH _ _⟩ | exact ⟨by simp [Fence.wide], cH _ _⟩)
                    clear hK K))
            refine wpQuietIn_nil ?_
            rintro _ ⟨⟨dq, osq⟩, rfl⟩
            have hbq := below_regrown W dq osq
            generalize grow (redrawn W dq) osq = W6 at *
            have Hbq := Lib.hid hbq
            clear hbq kA kB kI k1 kt kw1 kw2 kw3 kw4 cH
            gi_wp2
            refine ⟨B, fun k hk => .inl hk, Mod.of_new Hbq.out, G, ?_, HBG.out⟩
            rw [List.foldl_append, List.foldl_cons, List.foldl_nil, Hhop.out]
            exact Hset.out.kept (fun k hk => Hbq.out.block k (Hset.out.lt k hk).2)
          | true =>
            obtain ⟨y, hy⟩ := (Hsound.out n0 (List.mem_of_getElem? Hn0.out)).2 ht
            have hyl : y < sts.length := (Hsound.out n0 (List.mem_of_getElem? Hn0.out)).1 y (by rw [hy]; simp)
            have Hhop := Lib.hid (show Rx.hop sts txt[i].toNat (pre.foldl (Rx.hop sts txt[i].toNat) []) x = push (pre.foldl (Rx.hop sts txt[i].toNat) []) y by simp [Rx.hop, Hn0.out, ht, hin, hy])
            have hnx := Hsr.out.next
            rw [hy] at hnx
            obtain ⟨g2, c2, hnv, _, hg2⟩ := hnx.form (by simp)
            have hg2F : g2 ∈ F := HnF.out g2 (by rw [hnv]; rfl)
            have hg2l := HltF.out g2 hg2F
            rw [hnv] at hnx zn
            have hy0 := Hmv.out _ _ _ (by omega) (by omega) (own_cell hnx (j := 0) rfl).1
            have ky := cell_regrown hy0
            have kn := cell_regrown zn
            have hfl := (Rx.hops_few Hsound.out txt[i].toNat pre (Few.nil _)).length
            have hsl := Rx.length_le_wt sts
            rw [hin] at cH
            clear e ht hin hy hnx hnv hy0 zn
            refine wpIn_block ?_
            refine wpIn_seq ?_
            refine region_quiet_round r rfl (by kernel_rfl) (by kernel_rfl) (by simp) ?_
            repeat
              (refine wpQuietIn_step (fun _ _ _ _ => trivial) (fun K hK => ?_)
               go_simp
               first
                 | (refine hK _ ?_; clear hK K)
                 | (apply Exists.intro
                    refine ⟨fun _ => ?_, hK _ ?_⟩
                    (first | exact cH _ _ | exact ⟨rfl, cH _ _⟩ | exact ⟨by simp [Fence.wide], cH _ _⟩)
                    clear hK K))
            refine wpQuietIn_nil ?_
            rintro _ ⟨⟨dq, osq⟩, rfl⟩
            have hbq := below_regrown W dq osq
            have zA := kA dq osq
            have z1 := k1 dq osq
            have zy := ky dq osq
            have zn := kn dq osq
            generalize grow (redrawn W dq) osq = W6 at *
            have hset6 := Hset.out.kept (w' := W6) (fun k hk => hbq.block k (Hset.out.lt k hk).2)
            have Hset6 := Lib.hid hset6
            have Hbq := Lib.hid hbq
            clear hbq hset6 kA kB kI k1 kt kw1 kw2 kw3 kw4 cH ky kn
            gi_wp2_with (refine ⟨trivial, rfl, ?_⟩; gi_at_call 25; refine (CallsIn.inRound r (callsIn_wide.2 (put_any _ _ _ _ _ _ Hset6.out (by omega) (by omega)))).mono ?_; rintro e W7 ⟨rfl, G7, h1, h2, h3⟩)
            have hsz := Hbq.out.size
            refine ⟨(· ∈ G7), fun k hk => ?_, ?_, G7, ?_, fun k => Iff.rfl⟩
            · rcases h3 k hk with h | h
              · exact .inl ((HBG.out k).2 h)
              · exact .inr (by omega)
            · exact (Mod.of_new Hbq.out).trans h2 (fun j _ hj => (HBG.out j).2 hj)
            · rw [List.foldl_append, List.foldl_cons, List.foldl_nil, Hhop.out]
              exact h1
    · obtain rfl : i = txt.size := by omega
      have hgr := Hbw.out.size
      gi_wp2_with (refine ⟨trivial, rfl, ?_⟩; gi_at_call 23; refine (callsIn_wide.2 (near_any _ _ _ rfl hone)).mono ?_; rintro e w5 ⟨rfl, hrx, hfx, hbe5, hs5⟩)
      have hb45 : Below (w.heap.size + 3) w4 w5 := Hbw.out.trans (hbe5.mono (by omega))
      have hrow5 := ownsRow_eq Hrow.out (w' := w5) (fun k e => hbe5.block k (Hrow.out.lt k e).2)
      have hrb5 := Hrb.out.below hb45 (by omega)
      have hst5 := Hst.out.kept (w' := w5) (fun k hk => hb45.block k (by have := (HltF.out k hk).2; omega))
      have hA5 := HA.out.below hb45 (by omega)
      have hC5 := HC.out.below hb45 (by omega)
      have hmk5 := Hmk.out.mod (Mod.of_below (B := fun k => wr.heap.size ≤ k) hbe5 (fun i _ h => h)) (fun d hd h => by have := (Array.getElem?_eq_some_iff.1 (Hmk.out.lies d hd)).1; omega)
      have HnsN := Lib.hid (fun d (hd : d ∈ ns) => (Array.getElem?_eq_some_iff.1 (Hmk.out.lies d hd)).1)
      have hnl : nw.length ≤ 1000000 := by have := Hfew2.out.length; have := Rx.length_le_wt sts; omega
      have Hrx := Lib.hid hrx
      have Hfx := Lib.hid hfx
      have Hb45 := Lib.hid hb45
      have HrowB := Lib.hid (fun k e => (Hrow.out.lt k e).1)
      have HrowN := Lib.hid (fun k e => (Hrow.out.lt k e).2)
      have Hrow5 := Lib.hid hrow5
      have Hrb5 := Lib.hid hrb5
      have Hst5 := Lib.hid hst5
      have HA5 := Lib.hid hA5
      have HC5 := Lib.hid hC5
      have Hmk5 := Lib.hid hmk5
      have hrun : Rx.runs sts first last ((tx txt).map fun b => b.toNat) = decide (last ∈ Rx.near sts nw) := by
        unfold Rx.runs
        rw [Heq.out, List.take_of_length_le (by simp)]
      have Hrun := Lib.hid hrun
      clear cA cB hbe5 hrx hfx hb45 hrow5 hrb5 hst5 hA5 hC5 hmk5 Hbw Hrow Hmk hrun
      refine range_wp (gf := 34) (lb := #[.pointer (some ⟨wr.heap.size + 1, 0, none⟩), .pointer (some ⟨wr.heap.size, 0, none⟩)]) rfl (enters_of Try.func34 (by kernel_rfl) rfl) (encs := fun x : Nat => #[.int .i64 (x : Int)]) (ys := Rx.near sts nw)
        (Rd := fun k => k < w5.heap.size ∧ k ≠ w.heap.size + 2) ?seq_z (fun _ => rfl)
        (fun pre B W => last ∉ pre ∧ Blk W (w.heap.size + 2) [.bool false] 4 ∧ ∀ k, B k ↔ k = w.heap.size + 2) (fun c pre B W => c = .ret ∧ last ∈ pre ∧ Blk W (w.heap.size + 2) [.bool true] 4 ∧ ∀ k, B k ↔ k = w.heap.size + 2) ?steady_z ?steady2_z (fun k => k = w.heap.size + 2) ?start_z ?rd_z ?a1_z ?assign_z ?body_z ?done_z ?stop_z
      case assign_z =>
        intro r x W K hK
        gi_wp2
        exact hK
      case steady_z => exact ⟨fun pre B W W' ⟨h1, h2, h3⟩ _ hk => ⟨h1, h2.kept (hk _ ((h3 _).2 rfl)), h3⟩, fun pre B W ⟨_, h2, h3⟩ k hk => by rw [(h3 k).1 hk]; exact h2.lt⟩
      case steady2_z => exact fun c => ⟨fun pre B W W' ⟨h0, h1, h2, h3⟩ _ hk => ⟨h0, h1, h2.kept (hk _ ((h3 _).2 rfl)), h3⟩, fun pre B W ⟨_, _, h2, h3⟩ k hk => by rw [(h3 k).1 hk]; exact h2.lt⟩
      case start_z => exact ⟨by simp, HC5.out, fun k => Iff.rfl⟩
      case rd_z => exact fun k hk => ⟨hk.2, hk.1⟩
      case seq_z =>
        intro W hW
        refine near1_runs W rb (wr.heap.size + 1) wr.heap.size base (w.heap.size + 3) s _ _ sv u5 scs sts F nw _ (Hrx.out.below hW (by omega)) (Hfx.out.below hW (by omega))
          (ownsRow_eq Hrow5.out (fun k e => hW.block k (Hrow5.out.lt k e).2)) hnw hnl Hfew2.out.lt (Hrb5.out.below hW (by omega)) (Hst5.out.kept (fun k hk => hW.block k (Hst5.out.lt k hk).2)) Hsound.out hwt ?_
        rintro k (rfl | rfl | rfl | h | h)
        · exact ⟨by omega, by omega⟩
        · exact ⟨by omega, by omega⟩
        · exact ⟨by omega, by omega⟩
        · have := HltF.out k h; exact ⟨by omega, by omega⟩
        · have := (Hrow5.out.lt k h).2; have := HrowB.out k h; exact ⟨by omega, by omega⟩
      case body_z =>
        rintro r pre x rest B W hys ⟨hnot, hC, hB⟩ hrd
        have zA : W.cell? ⟨w.heap.size, 0, none⟩ = some (.pointer (some ⟨rb, 0, none⟩)) := (World.cell?_of_block (w := w5) (hrd w.heap.size ⟨by omega, by omega⟩)).trans (HA5.out.cell 0 rfl)
        have z3 : W.cell? ⟨rb, 3, none⟩ = some (.int .i64 (last : Int)) := (World.cell?_of_block (w := w5) (hrd rb ⟨by omega, by omega⟩)).trans (Hrb5.out.cell 3 rfl)
        have zC := hC.cell 0 rfl
        have fC := hC.free 0
        have HCb := Lib.hid hC
        have HBb := Lib.hid hB
        have Hnot := Lib.hid hnot
        clear hC hB hnot hrd hys
        by_cases hx : x = last
        · subst hx
          gi_wp2
          exact ⟨B, fun k hk => .inl hk, (Mod.refl _ _).setCell (fun _ => (HBb.out _).2 rfl) _, rfl, by simp, HCb.out.set 0 _, HBb.out⟩
        · have hx' : ¬ ((x : Int) = (last : Int)) := by omega
          gi_wp2
          refine ⟨B, fun k hk => .inl hk, Mod.refl _ _, ?_, HCb.out, HBb.out⟩
          simp only [List.mem_append, List.mem_singleton, not_or]
          exact ⟨Hnot.out, fun e => hx e.symm⟩
      case done_z =>
        rintro B W ⟨hnot, hC, hB⟩ hM hmk hnB hsub
        have zC := hC.cell 0 rfl
        have fC := hC.free 0
        have hmk6 : Marks W (w5.heap.size :: ns) := by
          refine ⟨List.nodup_cons.2 ⟨fun h => by have := HnsN.out _ h; omega, Hmk5.out.nodup⟩, fun d hd => ?_⟩
          rcases List.mem_cons.1 hd with rfl | hd
          · exact hmk
          · have := HnsN.out d hd
            have := Hns.out d hd
            exact (hM.block d (by omega) (by omega)).trans (Hmk5.out.lies d hd)
        have hns6 : ∀ d ∈ w5.heap.size :: ns, w.heap.size + 3 ≤ d := fun d hd => by
          rcases List.mem_cons.1 hd with rfl | hd
          · omega
          · exact Hns.out d hd
        have hbW : Below w.heap.size w W := (Hbe.out.trans (Hb45.out.mono (by omega))).trans (hM.below (by omega) (fun i hi h => by omega))
        have Hmk6 := Lib.hid hmk6
        have Hns6 := Lib.hid hns6
        have HbW := Lib.hid hbW
        have HCb := Lib.hid hC
        have Hnot := Lib.hid hnot
        clear hmk6 hns6 hbW hC hB hM hmk hnB hsub hnot
        gi_wp2
        rw [Hrun.out, decide_eq_false Hnot.out]
        exact match_end w _ (w5.heap.size :: ns) _ false (Hmk6.out.mod ((Mod.refl (fun k => k = w.heap.size + 2) _).setCell (fun _ => rfl) _) (fun d hd h => by have := Hns6.out d hd; omega)) Hns6.out (HCb.out.set 0 _) (HbW.out.setCell (p := ⟨w.heap.size + 2, 0, none⟩) (by show w.heap.size ≤ w.heap.size + 2; omega) _) rfl
      case stop_z =>
        rintro c pre B W hpre ⟨rfl, hin, hC, hB⟩ hM hmk hnB hsub
        have hmk6 : Marks W (w5.heap.size :: ns) := by
          refine ⟨List.nodup_cons.2 ⟨fun h => by have := HnsN.out _ h; omega, Hmk5.out.nodup⟩, fun d hd => ?_⟩
          rcases List.mem_cons.1 hd with rfl | hd
          · exact hmk
          · have := HnsN.out d hd
            have := Hns.out d hd
            exact (hM.block d (by omega) (by omega)).trans (Hmk5.out.lies d hd)
        have hns6 : ∀ d ∈ w5.heap.size :: ns, w.heap.size + 3 ≤ d := fun d hd => by
          rcases List.mem_cons.1 hd with rfl | hd
          · omega
          · exact Hns.out d hd
        have hbW : Below w.heap.size w W := (Hbe.out.trans (Hb45.out.mono (by omega))).trans (hM.below (by omega) (fun i hi h => by omega))
        have Hmk6 := Lib.hid hmk6
        have Hns6 := Lib.hid hns6
        have HbW := Lib.hid hbW
        have HCb := Lib.hid hC
        have Hin := Lib.hid (hpre.subset hin)
        clear hmk6 hns6 hbW hC hB hM hmk hnB hsub hin hpre
        gi_wp2
        rw [Hrun.out, decide_eq_true Hin.out]
        exact match_end w _ (w5.heap.size :: ns) _ true Hmk6.out Hns6.out HCb.out HbW.out rfl

end Go.Proofs.Ytnbghiaggapoiaa
