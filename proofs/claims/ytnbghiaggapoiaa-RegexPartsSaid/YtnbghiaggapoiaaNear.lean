/- Package regex: near (the iterator that goes through all states one comes to). -/
import Derived.Test.YtnbghiaggapoiaaSet
import Derived.Test.YtnbghiaggapoiaaRange
namespace Go.Proofs.Ytnbghiaggapoiaa
set_option linter.unusedSimpArgs false
set_option linter.unusedVariables false
open Go.RowKit Go.Proofs Go.Maps

attribute [local go_sem] Oper.semAt_some

set_option maxRecDepth 100000 in
theorem near_any (w : World) (rv fv : Value) (h1 : rv.oneCell' = true) (h2 : fv.oneCell' = true) :
    Calls Try.prog 23 #[rv, fv] w fun e w' => e = .returned (.func (.func 34) #[] #[.pointer (some ⟨w.heap.size + 1, 0, none⟩), .pointer (some ⟨w.heap.size, 0, none⟩)]) ∧
      Blk w' w.heap.size [rv] 23 ∧ Blk w' (w.heap.size + 1) [fv] 59 ∧ Below w.heap.size w w' ∧ w'.heap.size = w.heap.size + 2 := by
  go_enter Try.func23, Try.ntmps23
  go_wp2
  go_ret
  refine ⟨rfl, (Blk.new w [rv] 23).alloc _, ?_, ((Below.refl _ w).alloc (Nat.le_refl _) _).alloc (by simp) _, by simp⟩
  have := Blk.new (w.alloc (.cells #[rv] 23)) [fv] 59
  rwa [World.size_alloc] at this

/-- What is read of a state. -/
theorem StRep.read {w : World} {base : Nat} {sv : Value} {scs : List SC} {sts : List Rx.NS} {F : List Nat} (h : StRep w base sv scs sts F) {x : Nat} {ns : Rx.NS} (hx : sts[x]? = some ns) :
    ∃ g cap sc, sv = .slice (some ⟨g, 0, none⟩) sts.length cap ∧ g ∈ F ∧ (∀ k, sc.nv.ownBlock = some k → k ∈ F) ∧ SRep w base sc ns ∧
      w.cell? ⟨g, x * 6, none⟩ = some (.bool sc.takes) ∧ w.cell? ⟨g, x * 6 + 1, none⟩ = some (.int .u64 sc.a0) ∧ w.cell? ⟨g, x * 6 + 2, none⟩ = some (.int .u64 sc.a1) ∧
      w.cell? ⟨g, x * 6 + 3, none⟩ = some (.int .u64 sc.a2) ∧ w.cell? ⟨g, x * 6 + 4, none⟩ = some (.int .u64 sc.a3) ∧ w.cell? ⟨g, x * 6 + 5, none⟩ = some sc.nv := by
  have hl := h.len
  have hlt : x < sts.length := (List.getElem?_eq_some_iff.1 hx).1
  obtain ⟨g, cap, hsv, hc, _⟩ := h.row.form (by omega)
  have hsc : scs[x]? = some (scs[x]'(by omega)) := List.getElem?_eq_getElem _
  have hrow := h.row
  rw [hsv] at hrow
  have get : ∀ j v, j < 6 → (scs[x]'(by omega)).cells[j]? = some v → w.cell? ⟨g, x * 6 + j, none⟩ = some v := fun j v hj hv => (own_cell hrow (j := x * 6 + j) (by rw [flat_cells_get hsc j hj]; exact hv)).1
  refine ⟨g, cap, _, by rw [← hl]; exact hsv, ?_, fun k e => ?_, h.each x _ ns hsc hx, get 0 _ (by omega) rfl, get 1 _ (by omega) rfl, get 2 _ (by omega) rfl, get 3 _ (by omega) rfl, get 4 _ (by omega) rfl, get 5 _ (by omega) rfl⟩
  · rw [h.blocks, hsv]; simp [Value.ownBlock]
  · rw [h.blocks]
    exact List.mem_append.2 (.inr (List.mem_flatMap.2 ⟨_, List.mem_of_getElem? hsc, mem_opt.2 e⟩))

theorem ints_get {l : List Nat} {k x : Nat} (h : l[k]? = some x) : (ints l)[k]? = some (.int .i64 x) := by simp [ints, h]

theorem own_slice {w : World} {base : Nat} {e : TypeId} {size : Nat} {v : Value} {n : Nat} {xs : List Value} (h : w.ownsRow base e size v n xs) : ∃ a c, v = .slice a n c := by
  rcases h.2 with ⟨rfl, h0⟩ | ⟨g, cap, cur, rfl, _⟩
  · exact ⟨none, 0, by rw [h0]⟩
  · exact ⟨_, _, rfl⟩

def numA (xs : Nat) : Array Value := #[.int .i64 (xs : Int)]

set_option maxRecDepth 100000 in
set_option maxHeartbeats 4000000 in
theorem near1_runs (w0 : World) (rb fb rbx base bf : Nat) (s : ByteArray) (first last : Value) (sv fv : Value) (scs : List SC) (sts : List Rx.NS) (F : List Nat) (frm : List Nat) (Rd : Nat → Prop)
    (hrx : Blk w0 rbx [.pointer (some ⟨rb, 0, none⟩)] 23) (hf : Blk w0 fb [fv] 59) (hfrom : w0.ownsRow bf 3 1 fv frm.length (ints frm)) (hf0 : 0 < frm.length) (hf1 : frm.length ≤ 1000000) (hfl : ∀ x ∈ frm, x < sts.length)
    (hrb : Blk w0 rb [.string s, sv, first, last] 53) (hst : StRep w0 base sv scs sts F) (hsound : Rx.Sound sts) (hwt : Rx.wt sts ≤ 1000000)
    (hRd : ∀ k, k = rbx ∨ k = fb ∨ k = rb ∨ k ∈ F ∨ fv.ownBlock = some k → Rd k) :
    Runs Try.prog 34 #[.pointer (some ⟨fb, 0, none⟩), .pointer (some ⟨rbx, 0, none⟩)] numA (Rx.near sts frm) w0 Rd := by
  intro L J Jx B0 hJ hJx hY hR h0
  obtain ⟨g0, cap0, rfl, hcap0, _⟩ := hfrom.form (by omega)
  have hltF := hst.lt
  have hsl := Rx.length_le_wt sts
  have cf : ∀ k (x : Nat), frm[k]? = some x → w0.cell? ⟨g0, k, none⟩ = some (.int .i64 x) := fun k x hk => (own_cell hfrom (ints_get hk)).1
  have hg0 : g0 < w0.heap.size := (hfrom.lt g0 rfl).2
  have cf0 := hf.cell 0 rfl
  have hfb := hf.lt
  have Hfl := Lib.hid hfl
  have HY := Lib.hid hY
  have HJ := Lib.hid hJ
  have HJx := Lib.hid hJx
  have HR := Lib.hid hR
  have H0 := Lib.hid h0
  have Hrx := Lib.hid hrx
  have Hrb := Lib.hid hrb
  have Hst := Lib.hid hst
  have Hsound := Lib.hid hsound
  have HRd := Lib.hid hRd
  have Hcf := Lib.hid cf
  have HltF := Lib.hid hltF
  clear hfl hY hJ hJx hR h0 hrx hrb hst hsound hRd cf hltF hf hfrom
  refine callsIn_of_wp Try.func34 rfl trivial ?_ rfl
  simp only [Try.ntmps34, List.size_toArray, List.length_cons, List.length_nil, Nat.reduceAdd, Nat.reduceSub, Array.replicate_succ, Array.replicate_zero, List.push_toArray, List.append_toArray, List.nil_append, List.cons_append]
  gi_wp2
  have hnew := SetRep.new w0 w0.heap.size (Nat.le_refl _)
  have hb0 : Below w0.heap.size w0 (w0.alloc (.cells #[.map none, .slice none 0 0] 62)) := (Below.refl _ w0).alloc (Nat.le_refl _) _
  generalize w0.alloc (.cells #[.map none, .slice none 0 0] 62) = w1 at *
  have Hnew := Lib.hid hnew
  have Hb0 := Lib.hid hb0
  clear hnew hb0
  gi_loopw [13] (fun i wr => ∃ (k : Nat) (G : List Nat), k ≤ frm.length ∧ i = .int .i64 (k : Int) ∧ SetRep wr w0.heap.size w0.heap.size ((frm.take k).foldl push []) G ∧ Below w0.heap.size w0 wr)
    (fun i _ => frm.length - (intOf i).toNat)
  case atStart => exact ⟨0, [w0.heap.size], Nat.zero_le _, rfl, Hnew.out, Hb0.out⟩
  case round =>
    obtain ⟨k, G, hk, rfl, hset, hbe⟩ := hrel
    have Hset := Lib.hid hset
    have Hbe := Lib.hid hbe
    clear hset hbe Hnew Hb0
    by_cases hlt : k < frm.length
    · have hck : wr.cell? ⟨g0, k, none⟩ = some (.int .i64 (frm[k] : Int)) := (Hbe.out.cell (p := ⟨g0, k, none⟩) hg0).trans (Hcf.out k _ (List.getElem?_eq_getElem hlt))
      have hfew : Few sts.length ((frm.take k).foldl push []) := (Few.nil _).pushes _ (fun x hx => Hfl.out x (List.mem_of_mem_take hx))
      have hx : frm[k] < sts.length := Hfl.out _ (List.getElem_mem _)
      have hfl := hfew.length
      gi_wp2_with (refine ⟨trivial, rfl, ?_⟩; gi_at_call 25; refine (callsIn_wide.2 (put_any _ _ _ _ _ _ Hset.out (by omega) (by omega))).mono ?_; rintro e w2 ⟨rfl, G', h1, h2, h3⟩)
      have hbe2 : Below w0.heap.size w0 w2 := Hbe.out.trans (h2.below Hbe.out.size (fun i hi hm => by have := (Hset.out.lt i hm).1; omega))
      have H1 := Lib.hid h1
      have Hbe2 := Lib.hid hbe2
      clear h1 h2 h3 hbe2 Hset Hbe
      go_roundw
      case rel =>
        refine ⟨k + 1, G', by omega, by go_num, ?_, Hbe2.out⟩
        rw [List.take_succ_eq_append_getElem hlt, List.foldl_append]
        exact H1.out
      case measure => simp [intOf]; omega
    · obtain rfl : k = frm.length := by omega
      have hset := Hset.out
      rw [List.take_length] at hset
      have Hset := Lib.hid hset
      clear hset
      gi_wp2
      have hfew : Few sts.length (frm.foldl push []) := (Few.nil _).pushes _ (fun x hx => Hfl.out x hx)
      have Hfew := Lib.hid hfew
      clear hfew
      have HM := Lib.hid (show Mod B0 w0 wr from .of_new Hbe.out)
      have HJ0 := Lib.hid (HJ.out.keep _ _ _ _ H0.out Hbe.out.size (fun k hk => Hbe.out.block k (HJ.out.lt _ _ _ H0.out k hk)))
      have HB0 := Lib.hid (HJ.out.lt _ _ _ H0.out)
      clear Hbe H0
      have Hst2 := Lib.hid (show ∃ G, SetRep wr w0.heap.size w0.heap.size (frm.foldl push []) G from ⟨_, Hset.out⟩)
      clear Hset
      clear cf0
      gi_loopw [7] (fun i wr => ∃ (j k : Nat) (l G : List Nat) (B : Nat → Prop), i = .int .i64 (j : Int) ∧ j ≤ l.length ∧ SetRep wr w0.heap.size w0.heap.size l G ∧ Few sts.length l ∧ Rx.near sts frm = Rx.front sts k l j ∧ sts.length + 1 ≤ k + j ∧
          J (l.take j) B wr ∧ (∀ k ∈ G, ¬ B k) ∧ (∀ k, B k → B0 k ∨ w0.heap.size ≤ k) ∧ Mod B0 w0 wr)
        (fun i _ => sts.length + 1 - (intOf i).toNat)
      case atStart =>
        obtain ⟨G, hG⟩ := Hst2.out
        exact ⟨0, sts.length + 1, _, G, B0, rfl, Nat.zero_le _, hG, Hfew.out, rfl, by omega, HJ0.out, fun k hk hb => by have := HB0.out k hb; have := (hG.lt k hk).1; omega, fun k hk => .inl hk, HM.out⟩
      case round =>
        obtain ⟨j, k, l, G, B, rfl, hj, hset, hfew, hnear, hk, hJl, hGB, hBB, hM⟩ := hrel
        obtain ⟨mv, sv1, hsb, hrow, _, _, _⟩ := hset.ex
        have hsb1 := hsb.cell 1 rfl
        have Hset := Lib.hid hset
        have Hfew2 := Lib.hid hfew
        have hll := hfew.length
        have Hnear := Lib.hid hnear
        have HJl := Lib.hid hJl
        have HGB := Lib.hid hGB
        have HBB := Lib.hid hBB
        have HM2 := Lib.hid hM
        by_cases hlt2 : j < l.length
        · obtain ⟨g1, c1, rfl, _, _⟩ := hrow.form (by omega)
          have hcj : wr.cell? ⟨g1, j, none⟩ = some (.int .i64 (l[j] : Int)) := (own_cell hrow (ints_get (List.getElem?_eq_getElem hlt2))).1
          obtain ⟨rest, hrest⟩ := Rx.front_at (sts := sts) (k := k) hlt2
          obtain ⟨fn, tmps, assign, body, hy, hR⟩ := HY.out (l.take j) l[j] rest B wr (hnear.trans hrest) hJl (fun k hk => hM.block k (HR.out k hk).2 (HR.out k hk).1)
          have HRo := Lib.hid hR
          have Hpre := Lib.hid (show l.take j ++ [l[j]] <+: Rx.near sts frm from ⟨rest, by rw [hnear, hrest, List.append_assoc]; rfl⟩)
          clear hset hrow hfew hnear hJl hGB hBB hM hsb hR hrest
          unfold numA at hy
          have hxl : l[j] < sts.length := Hfew2.out.lt _ (List.getElem_mem _)
          obtain ⟨ns, hns⟩ : ∃ ns, sts[l[j]]? = some ns := ⟨_, List.getElem?_eq_getElem hxl⟩
          obtain ⟨g, cap, sc, rfl, hgF, hnF, hsr, hc0, _, _, _, _, hc5⟩ := Hst.out.read hns
          have Hns := Lib.hid hns
          have HgF := Lib.hid hgF
          have HnF := Lib.hid hnF
          have Hsr := Lib.hid hsr
          have Hc0 := Lib.hid hc0
          have Hc5 := Lib.hid hc5
          clear hns hgF hnF hsr hc0 hc5
          gi_wp2
          refine ⟨rfl, HRo.out.mono ?_⟩
          rintro e W3 ⟨B', hsub, hm, h⟩
          have hBB' : ∀ k, B' k → B0 k ∨ w0.heap.size ≤ k := fun k hk => by
            rcases hsub k hk with h | h
            · exact HBB.out k h
            · have := HM2.out.size; exact .inr (by omega)
          have hM3 : Mod B0 w0 W3 := HM2.out.trans hm (fun i hi hb => by
            rcases HBB.out i hb with h | h
            · exact h
            · omega)
          have hset3 : SetRep W3 w0.heap.size w0.heap.size l G := Hset.out.mod hm HGB.out
          have hGB3 : ∀ k ∈ G, ¬ B' k := fun k hk hb => by
            rcases hsub k hb with h | h
            · exact HGB.out k hk h
            · have := (Hset.out.lt k hk).2; omega
          have HBB3 := Lib.hid hBB'
          have HM3 := Lib.hid hM3
          have Hset3 := Lib.hid hset3
          have HGB3 := Lib.hid hGB3
          clear hsub hm hBB' hM3 hset3 hGB3 HRo hcj hsb1 Hset HGB HBB HM2
          rcases h with ⟨rfl, hJ3⟩ | ⟨rfl, hJ3⟩
          · have HJ3 := Lib.hid hJ3
            have far : ∀ b, b = rbx ∨ b = rb ∨ b ∈ F → b < w0.heap.size ∧ ¬ B0 b := fun b hb => by
              have := HR.out b (HRd.out b (by rcases hb with h | h | h <;> simp [h]))
              exact ⟨this.2, this.1⟩
            have x0 : W3.cell? ⟨rbx, 0, none⟩ = some (.pointer (some ⟨rb, 0, none⟩)) := (HM3.out.cell (p := ⟨rbx, 0, none⟩) (far rbx (.inl rfl)).1 (far rbx (.inl rfl)).2).trans (Hrx.out.cell 0 rfl)
            have x1 : W3.cell? ⟨rb, 1, none⟩ = some (.slice (some ⟨g, 0, none⟩) sts.length cap) := (HM3.out.cell (p := ⟨rb, 1, none⟩) (far rb (.inr (.inl rfl))).1 (far rb (.inr (.inl rfl))).2).trans (Hrb.out.cell 1 rfl)
            have x2 : W3.cell? ⟨g, l[j] * 6, none⟩ = some (.bool sc.takes) := (HM3.out.cell (p := ⟨g, l[j] * 6, none⟩) (far g (.inr (.inr HgF.out))).1 (far g (.inr (.inr HgF.out))).2).trans Hc0.out
            have x3 : W3.cell? ⟨g, l[j] * 6 + 5, none⟩ = some sc.nv := (HM3.out.cell (p := ⟨g, l[j] * 6 + 5, none⟩) (far g (.inr (.inr HgF.out))).1 (far g (.inr (.inr HgF.out))).2).trans Hc5.out
            have hnext : W3.ownsRow base 3 1 sc.nv ns.next.length (ints ns.next) := ownsRow_eq Hsr.out.next (fun k e => HM3.out.block k (far k (.inr (.inr (HnF.out k e)))).1 (far k (.inr (.inr (HnF.out k e)))).2)
            have Hnext := Lib.hid hnext
            have Hfar := Lib.hid far
            clear hJ3 hnext far
            obtain ⟨k2, hfs, hk2⟩ := Rx.front_step Hfew2.out hk hlt2
            have Hfs := Lib.hid (Hnear.out.trans hfs)
            clear hfs
            have htk : l.take j ++ [l[j]] = l.take (j + 1) := (List.take_succ_eq_append_getElem hlt2).symm
            rw [htk] at HJ3
            clear htk
            obtain ⟨a2, c2, hnv⟩ := own_slice Hnext.out
            rw [hnv] at x3
            have Hnv := Lib.hid hnv
            clear hnv
            have hll2 := Hfew2.out.length
            cases htk : ns.takes with
            | true =>
              have e := Hsr.out.takes
              rw [htk] at e
              rw [e] at x2
              have hgr : Rx.grow sts l l[j] = l := by simp [Rx.grow, Rx.more, Hns.out, htk]
              have Hgr := Lib.hid hgr
              clear e htk hgr
              gi_wp2
              go_roundw
              case rel =>
                refine ⟨j + 1, k2, l, G, B', by go_num, by omega, Hset3.out, Hfew2.out, ?_, hk2, HJ3.out, HGB3.out, HBB3.out, HM3.out⟩
                have h := Hfs.out; rwa [Hgr.out] at h
              case measure => simp [intOf]; omega
            | false =>
              have e := Hsr.out.takes
              rw [htk] at e
              rw [e] at x2
              have hgr : Rx.grow sts l l[j] = ns.next.foldl push l := by simp [Rx.grow, Rx.more, Hns.out, htk]
              have Hgr := Lib.hid hgr
              have hnl : ns.next.length ≤ 1000000 := Nat.le_trans (Rx.next_le_wt (List.mem_of_getElem? Hns.out)) hwt
              clear e htk hgr
              gi_wp2
              gi_loopw [53] (fun i wr2 => ∃ (m : Nat) (G2 : List Nat), i = .int .i64 (m : Int) ∧ m ≤ ns.next.length ∧ SetRep wr2 w0.heap.size w0.heap.size ((ns.next.take m).foldl push l) G2 ∧ (∀ k ∈ G2, k ∈ G ∨ W3.heap.size ≤ k) ∧ Mod (· ∈ G) W3 wr2)
                (fun i _ => ns.next.length - (intOf i).toNat)
              case atStart => exact ⟨0, G, rfl, Nat.zero_le _, Hset3.out, fun k hk => .inl hk, Mod.refl _ _⟩
              case round =>
                obtain ⟨m, G2, rfl, hm, hset4, hG4, hM4⟩ := hrel
                have Hset4 := Lib.hid hset4
                have HG4 := Lib.hid hG4
                have HM4 := Lib.hid hM4
                clear hset4 hG4 hM4 x0 x1 x2 x3
                by_cases hlt3 : m < ns.next.length
                · obtain ⟨g2, c3, e3, _, _⟩ := Hnext.out.form (by omega)
                  have hrow2 := Hnext.out
                  rw [e3] at hrow2
                  have Hrow2 := Lib.hid hrow2
                  have e4 := Hnv.out.symm.trans e3
                  simp only [Value.slice.injEq] at e4
                  obtain ⟨rfl, _, rfl⟩ := e4
                  have y0 : W3.cell? ⟨g2, m, none⟩ = some (.int .i64 (ns.next[m] : Int)) := (own_cell Hrow2.out (ints_get (List.getElem?_eq_getElem hlt3))).1
                  have hbk : Value.ownBlock (.slice (some ⟨g2, 0, none⟩) ns.next.length c2) = some g2 := rfl
                  have y1 : wr.cell? ⟨g2, m, none⟩ = some (.int .i64 (ns.next[m] : Int)) := (HM4.out.cell (p := ⟨g2, m, none⟩) (Hrow2.out.lt g2 hbk).2 (fun hG => by
                    have h1 := (Hset3.out.lt g2 hG).1
                    have h2 := (Hfar.out g2 (.inr (.inr (HnF.out g2 (by rw [e3]; rfl))))).1
                    omega)).trans y0
                  have hnx : ∀ y ∈ ns.next, y < sts.length := (Hsound.out ns (List.mem_of_getElem? Hns.out)).1
                  have hfew4 : Few sts.length ((ns.next.take m).foldl push l) := Hfew2.out.pushes _ (fun y hy => hnx y (List.mem_of_mem_take hy))
                  have hx4 : ns.next[m] < sts.length := hnx _ (List.getElem_mem _)
                  have hfl4 := hfew4.length
                  have Hfew4 := Lib.hid hfew4
                  clear y0 hnx hfew4 e3 hrow2
                  gi_wp2_with (refine ⟨trivial, rfl, ?_⟩; gi_at_call 25; refine (callsIn_wide.2 (put_any _ _ _ _ _ _ Hset4.out (by omega) (by omega))).mono ?_; rintro e w5 ⟨rfl, G5, h1, h2, h3⟩)
                  have H1 := Lib.hid h1
                  have H2 := Lib.hid h2
                  have H3 := Lib.hid h3
                  clear h1 h2 h3
                  go_roundw
                  case rel =>
                    refine ⟨m + 1, G5, by go_num, by omega, ?_, fun k hk => ?_, HM4.out.trans H2.out (fun i hi hG => ?_)⟩
                    · rw [List.take_succ_eq_append_getElem hlt3, List.foldl_append]
                      exact H1.out
                    · rcases H3.out k hk with h | h
                      · exact HG4.out k h
                      · have := HM4.out.size; exact .inr (by omega)
                    · rcases HG4.out i hG with h | h
                      · exact h
                      · omega
                  case measure => simp [intOf]; omega
                · obtain rfl : m = ns.next.length := by omega
                  gi_wp2
                  go_roundw
                  case rel =>
                    have hset5 := Hset4.out
                    rw [List.take_length] at hset5
                    have hBl := HJ.out.lt _ _ _ HJ3.out
                    have hfr := Hfs.out
                    rw [Hgr.out] at hfr
                    have hpx : (ns.next.foldl push l).take (j + 1) = l.take (j + 1) := by
                      obtain ⟨t, ht⟩ := pushes_prefix ns.next l
                      rw [← ht, List.take_append_of_le_length (by omega)]
                    refine ⟨j + 1, k2, _, G2, B', by go_num, ?_, hset5, ?_, hfr, hk2, ?_, fun k hk hb => ?_, HBB3.out, HM3.out.trans HM4.out (fun i hi hG => ?_)⟩
                    · have := (pushes_prefix ns.next l).length_le; omega
                    · exact Hfew2.out.pushes _ (Hsound.out ns (List.mem_of_getElem? Hns.out)).1
                    · rw [hpx]
                      exact HJ.out.keep _ _ _ _ HJ3.out HM4.out.size (fun k hk => HM4.out.block k (hBl k hk) (fun hG => HGB3.out k hG hk))
                    · rcases HG4.out k hk with h | h
                      · exact HGB3.out k h hb
                      · have := hBl k hb; omega
                    · have := (Hset3.out.lt i hG).1; omega
                  case measure => simp [intOf]; omega
          · gi_wp2
            refine bodyPost_ret (results_none rfl _ _ _) rfl ?_
            exact ⟨⟨_, rfl⟩, B', HBB3.out, HM3.out, .inr ⟨_, Hpre.out, hJ3⟩⟩
        · obtain rfl : j = l.length := by omega
          obtain ⟨a1, c1, rfl⟩ := own_slice hrow
          clear hset hrow hfew hnear hJl hGB hBB hM hsb
          gi_wp2
          go_end0
          refine ⟨⟨_, rfl⟩, B, HBB.out, HM2.out, .inl ?_⟩
          have h := HJl.out
          rw [List.take_length] at h
          rw [Hnear.out, Rx.front_done (Nat.le_refl _)]
          exact h

end Go.Proofs.Ytnbghiaggapoiaa
