/- Package regex: Compile: a text as a pattern, or the first that is wrong, and where; its panic is caught in a deferred call. -/
import Derived.Test.YtnbghiaggapoiaaChoice
import Derived.Defers
import Derived.Recover
namespace Go.Proofs.Ytnbghiaggapoiaa
set_option linter.unusedSimpArgs false
set_option linter.unusedVariables false
open Go.RowKit Go.Proofs
open Rx (NS Got)

set_option maxHeartbeats 1000000 in
theorem catch_panicking (pr pi pe : Nat) (x0 x1 x2 : Value) (i c : Nat) (older : List PanicEntry) (w : World) 
    (hr : Blk w pr [x0] 23) (hi : Blk w pi [x1] 3) (he : Blk w pe [x2] 24) (d1 : pr ≠ pi) (d2 : pr ≠ pe) (d3 : pi ≠ pe) :
    CallsD Try.prog 18 #[.pointer (some ⟨pr, 0, none⟩), .pointer (some ⟨pi, 0, none⟩), .pointer (some ⟨pe, 0, none⟩)] (.panicking (badE i c :: older)) w fun e u' w' =>
      e = .returned (.tuple #[]) ∧ u' = .panicking ({ badE i c with recovered := true } :: older) ∧ Blk w' pr [.pointer none] 23 ∧ Blk w' pi [.int .i64 (i : Int)] 3 ∧ Blk w' pe [.int .i64 (c : Int)] 24 ∧ Mod (fun k => k = pr ∨ k = pi ∨ k = pe) w w' := by
  refine callsD_of_wpS Try.func18 rfl fun c₀ cs hu => ?_
  apply wpS_seq
  apply wpS_region
  simp only [Try.ntmps18, List.size_toArray, List.length_cons, List.length_nil, Nat.reduceAdd, Nat.reduceSub, Array.replicate_succ, Array.replicate_zero, List.push_toArray, List.append_toArray, List.nil_append, List.cons_append]
  simp [wpOpsS, go_sem, recoverD, hu, badE, Exit.thenS]
  refine wpS_of_wp ?_
  have hta : ∀ w, (Instr.typeAssert (.iface 43 (.agg #[.int .i64 (i : Int), .int .i64 (c : Int)])) 20 43 true).run Try.prog w = .ok (.tuple #[.agg #[.int .i64 (i : Int), .int .i64 (c : Int)], .bool true]) w := fun _ => by kernel_rfl
  have c0 := hr.cell 0 rfl
  have c1 := hi.cell 0 rfl
  have c2 := he.cell 0 rfl
  have f0 := hr.free 0
  have f1 := hi.free 0
  have f2 := he.free 0
  have Hr := Lib.hid hr
  have Hi := Lib.hid hi
  have He := Lib.hid he
  clear hr hi he
  go_wp2
  have hr := Hr.out.alloc (.cells #[.int .i64 (i : Int), .int .i64 (c : Int)] 43)
  have hi := Hi.out.alloc (.cells #[.int .i64 (i : Int), .int .i64 (c : Int)] 43)
  have he := He.out.alloc (.cells #[.int .i64 (i : Int), .int .i64 (c : Int)] 43)
  have hx := Blk.new w [.int .i64 (i : Int), .int .i64 (c : Int)] 43
  have hm : Mod (fun k => k = pr ∨ k = pi ∨ k = pe) w (w.alloc (.cells #[.int .i64 (i : Int), .int .i64 (c : Int)] 43)) := (Mod.refl _ _).alloc _
  have n0 := Hr.out.lt
  have n1 := Hi.out.lt
  have n2 := He.out.lt
  clear c0 c1 c2 f0 f1 f2 Hr Hi He
  generalize w.alloc (.cells #[.int .i64 (i : Int), .int .i64 (c : Int)] 43) = w1 at *
  have c0 := hr.cell 0 rfl
  have c1 := hi.cell 0 rfl
  have c2 := he.cell 0 rfl
  have f0 := hr.free 0
  have f1 := hi.free 0
  have f2 := he.free 0
  have y0 := hx.cell 0 rfl
  have y1 := hx.cell 1 rfl
  have Hr := Lib.hid hr
  have Hi := Lib.hid hi
  have He := Lib.hid he
  have Hm := Lib.hid hm
  clear hr hi he hx hm
  have d1' : pi ≠ pr := Ne.symm d1
  have d2' : pe ≠ pr := Ne.symm d2
  have d3' : pe ≠ pi := Ne.symm d3
  go_region
  all_goals
    go_wp2
    refine ⟨rfl, _, rfl, _, results_none rfl _ _ _, rfl, rfl, ?_, ?_, ?_, ?_⟩
    · exact (((Hr.out.set 0 (.pointer none)).setOther (p := ⟨pi, 0, none⟩) d1 (.int .i64 (i : Int))).setOther (p := ⟨pe, 0, none⟩) d2 (.int .i64 (c : Int))).drew
    · exact (((Hi.out.setOther (p := ⟨pr, 0, none⟩) d1' (.pointer none)).set 0 (.int .i64 (i : Int))).setOther (p := ⟨pe, 0, none⟩) d3 (.int .i64 (c : Int))).drew
    · exact (((He.out.setOther (p := ⟨pr, 0, none⟩) d2' (.pointer none)).setOther (p := ⟨pi, 0, none⟩) d3' (.int .i64 (i : Int))).set 0 (.int .i64 (c : Int))).drew
    · exact (((Hm.out.setCell (p := ⟨pr, 0, none⟩) (fun _ => .inl rfl) (.pointer none)).setCell (p := ⟨pi, 0, none⟩) (fun _ => .inr (.inl rfl)) (.int .i64 (i : Int))).setCell (p := ⟨pe, 0, none⟩) (fun _ => .inr (.inr rfl)) (.int .i64 (c : Int))).drew

set_option maxHeartbeats 1000000 in
theorem catch_idle (a b c : Value) (w : World) :
    CallsD Try.prog 18 #[a, b, c] .returning w fun e u' w' => e = .returned (.tuple #[]) ∧ u' = .returning ∧ w' = w := by
  refine callsD_of_wpS Try.func18 rfl fun c₀ cs hu => ?_
  apply wpS_seq
  apply wpS_region
  simp only [Try.ntmps18, List.size_toArray, List.length_cons, List.length_nil, Nat.reduceAdd, Nat.reduceSub, Array.replicate_succ, Array.replicate_zero, List.push_toArray, List.append_toArray, List.nil_append, List.cons_append]
  simp [wpOpsS, go_sem, recoverD, hu, Exit.thenS]
  refine wpS_of_wp ?_
  go_wp2
  cases c₀
  subst hu
  exact ⟨rfl, _, rfl, _, results_none rfl _ _ _, rfl, rfl, rfl⟩

/-- A pattern that is made: its text, its states, in a block of its own. -/
structure RegexAt (w : World) (base rb : Nat) (s : ByteArray) (re : Rx.Re) (F : List Nat) : Prop where
  ex : ∃ sv scs, Blk w rb [.string s, sv, .int .i64 ((Rx.build re []).1 : Int), .int .i64 ((Rx.build re []).2.1 : Int)] 53 ∧ StRep w base sv scs (Rx.build re []).2.2 F ∧ rb ∉ F ∧ base ≤ rb

/-- What Compile comes to. -/
def CompileEnds (s : ByteArray) (w : World) (e : Ending) (w' : World) : Prop := Below w.heap.size w w' ∧ match Rx.parse (tx s) with
  | .bad i c => e = .returned (.tuple #[.pointer none, .int .i64 (i : Int), .int .i64 (c : Int)])
  | .ok re => ∃ rb F, e = .returned (.tuple #[.pointer (some ⟨rb, 0, none⟩), .int .i64 0, .int .i64 0]) ∧ RegexAt w' w.heap.size rb s re F

set_option maxHeartbeats 1000000 in
theorem compile_long (s : ByteArray) (w : World) (hs : 64 < s.size) (hs2 : s.size ≤ 140737488351232) : Calls Try.prog 9 #[.string s] w (CompileEnds s w) := by
  have hp : Rx.parse (tx s) = .bad 0 4 := by unfold Rx.parse; rw [if_pos (by simpa using hs)]
  have Hp := Lib.hid hp
  clear hp
  go_enter_defers Try.func9, Try.ntmps9
  go_wp2
  refine ⟨.tuple #[.pointer none, .int .i64 0, .int .i64 4], by simp [results, Try.results9, go_sem], by go_grown, ?_⟩
  rw [Hp.out]
  rfl

theorem compile_results (tmps : Array Value) (w : World) (a b c : Addr) (v0 v1 v2 : Value) (h2 : tmps.getD 2 undef = .pointer (some a)) (h3 : tmps.getD 3 undef = .pointer (some b)) (h4 : tmps.getD 4 undef = .pointer (some c))
    (c0 : w.cell? a = some v0) (c1 : w.cell? b = some v1) (c2 : w.cell? c = some v2) : (results Try.f9 tmps).run Try.prog w = .ok (.tuple #[v0, v1, v2]) w := by
  have h2' : tmps[2]?.getD undef = .pointer (some a) := by simpa using h2
  have h3' : tmps[3]?.getD undef = .pointer (some b) := by simpa using h3
  have h4' : tmps[4]?.getD undef = .pointer (some c) := by simpa using h4
  simp [results, Try.results9, go_sem, h2', h3', h4', c0, c1, c2]

/-- Where a panic that tells an error is caught: the three results are laid. -/
theorem caught (s : ByteArray) (w w1 : World) (j c : Nat) (x0 x1 x2 : Value) (hm : Below w.heap.size w w1) (hr : Blk w1 w.heap.size [x0] 23) (hi : Blk w1 (w.heap.size + 1) [x1] 3) (he : Blk w1 (w.heap.size + 1 + 1) [x2] 24)
    (hp : Rx.parse (tx s) = .bad j c) (a : Act) (h2 : a.tmps.getD 2 undef = .pointer (some ⟨w.heap.size, 0, none⟩)) (h3 : a.tmps.getD 3 undef = .pointer (some ⟨w.heap.size + 1, 0, none⟩)) (h4 : a.tmps.getD 4 undef = .pointer (some ⟨w.heap.size + 1 + 1, 0, none⟩))
    (hd : a.defers = [{ target := Target.fn (Fn.func 18) #[.pointer (some ⟨w.heap.size, 0, none⟩), .pointer (some ⟨w.heap.size + 1, 0, none⟩), .pointer (some ⟨w.heap.size + 1 + 1, 0, none⟩)], args := #[] }]) :
    bodyPostD Try.prog Try.f9 (CompileEnds s w) (Exit.panic [badE j c]) a w1 := by
  obtain ⟨tmps, defers⟩ := a
  dsimp only at hd h2 h3 h4
  subst hd
  refine leaves_cons (f := 18) (args := #[.pointer (some ⟨w.heap.size, 0, none⟩), .pointer (some ⟨w.heap.size + 1, 0, none⟩), .pointer (some ⟨w.heap.size + 1 + 1, 0, none⟩)]) (by simp) (by simp [go_sem]) ?_
  refine (catch_panicking _ _ _ x0 x1 x2 j c [] w1 hr hi he (by omega) (by omega) (by omega)).mono ?_
  rintro e u' w2 ⟨rfl, rfl, hr2, hi2, he2, hm2⟩
  have c0 := hr2.cell 0 rfl
  have c1 := hi2.cell 0 rfl
  have c2 := he2.cell 0 rfl
  have hb2 : Below w.heap.size w w2 := hm.trans (hm2.below hm.size (fun i hi => by omega))
  refine ⟨.tuple #[.pointer none, .int .i64 (j : Int), .int .i64 (c : Int)], ?_, hb2, ?_⟩
  · exact compile_results tmps w2 _ _ _ _ _ _ h2 h3 h4 c0 c1 c2
  · rw [hp]

set_option maxHeartbeats 1000000 in
theorem compile_any (s : ByteArray) (w : World) (hs : s.size ≤ 64) : Calls Try.prog 9 #[.string s] w (CompileEnds s w) := by
  have hmf : ∀ (fn : Fn) (first cap : Array Value) (w : World), (Instr.makeFunc fn first cap).run Try.prog w = .ok (.func fn first cap) w := fun _ _ _ _ => rfl
  have hlen : (tx s).length = s.size := by simp
  have hparse : Rx.parse (tx s) = (Rx.rows (tx s) (Rx.fuel (tx s) 0) .alt0 0 0).bind fun x => if x.2 < (tx s).length then .bad x.2 2 else .ok x.1 := by
    unfold Rx.parse; rw [if_neg (by rw [hlen]; omega)]
  rw [hlen] at hparse
  have Hparse := Lib.hid hparse
  have Hlen := Lib.hid hlen
  clear hparse hlen
  go_enter_defers Try.func9, Try.ntmps9
  go_wp2_with fail
  have hbel : Below w.heap.size w ((((w.alloc (.cells #[.pointer none] 23)).alloc (.cells #[.int .i64 0] 3)).alloc (.cells #[.int .i64 0] 24)).alloc (.cells #[.string s, .int .i64 0, .int .i64 0, .slice none 0 0] 47)) := by go_grown
  have hr : Blk ((((w.alloc (.cells #[.pointer none] 23)).alloc (.cells #[.int .i64 0] 3)).alloc (.cells #[.int .i64 0] 24)).alloc (.cells #[.string s, .int .i64 0, .int .i64 0, .slice none 0 0] 47)) w.heap.size [.pointer none] 23 := (((Blk.new w [.pointer none] 23).alloc _).alloc _).alloc _
  have hi : Blk ((((w.alloc (.cells #[.pointer none] 23)).alloc (.cells #[.int .i64 0] 3)).alloc (.cells #[.int .i64 0] 24)).alloc (.cells #[.string s, .int .i64 0, .int .i64 0, .slice none 0 0] 47)) (w.heap.size + 1) [.int .i64 0] 3 :=
    ((show Blk ((w.alloc (.cells #[.pointer none] 23)).alloc (.cells #[.int .i64 0] 3)) (w.heap.size + 1) [.int .i64 0] 3 from heap_alloc_at (by simp)).alloc _).alloc _
  have he : Blk ((((w.alloc (.cells #[.pointer none] 23)).alloc (.cells #[.int .i64 0] 3)).alloc (.cells #[.int .i64 0] 24)).alloc (.cells #[.string s, .int .i64 0, .int .i64 0, .slice none 0 0] 47)) (w.heap.size + 1 + 1) [.int .i64 0] 24 :=
    (show Blk (((w.alloc (.cells #[.pointer none] 23)).alloc (.cells #[.int .i64 0] 3)).alloc (.cells #[.int .i64 0] 24)) (w.heap.size + 1 + 1) [.int .i64 0] 24 from heap_alloc_at (by simp)).alloc _
  have hpb : Blk ((((w.alloc (.cells #[.pointer none] 23)).alloc (.cells #[.int .i64 0] 3)).alloc (.cells #[.int .i64 0] 24)).alloc (.cells #[.string s, .int .i64 0, .int .i64 0, .slice none 0 0] 47)) (w.heap.size + 1 + 1 + 1) [.string s, .int .i64 0, .int .i64 0, .slice none 0 0] 47 := heap_alloc_at (by simp)
  generalize ((((w.alloc (.cells #[.pointer none] 23)).alloc (.cells #[.int .i64 0] 3)).alloc (.cells #[.int .i64 0] 24)).alloc (.cells #[.string s, .int .i64 0, .int .i64 0, .slice none 0 0] 47)) = w4 at *
  have hp : PAt w4 w.heap.size (w.heap.size + 1 + 1 + 1) s 0 0 [] [w.heap.size + 1 + 1 + 1] :=
    ⟨.slice none 0 0, [], [], hpb, ⟨World.ownsRow_nil _ _ _ _, rfl, fun i sc ns h => by simp at h, rfl, List.nodup_nil⟩, rfl, by simp, by omega⟩
  have hl4 := hpb.lt
  clear hpb
  refine ((all_ok (Rx.fuel (tx s) 0)).1 w4 _ _ s 0 0 [] _ hp (by omega) (by omega) (by omega) (by simp [Rx.wt]; omega) (by unfold Rx.fuel; rw [Hlen.out]; omega)).mono ?_
  rintro e w5 hce
  cases hrows : Rx.rows (tx s) (Rx.fuel (tx s) 0) .alt0 0 0 with
  | bad j c =>
    obtain ⟨rfl, hm5⟩ := EndsP.bad hce hrows
    have hk : ∀ k, k < w.heap.size + 1 + 1 + 1 → w5.heap[k]? = w4.heap[k]? := fun k hk => hm5.block k (by omega) (by simp; omega)
    exact caught s w w5 j c _ _ _ (hbel.trans (hm5.below (by omega) (fun i hi => by simp; omega))) (hr.kept (hk _ (by omega))) (hi.kept (hk _ (by omega))) (he.kept (hk _ (by omega))) (by rw [Hparse.out, hrows]; rfl) _ rfl rfl rfl rfl
  | ok x =>
    obtain ⟨re, j⟩ := x
    obtain ⟨rfl, F5, hp5, hg5⟩ := EndsP.ok hce hrows
    dsimp only at hp5
    have hn : ∀ k, k < w.heap.size + 1 + 1 + 1 → k ∉ [w.heap.size + 1 + 1 + 1] := fun k hk => by simp; omega
    have hr5 := hr.kept (hg5.keep hr.lt (hn _ (by omega)))
    have hi5 := hi.kept (hg5.keep hi.lt (hn _ (by omega)))
    have he5 := he.kept (hg5.keep he.lt (hn _ (by omega)))
    have hnr := hg5.out hr.lt (hn _ (by omega))
    have hni := hg5.out hi.lt (hn _ (by omega))
    have hne := hg5.out he.lt (hn _ (by omega))
    have hb5 : Below w.heap.size w w5 := hbel.trans (hg5.mod.below (by omega) (fun i hi => by simp; omega))
    clear hce hg5 hp hn hr hi he hbel
    unfold partV
    generalize hbd : Rx.build re [] = bd at hp5 ⊢
    obtain ⟨f, l, st⟩ := bd
    dsimp only at hp5 ⊢
    have hbA : Below w5.heap.size w5 (w5.alloc (.cells #[.int .i64 (f : Int), .int .i64 (l : Int)] 49)) := (Below.refl _ _).alloc (Nat.le_refl _) _
    have hp6 := hp5.new hbA
    have hr6 := hr5.alloc (.cells #[.int .i64 (f : Int), .int .i64 (l : Int)] 49)
    have hi6 := hi5.alloc (.cells #[.int .i64 (f : Int), .int .i64 (l : Int)] 49)
    have he6 := he5.alloc (.cells #[.int .i64 (f : Int), .int .i64 (l : Int)] 49)
    have hx6 := Blk.new w5 [.int .i64 (f : Int), .int .i64 (l : Int)] 49
    have hb6 := hb5.trans (hbA.mono (Nat.le_trans (Nat.le_refl _) hb5.size))
    have hl5 := he5.lt
    have hc6 := hp6.cells
    have Hbd := Lib.hid hbd
    have Hrows := Lib.hid hrows
    clear hbd hrows hbA hr5 hi5 he5 hb5 hp5
    obtain ⟨sv, scs, G, hpb, hst, hF, hpG, hbase⟩ := hp6.ex
    have hbl := (build_lt re []).1
    rw [Hbd.out] at hbl
    dsimp only at hbl
    obtain ⟨gg, cap, hsv, _, _⟩ := hst.row.form (by rw [hst.len]; omega)
    subst hsv
    have k3 := hpb.cell 3 rfl
    obtain ⟨k0, k1, _, _, _⟩ := hc6
    have Hp6 := Lib.hid hp6
    have Hr6 := Lib.hid hr6
    have Hi6 := Lib.hid hi6
    have He6 := Lib.hid he6
    have Hx6 := Lib.hid hx6
    have Hb6 := Lib.hid hb6
    have Hst := Lib.hid hst
    have HF := Lib.hid hF
    clear hp6 hr6 hi6 he6 hx6 hb6 hst hF hpb
    by_cases hjl : j < s.size
    · have hjl' : (j : Int) < s.size := by omega
      go_wp2_with fail
      refine (fail_any _ j 2 _).mono ?_
      rintro e w' ⟨rfl, rfl⟩
      exact caught s w _ j 2 _ _ _ Hb6.out Hr6.out Hi6.out He6.out (by rw [Hparse.out, Hrows.out]; simp [Got.bind, hjl]) _ rfl rfl rfl rfl
    · have hjl' : (s.size : Int) ≤ j := by omega
      go_wp2_with fail
      have hr6 := Hr6.out
      have hi6 := Hi6.out
      have he6 := He6.out
      have hx6 := Hx6.out
      have hst := Hst.out
      have hb6 := Hb6.out
      have hp6 := Hp6.out
      have hsz : (w5.alloc (.cells #[.int .i64 (f : Int), .int .i64 (l : Int)] 49)).heap.size = w5.heap.size + 1 := by simp
      clear k0 k1 Hr6 Hi6 He6 Hx6 Hst Hb6 Hp6
      generalize w5.alloc (.cells #[.int .i64 (f : Int), .int .i64 (l : Int)] 49) = w6 at *
      have y0 := hx6.cell 0 rfl
      have y1 := hx6.cell 1 rfl
      have hbA : Below w6.heap.size w6 (w6.alloc (.cells #[.string s, .slice (some ⟨gg, 0, none⟩) scs.length cap, .int .i64 (f : Int), .int .i64 (l : Int)] 53)) := (Below.refl _ _).alloc (Nat.le_refl _) _
      have hr7 := hr6.alloc (.cells #[.string s, .slice (some ⟨gg, 0, none⟩) scs.length cap, .int .i64 (f : Int), .int .i64 (l : Int)] 53)
      have hi7 := hi6.alloc (.cells #[.string s, .slice (some ⟨gg, 0, none⟩) scs.length cap, .int .i64 (f : Int), .int .i64 (l : Int)] 53)
      have he7 := he6.alloc (.cells #[.string s, .slice (some ⟨gg, 0, none⟩) scs.length cap, .int .i64 (f : Int), .int .i64 (l : Int)] 53)
      have hx7 := Blk.new w6 [.string s, .slice (some ⟨gg, 0, none⟩) scs.length cap, .int .i64 (f : Int), .int .i64 (l : Int)] 53
      have hst7 := hst.kept (w' := w6.alloc (.cells #[.string s, .slice (some ⟨gg, 0, none⟩) scs.length cap, .int .i64 (f : Int), .int .i64 (l : Int)] 53)) (fun k hk => hbA.block k (hst.lt k hk).2)
      have hb7 := hb6.trans (hbA.mono hb6.size)
      have c0 := hr7.cell 0 rfl
      have c1 := hi7.cell 0 rfl
      have c2 := he7.cell 0 rfl
      have f0 := hr7.free 0
      have f1 := hi7.free 0
      have f2 := he7.free 0
      have Hr7 := Lib.hid hr7
      have Hi7 := Lib.hid hi7
      have He7 := Lib.hid he7
      have Hx7 := Lib.hid hx7
      have Hst7 := Lib.hid hst7
      have Hb7 := Lib.hid hb7
      have hl6 := he6.lt
      have hnG : ∀ k ∈ G, k ≠ w.heap.size ∧ k ≠ w.heap.size + 1 ∧ k ≠ w.heap.size + 1 + 1 ∧ k < w6.heap.size := by
        intro k hk
        have hm : k ∈ F5 := by rw [HF.out]; simp [hk]
        exact ⟨fun e => hnr (e ▸ hm), fun e => hni (e ▸ hm), fun e => hne (e ▸ hm), (hst.lt k hk).2⟩
      have HnG := Lib.hid hnG
      clear hr6 hi6 he6 hx6 hst hb6 hp6 hsz hr7 hi7 he7 hx7 hst7 hb7 hbA hnG
      go_region
      all_goals
        go_wp2_with fail
        refine leaves_cons (f := 18) (args := #[.pointer (some ⟨w.heap.size, 0, none⟩), .pointer (some ⟨w.heap.size + 1, 0, none⟩), .pointer (some ⟨w.heap.size + 1 + 1, 0, none⟩)]) (by simp) (by simp [go_sem]) ?_
        refine (catch_idle _ _ _ _).mono ?_
        rintro e u' w8 ⟨rfl, rfl, rfl⟩
        have hr8 := (((Hr7.out.set 0 (.pointer (some ⟨w6.heap.size, 0, none⟩))).setOther (p := ⟨w.heap.size + 1, 0, none⟩) (by simp) (.int .i64 0)).setOther (p := ⟨w.heap.size + 1 + 1, 0, none⟩) (by simp; omega) (.int .i64 0)).drew.cell 0 rfl
        have hi8 := (((Hi7.out.setOther (p := ⟨w.heap.size, 0, none⟩) (by simp) (.pointer (some ⟨w6.heap.size, 0, none⟩))).set 0 (.int .i64 0)).setOther (p := ⟨w.heap.size + 1 + 1, 0, none⟩) (by simp) (.int .i64 0)).drew.cell 0 rfl
        have he8 := (((He7.out.setOther (p := ⟨w.heap.size, 0, none⟩) (by simp; omega) (.pointer (some ⟨w6.heap.size, 0, none⟩))).setOther (p := ⟨w.heap.size + 1, 0, none⟩) (by simp) (.int .i64 0)).set 0 (.int .i64 0)).drew.cell 0 rfl
        have hx8 := (((Hx7.out.setOther (p := ⟨w.heap.size, 0, none⟩) (by simp; omega) (.pointer (some ⟨w6.heap.size, 0, none⟩))).setOther (p := ⟨w.heap.size + 1, 0, none⟩) (by simp; omega) (.int .i64 0)).setOther (p := ⟨w.heap.size + 1 + 1, 0, none⟩) (by simp; omega) (.int .i64 0)).drew
        have hb8 := (((Hb7.out.setCell (p := ⟨w.heap.size, 0, none⟩) (Nat.le_refl _) (.pointer (some ⟨w6.heap.size, 0, none⟩))).setCell (p := ⟨w.heap.size + 1, 0, none⟩) (by simp) (.int .i64 0)).setCell (p := ⟨w.heap.size + 1 + 1, 0, none⟩) (by simp; omega) (.int .i64 0)).drew
        have hst8 := Hst7.out.kept (w' := ((((w6.alloc (.cells #[.string s, .slice (some ⟨gg, 0, none⟩) scs.length cap, .int .i64 (f : Int), .int .i64 (l : Int)] 53)).setCell ⟨w.heap.size, 0, none⟩ (.pointer (some ⟨w6.heap.size, 0, none⟩))).setCell ⟨w.heap.size + 1, 0, none⟩ (.int .i64 0)).setCell ⟨w.heap.size + 1 + 1, 0, none⟩ (.int .i64 0)).drew)
          (fun k hk => (Below.heap_setCell _ _ _ _ (HnG.out k hk).2.2.1).trans ((Below.heap_setCell _ _ _ _ (HnG.out k hk).2.1).trans (Below.heap_setCell _ _ _ _ (HnG.out k hk).1)))
        have hpar : Rx.parse (tx s) = .ok re := by rw [Hparse.out, Hrows.out]; simp [Got.bind, hjl]
        refine ⟨.tuple #[.pointer (some ⟨w6.heap.size, 0, none⟩), .int .i64 0, .int .i64 0], ?_, hb8, ?_⟩
        · exact compile_results _ _ _ _ _ _ _ _ rfl rfl rfl hr8 hi8 he8
        · rw [hpar]
          refine ⟨w6.heap.size, G, rfl, ⟨.slice (some ⟨gg, 0, none⟩) scs.length cap, scs, ?_, ?_, fun hm => by have := (HnG.out _ hm).2.2.2; omega, by omega⟩⟩
          · rw [Hbd.out]; exact hx8
          · rw [Hbd.out]; exact hst8

end Go.Proofs.Ytnbghiaggapoiaa
