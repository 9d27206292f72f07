/- The reference: Compile, whole. -/
import Derived.Test.YtnbghiaggapoiaaRefChoice
import Derived.RegionTactic
import Derived.ChangeAlike
namespace Go.Proofs.Ytnbghiaggapoiaa
set_option linter.unusedSimpArgs false
set_option linter.unusedVariables false
open Go.RowKit Go.Proofs
open Rx (NS Got)

/-- What the reference's Compile comes to. -/
def RCEnds (s : ByteArray) (w : World) (e : Ending) (w' : World) : Prop := Below w.heap.size w w' ∧ match Rx.parse (tx s) with
  | .bad i c => c ≠ 0 ∧ e = .returned (.tuple #[.agg #[.int .u8 0, .bool false, .slice none 0 0, .slice none 0 0], .int .i64 (i : Int), .int .i64 (c : Int)])
  | .ok re => ∃ nc nd F, e = .returned (.tuple #[NC.val nc, .int .i64 0, .int .i64 0]) ∧ Corr nd re ∧ NRep w' nc nd F ∧ ∀ k ∈ F, w.heap.size ≤ k ∧ k < w'.heap.size

theorem refc_results (tmps : Array Value) (w : World) (R : Nat) (x0 x1 x2 x3 v3 v4 : Value) (h2 : tmps.getD 2 undef = .pointer (some ⟨R, 0, none⟩)) (h3 : tmps.getD 3 undef = v3) (h4 : tmps.getD 4 undef = v4) (hR : Blk w R [x0, x1, x2, x3] 30) :
    (results Try.f10 tmps).run Try.prog w = .ok (.tuple #[.agg #[x0, x1, x2, x3], v3, v4]) w := by
  have h2' : tmps[2]?.getD undef = .pointer (some ⟨R, 0, none⟩) := by simpa using h2
  have h3' : tmps[3]?.getD undef = v3 := by simpa using h3
  have h4' : tmps[4]?.getD undef = v4 := by simpa using h4
  have k0 := hR.cell 0 rfl
  have k1 := hR.cell 1 rfl
  have k2 := hR.cell 2 rfl
  have k3 := hR.cell 3 rfl
  simp [results, Try.results10, go_sem, h2', h3', h4', asAddr, k0, k1, k2, k3]

set_option maxHeartbeats 1000000 in
theorem refcompile_long (s : ByteArray) (w : World) (hs : 64 < s.size) (hs2 : s.size ≤ 140737488351232) : Calls Try.prog 10 #[.string s] w (RCEnds s w) := by
  have hp : Rx.parse (tx s) = .bad 0 4 := by unfold Rx.parse; rw [if_pos (by simpa using hs)]
  have Hp := Lib.hid hp
  clear hp
  go_enter Try.func10, Try.ntmps10
  go_wp2
  refine bodyPost_ret (refc_results _ _ w.heap.size _ _ _ _ _ _ rfl rfl rfl (Blk.new w [.int .u8 0, .bool false, .slice none 0 0, .slice none 0 0] 30)) rfl ?_
  refine ⟨(Below.refl _ w).alloc (Nat.le_refl _) _, ?_⟩
  rw [Hp.out]
  exact ⟨by decide, rfl⟩

set_option maxHeartbeats 2000000 in
theorem refcompile_any (s : ByteArray) (w : World) (hs : s.size ≤ 64) : Calls Try.prog 10 #[.string s] w (RCEnds s w) := by
  have hlen : (tx s).length = s.size := by simp
  have hparse : Rx.parse (tx s) = (Rx.rows (tx s) (Rx.fuel (tx s) 0) .alt0 0 0).bind fun x => if x.2 < (tx s).length then .bad x.2 2 else .ok x.1 := by
    unfold Rx.parse; rw [if_neg (by rw [hlen]; omega)]
  rw [hlen] at hparse
  have hB1 := ((Blk.new w [.int .u8 0, .bool false, .slice none 0 0, .slice none 0 0] 30).alloc (.cells #[.string s, .int .i64 0, .int .i64 0, .int .i64 0, .int .i64 0] 56))
  have hP1 : Pt ((w.alloc (.cells #[.int .u8 0, .bool false, .slice none 0 0, .slice none 0 0] 30)).alloc (.cells #[.string s, .int .i64 0, .int .i64 0, .int .i64 0, .int .i64 0] 56)) (w.heap.size + 1) s 0 0 0 0 := by
    have := Blk.new (w.alloc (.cells #[.int .u8 0, .bool false, .slice none 0 0, .slice none 0 0] 30)) [.string s, .int .i64 0, .int .i64 0, .int .i64 0, .int .i64 0] 56
    rw [show (w.alloc (.cells #[Value.int .u8 0, .bool false, .slice none 0 0, .slice none 0 0] 30)).heap.size = w.heap.size + 1 from by simp] at this
    exact this
  have hbe : Below w.heap.size w ((w.alloc (.cells #[.int .u8 0, .bool false, .slice none 0 0, .slice none 0 0] 30)).alloc (.cells #[.string s, .int .i64 0, .int .i64 0, .int .i64 0, .int .i64 0] 56)) := by go_grown
  have Hparse := Lib.hid hparse
  have Hbe := Lib.hid hbe
  have HB1 := Lib.hid hB1
  have HP1 := Lib.hid hP1
  clear hparse hlen hbe hB1 hP1
  go_enter Try.func10, Try.ntmps10
  go_wp2_with fail
  generalize (w.alloc (.cells #[.int .u8 0, .bool false, .slice none 0 0, .slice none 0 0] 30)).alloc (.cells #[.string s, .int .i64 0, .int .i64 0, .int .i64 0, .int .i64 0] 56) = w1 at *
  go_at_call 21
  refine ((ref_all_ok _).1 w1 (w.heap.size + 1) s 0 0 0 HP1.out (by omega) (by omega) (by omega) (show 4 * (s.size - 0) + 4 ≤ Rx.fuel (tx s) 0 by unfold Rx.fuel; simp)).mono ?_
  rintro e w2 he
  rcases (At.start HP1.out).next he with ⟨r, j, ⟨op, no, sa, sn, sc, ka, kn, kc⟩, nd, F, pos', hg, rfl, hc, A1⟩ | ⟨k, c, ⟨op, no, sa, sn, sc, ka, kn, kc⟩, i', hg, rfl, hi', hc, A1⟩
  · obtain ⟨hj1, hj2, _⟩ := (Rx.reads (tx s) _).1 _ _ _ _ _ hg (by simp)
    simp only [ByteArray.size_data, Array.length_toList] at hj2
    simp only [NC.val]
    have hm2 := he.1
    have hb2 : Below w.heap.size w w2 := Hbe.out.trans (hm2.below (by have := HP1.out; have := Blk.lt this; omega) (fun k hk => by omega))
    have hR2 := HB1.out.mod hm2 (by omega)
    have A2 := A1.alloc [.int .u8 op, .bool no, .slice sa sn sc, .slice ka kn kc]
    have hb3 := hb2.alloc hb2.size (.cells #[.int .u8 (op : Int), .bool no, .slice sa sn sc, .slice ka kn kc] 30)
    have hR3 := hR2.alloc (.cells #[.int .u8 (op : Int), .bool no, .slice sa sn sc, .slice ka kn kc] 30)
    have Hb3 := Lib.hid hb3
    have HR3 := Lib.hid hR3
    have hKlt : w.heap.size + 1 < w2.heap.size := Blk.lt A1.pt
    have hbase := HP1.out
    have hbl := Blk.lt hbase
    clear he A1 hm2 hb2 hR2 hb3 hR3 hbase
    obtain ⟨w3, hw3⟩ : ∃ w3, w2.alloc (.cells #[.int .u8 (op : Int), .bool no, .slice sa sn sc, .slice ka kn kc] 30) = w3 := ⟨_, rfl⟩
    rw [hw3] at A2 Hb3 HR3
    obtain ⟨c0, c1, c2, c3, c4, f1, f2⟩ := A2.pt.cells0
    obtain ⟨n0, n1, n2, n3, g0, g1, g2, g3⟩ := A2.own
    obtain ⟨r0, r1, r2, r3, q0, q1, q2, q3⟩ := HR3.out.cells4
    by_cases hjl : j < s.size
    · have hp : Rx.parse (tx s) = .bad j 2 := by rw [Hparse.out, hg]; simp [Got.bind, hjl]
      have Hp := Lib.hid hp
      have hd1 : decide (j < s.size) = true := by simpa using hjl
      clear hp hg
      go_wp2_with fail
      go_at_call 22
      refine (A2.fail 2 j _ _ rfl rfl).mono ?_
      rintro e w4 ⟨rfl, A3⟩
      clear c0 c1 c2 c3 c4 f1 f2 n0 n1 n2 n3 g0 g1 g2 g3 r0 r1 r2 r3 q0 q1 q2 q3
      have HR4 := Lib.hid (HB1.out.mod A3.mod (by omega))
      have Hb4 := Lib.hid (Hbe.out.trans (A3.mod.below (by omega) (fun k hk => by omega)))
      have hpR : w.heap.size < w.heap.size + 1 := by omega
      obtain ⟨c0, c1, c2, c3, c4, f1, f2⟩ := A3.pt.cells
      obtain ⟨r0, r1, r2, r3, q0, q1, q2, q3⟩ := HR4.out.cells4
      go_wp2_with fail
      go_region
      all_goals
        go_wp2
        have hst : Blk ((((w4.setCell ⟨w.heap.size, 0, none⟩ (.int .u8 0)).setCell ⟨w.heap.size, 1, none⟩ (.bool false)).setCell ⟨w.heap.size, 2, none⟩ (.slice none 0 0)).setCell ⟨w.heap.size, 3, none⟩ (.slice none 0 0)) w.heap.size
          [.int .u8 0, .bool false, .slice none 0 0, .slice none 0 0] 30 := (((HR4.out.set 0 _).set 1 _).set 2 _).set 3 _
        refine bodyPost_ret (refc_results _ _ w.heap.size _ _ _ _ _ _ rfl rfl rfl hst.drew) rfl ?_
        refine ⟨((((Hb4.out.setCell (by simp) _).setCell (by simp) _).setCell (by simp) _).setCell (by simp) _).drew, ?_⟩
        rw [Hp.out]
        exact ⟨by decide, rfl⟩
    · have hp : Rx.parse (tx s) = .ok r := by rw [Hparse.out, hg]; simp [Got.bind]; omega
      have Hp := Lib.hid hp
      have hd1 : decide (j < s.size) = false := by simpa using hjl
      clear hp hg
      go_wp2
      have hst : Blk ((((w3.setCell ⟨w.heap.size, 0, none⟩ (.int .u8 (op : Int))).setCell ⟨w.heap.size, 1, none⟩ (.bool no)).setCell ⟨w.heap.size, 2, none⟩ (.slice sa sn sc)).setCell ⟨w.heap.size, 3, none⟩ (.slice ka kn kc)) w.heap.size
        [.int .u8 (op : Int), .bool no, .slice sa sn sc, .slice ka kn kc] 30 := (((HR3.out.set 0 _).set 1 _).set 2 _).set 3 _
      refine bodyPost_ret (refc_results _ _ w.heap.size _ _ _ _ _ _ rfl rfl rfl hst) rfl ?_
      refine ⟨(((Hb3.out.setCell (by simp) _).setCell (by simp) _).setCell (by simp) _).setCell (by simp) _, ?_⟩
      rw [Hp.out]
      refine ⟨⟨op, no, sa, sn, sc, ka, kn, kc⟩, nd, F, rfl, hc, (A2.tree _ (List.mem_cons_self ..)).kept (fun k hk => ?_), fun k hk => ?_⟩
      · have := (A2.new k (by simp [hk])).1
        have hne : k ≠ w.heap.size := by omega
        rw [Below.heap_setCell _ _ _ _ hne, Below.heap_setCell _ _ _ _ hne, Below.heap_setCell _ _ _ _ hne, Below.heap_setCell _ _ _ _ hne]
      · have := A2.new k (by simp [hk])
        refine ⟨by omega, ?_⟩
        have h2 := this.2.1
        simpa [World.setCell] using h2
  · have hp : Rx.parse (tx s) = .bad k c := by rw [Hparse.out, hg]; rfl
    have Hp := Lib.hid hp
    have A3 := A1.alloc [.int .u8 op, .bool no, .slice sa sn sc, .slice ka kn kc]
    simp only [NC.val]
    have hbl := Blk.lt HP1.out
    have hKlt : w.heap.size + 1 < w2.heap.size := Blk.lt A1.pt
    obtain ⟨w3, hw3⟩ : ∃ w3, w2.alloc (.cells #[.int .u8 (op : Int), .bool no, .slice sa sn sc, .slice ka kn kc] 30) = w3 := ⟨_, rfl⟩
    rw [hw3] at A3
    clear he A1 hp hg
    have HR4 := Lib.hid (HB1.out.mod A3.mod (by omega))
    have Hb4 := Lib.hid (Hbe.out.trans (A3.mod.below (by omega) (fun k hk => by omega)))
    have hpR : w.heap.size < w.heap.size + 1 := by omega
    obtain ⟨c0, c1, c2, c3, c4, f1, f2⟩ := A3.pt.cells
    obtain ⟨r0, r1, r2, r3, q0, q1, q2, q3⟩ := HR4.out.cells4
    have hcb : ((c : Int) == 0) = false := ne_u8 _ 0 hc
    have hcn : ((c : Int) != 0) = true := by simp; omega
    go_wp2_with fail
    go_region
    all_goals
      go_wp2
      have hst : Blk ((((w3.setCell ⟨w.heap.size, 0, none⟩ (.int .u8 0)).setCell ⟨w.heap.size, 1, none⟩ (.bool false)).setCell ⟨w.heap.size, 2, none⟩ (.slice none 0 0)).setCell ⟨w.heap.size, 3, none⟩ (.slice none 0 0)) w.heap.size
        [.int .u8 0, .bool false, .slice none 0 0, .slice none 0 0] 30 := (((HR4.out.set 0 _).set 1 _).set 2 _).set 3 _
      refine bodyPost_ret (refc_results _ _ w.heap.size _ _ _ _ _ _ rfl rfl rfl hst.drew) rfl ?_
      refine ⟨((((Hb4.out.setCell (by simp) _).setCell (by simp) _).setCell (by simp) _).setCell (by simp) _).drew, ?_⟩
      rw [Hp.out]
      exact ⟨hc, rfl⟩

end Go.Proofs.Ytnbghiaggapoiaa
