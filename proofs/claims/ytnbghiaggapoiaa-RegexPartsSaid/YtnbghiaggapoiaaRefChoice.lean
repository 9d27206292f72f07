/- The reference's reader: a choice; all of it. (Printed by genchoice.py.) -/
import Derived.Test.YtnbghiaggapoiaaRefRow
namespace Go.Proofs.Ytnbghiaggapoiaa
set_option linter.unusedSimpArgs false
set_option linter.unusedVariables false
open Go.RowKit Go.Proofs
open Rx (NS Got)

/-- At the head of a round: rows so far, or an error. -/
def ChoiceRun (w : World) (p : Nat) (s : ByteArray) (d R N M : Nat) (RES : Got (Rx.Re × Nat)) (wr : World) : Prop :=
  (∃ j pos a n c l F acc m, At w wr p s j d 0 pos [(N, [.int .u8 124, .bool false, .slice none 0 0, .slice a n c]), (R, [.int .u8 0, .bool false, .slice none 0 0, .slice none 0 0])] [(⟨124, false, none, 0, 0, a, n, c⟩, .choice l, F)] ∧
    CorrAlt l acc ∧ RES = Rx.rows (tx s) (m + 1) acc d j ∧ 4 * (s.size - j) + 3 ≤ m ∧ j ≤ s.size ∧ l.length ≤ j ∧ m ≤ M) ∨
  (∃ j k c a n cc, At w wr p s j d c k [(N, [.int .u8 124, .bool false, .slice none 0 0, .slice a n cc]), (R, [.int .u8 0, .bool false, .slice none 0 0, .slice none 0 0])] [] ∧ c ≠ 0 ∧ j ≤ s.size ∧ RES = .bad k c)

theorem bar_cases (s : ByteArray) (j : Nat) : (Rx.has (tx s) 124 j = false ∧ decide (s.size ≤ j) = true) ∨ (decide (s.size ≤ j) = false ∧ ∃ h : j < s.size, (Rx.has (tx s) 124 j = true ∧ s[j].toNat = 124) ∨ (Rx.has (tx s) 124 j = false ∧ s[j].toNat ≠ 124)) := by
  by_cases h : j < s.size
  · right
    refine ⟨by simpa using h, h, ?_⟩
    unfold Rx.has
    rw [bt_get s j h]
    have hl : decide (j < (tx s).length) = true := by simpa using h
    rw [hl]
    by_cases h1 : s[j].toNat = 124
    · exact .inl ⟨by simp [h1], h1⟩
    · exact .inr ⟨by simp [h1], h1⟩
  · left
    exact ⟨Rx.has_none (by simpa using h) _, by simpa using h⟩

theorem rows_step {t : Rx.Text} {m d j j1 : Nat} {acc r : Rx.Re} (h : Rx.row t m d j = .ok (r, j1)) : (Rx.has t 124 j1 = true → Rx.rows t (m + 1) acc d j = Rx.rows t m (.alt acc r) d (j1 + 1)) ∧ (Rx.has t 124 j1 = false → Rx.rows t (m + 1) acc d j = .ok (.alt acc r, j1)) := by
  rw [Rx.rows_succ, h]
  simp only [Got.bind]
  rcases Rx.row_end h with h1 | h1 | h1
  · rw [Rx.has_none (Rx.peek_none h1)]
    simp [Rx.isOne, h1, Got.bind]
  · rw [Rx.has_of h1]
    simp [Rx.isOne, h1, Got.bind]
  · rw [Rx.has_of h1]
    simp [Rx.isOne, h1, Got.bind]

set_option maxRecDepth 100000 in
set_option maxHeartbeats 8000000 in
theorem refchoice_any (n : Nat) (hA : ∀ k, k < n → RRowOK k) : RChoiceOK n := by
  intro w p s i d pos h hs hi hd hn
  obtain ⟨i0, hi0, hz0, hz1, hz2⟩ := info_parts Try.infoNode
  have A1 := ((At.start h).alloc [.int .u8 0, .bool false, .slice none 0 0, .slice none 0 0]).alloc [.int .u8 124, .bool false, .slice none 0 0, .slice none 0 0]
  rw [show (w.alloc (.cells [Value.int .u8 0, .bool false, .slice none 0 0, .slice none 0 0].toArray 30)).heap.size = w.heap.size + 1 from by simp] at A1
  obtain ⟨m, rfl⟩ : ∃ m, n = m + 1 := ⟨n - 1, by omega⟩
  generalize hr0 : Rx.rows (tx s) (m + 1) .alt0 d i = RES
  have HA := Lib.hid hA
  have HR0 := Lib.hid hr0.symm
  clear hA hr0 h
  go_enter Try.func21, Try.ntmps21
  go_wp2_with fail
  generalize (w.alloc (.cells #[.int .u8 0, .bool false, .slice none 0 0, .slice none 0 0] 30)).alloc (.cells #[.int .u8 124, .bool false, .slice none 0 0, .slice none 0 0] 30) = W1 at *
  go_loopw [4] (fun _ wr => ChoiceRun w p s d w.heap.size (w.heap.size + 1) m RES wr) (fun _ wr => leftOf s.size wr p)
  case atStart =>
    exact .inl ⟨i, pos, none, 0, 0, [], [], .alt0, m, A1.tree0 (.kids (ncs := []) (G := []) (.choice []) (World.ownsRow_nil _ _ _ _) .nil), .nil, HR0.out, by omega, hi, Nat.zero_le _, Nat.le_refl _⟩
  case round =>
    clear A1 HR0 hn hi
    rcases hrel with ⟨j, pos', a, nn, cc, l, F, acc, mm, A, hacc, hR, hm, hj, hl, hmM⟩ | ⟨j, k, c, a, nn, cc, A, hc, hj, hG⟩
    · have hpl := A.plt
      obtain ⟨c0, c1, c2, c3, c4, f1, f2⟩ := A.pt.cells0
      go_wp2_with fail
      go_at_call 33
      refine (HA.out mm (by omega) wr p s j d pos' A.pt hs hj hd (by omega)).mono ?_
      rintro e w1 he
      clear c0 c1 c2 c3 c4 f1 f2
      rcases A.next he with ⟨r, j1, ⟨op, no, sa, sn, sc, ka, kn, kc⟩, nd, G, pos1, hg, rfl, hc, B1⟩ | ⟨k, c, ⟨op, no, sa, sn, sc, ka, kn, kc⟩, i', hg, rfl, hi', hc, B1⟩
      · obtain ⟨hj1, hj2, _⟩ := (Rx.reads (tx s) mm).2.1 _ _ _ _ hg
        have hst := rows_step (acc := acc) hg
        rw [← hR] at hst
        simp only [ByteArray.size_data, Array.length_toList] at hj2
        simp only [NC.val]
        have C := B1.alloc [.int .u8 op, .bool no, .slice sa sn sc, .slice ka kn kc]
        have hp1 := Blk.lt B1.pt
        have hN1 := (B1.blk _ (List.mem_cons_self ..)).2.lt
        obtain ⟨w5, hw2⟩ : ∃ w2, w1.alloc (.cells #[.int .u8 (op : Int), .bool no, .slice sa sn sc, .slice ka kn kc] 30) = w2 := ⟨_, rfl⟩
        rw [hw2] at C
        obtain ⟨K, hK⟩ : ∃ K, w1.heap.size = K := ⟨_, rfl⟩
        rw [hK] at C hp1 hN1
        have Hst1 := Lib.hid hst.1
        have Hst2 := Lib.hid hst.2
        have Hc2 := Lib.hid hc
        have Hacc := Lib.hid hacc
        clear he B1 hR hg hst hc hacc
        obtain ⟨a1, n1, k1, ncs, G0, e1, hn1, hrow, hlr, hFF⟩ := NRep.kids_inv (C.tree (⟨124, false, none, 0, 0, a, nn, cc⟩, .choice l, F) (by simp)) (HasKids.choice l)
        simp only [NC.mk.injEq, true_and] at e1
        obtain ⟨rfl, rfl, rfl⟩ := e1
        have hnl := hlr.length
        have hnb : nn ≤ 1000 := by omega
        have Hrow := Lib.hid hrow
        have Hlr := Lib.hid hlr
        have HFF := Lib.hid hFF
        have Hn1 := Lib.hid hn1
        clear hrow hlr hFF hn1 hnl
        obtain ⟨n0, n1, n2, n3, g0, g1, g2, g3⟩ := C.own
        obtain ⟨r0, r1, r2', r3, q0, q1, q2, q3⟩ := C.own2
        go_wp2_with (at_builtin; refine wpList_append_lies _ (by rfl) _ _ _ (by rfl) 0 30 i0 _ 4 56 Try.underlying28 hi0 hz0 hz1 hz2 rfl (by omega) _ _ _ (by rfl) (Hrow.out.alloc _)
                       ⟨w5.heap.size, 0, none⟩ 1 1 [.int .u8 (op : Int), .bool no, .slice sa sn sc, .slice ka kn kc] (by rfl) (by rfl) (World.news_of_block (cs := #[.int .u8 (op : Int), .bool no, .slice sa sn sc, .slice ka kn kc]) (t := 30) (fr := (0, 0)) (heap_alloc_at (w := w5) (by simp))) (by simp [Value.oneCell'])
                       (by omega) (by unfold maxLen; omega) (by omega) (by simp) (w5.heap.size + 1) (by simp) ?_
                     intro g cap wA hown hgrow hat hlt
                     have A4 := (At.grow_kids C.swapT (HasKids.choice l) (HasKids.choice (l ++ [nd])) Hlr.out HFF.out Hn1.out _ hown hgrow hat hlt).drop
                     clear hown hgrow hat hlt Hrow
                     obtain ⟨n0, n1, n2, n3, g0, g1, g2, g3⟩ := A4.own
                     have A5 := A4.store1 3 (.slice (some ⟨g, 0, none⟩) (nn + 1) cap)
                     simp only [List.set_cons_succ, List.set_cons_zero] at A5)
        generalize wA.setCell ⟨w.heap.size + 1, 3, none⟩ (.slice (some ⟨g, 0, none⟩) (nn + 1) cap) = w6 at *
        clear n0 n1 n2 n3 g0 g1 g2 g3 A4 C
        have hjb2 : j1 ≤ 1000 := by omega
        go_cut [47] (fun v wx => v = .bool (!Rx.has (tx s) 124 j1) ∧ At w wx p s j1 d 0 pos1 [(w.heap.size + 1, [.int .u8 124, .bool false, .slice none 0 0, .slice (some ⟨g, 0, none⟩) (nn + 1) cap]), (w.heap.size, [.int .u8 0, .bool false, .slice none 0 0, .slice none 0 0])] [(⟨124, false, none, 0, 0, some ⟨g, 0, none⟩, nn + 1, cap⟩, .choice (l ++ [nd]), g :: (G0 ++ G))])
        case first =>
          obtain ⟨c0, c1, c2, c3, c4, f1, f2⟩ := A5.pt.cells0
          rcases bar_cases s j1 with ⟨hsp, hd1⟩ | ⟨hd1, hlt, ⟨hsp, h1⟩ | ⟨hsp, h1⟩⟩
          case' inr.inl => have e1 : ((s[j1].toNat : Int) != 124) = false := by simp [h1]
          case' inr.inr => have e1 : ((s[j1].toNat : Int) != 124) = true := by simp; omega
          all_goals
            have Hsp := Lib.hid hsp
            clear hsp
            go_quiet (fail)
            go_wp2_with fail
            go_meet
            exact ⟨by rw [Hsp.out]; rfl, A5.drewN nq⟩
        case rest =>
        obtain ⟨rfl, A6⟩ := hcut
        clear A5
        cases hsp : Rx.has (tx s) 124 j1
        · have HRR := Lib.hid (Hst2.out hsp)
          clear hsp
          obtain ⟨n0, n1, n2, n3, g0, g1, g2, g3⟩ := A6.own
          obtain ⟨r0, r1, r2', r3, q0, q1, q2, q3⟩ := A6.own2
          go_wp2
          have A8 := A6.swap.store4 (.int .u8 124) (.bool false) (.slice none 0 0) (.slice (some ⟨g, 0, none⟩) (nn + 1) cap)
          exact bodyPost_ret (A8.done rfl rfl) rfl (A8.ends_ok HRR.out rfl (.choice (.snoc Hacc.out Hc2.out)) rfl)
        · obtain ⟨hlt, _⟩ := has_true hsp
          have HRR := Lib.hid (Hst1.out hsp)
          clear hsp
          have hpl6 := A6.plt
          have A7 := A6.setAt (j1 + 1) ((j1 : Int) + 1) (by omega)
          obtain ⟨c0, c1, c2, c3, c4, f1, f2⟩ := A6.pt.cells0
          have hm1 := Lib.hid (A7.pt.left0 s.size)
          have hm2 := Lib.hid (A.pt.left0 s.size)
          go_wp2_with fail
          go_roundw
          case rel => exact .inl ⟨j1 + 1, _, _, _, _, _, _, .alt acc r, mm - 1, A7, .snoc Hacc.out Hc2.out, by rw [HRR.out, show mm - 1 + 1 = mm from by omega], by omega, by omega, by simp; omega, by omega⟩
          case measure => rw [hm1.out, hm2.out]; omega
      · have hR2 : RES = .bad k c := by rw [hR, Rx.rows_succ, hg]; rfl
        have HR2 := Lib.hid hR2
        have hcb : ((c : Int) == 0) = false := ne_u8 _ 0 hc
        simp only [NC.val]
        have C := B1.alloc [.int .u8 op, .bool no, .slice sa sn sc, .slice ka kn kc]
        have hp1 := Blk.lt B1.pt
        have hN1 := (B1.blk _ (List.mem_cons_self ..)).2.lt
        obtain ⟨w5, hw2⟩ : ∃ w2, w1.alloc (.cells #[.int .u8 (op : Int), .bool no, .slice sa sn sc, .slice ka kn kc] 30) = w2 := ⟨_, rfl⟩
        rw [hw2] at C
        obtain ⟨K, hK⟩ : ∃ K, w1.heap.size = K := ⟨_, rfl⟩
        rw [hK] at C hp1 hN1
        clear he B1 hR hg hR2 hacc
        obtain ⟨a1, n1, k1, ncs, G0, e1, hn1, hrow, hlr, hFF⟩ := NRep.kids_inv (C.tree (⟨124, false, none, 0, 0, a, nn, cc⟩, .choice l, F) (by simp)) (HasKids.choice l)
        simp only [NC.mk.injEq, true_and] at e1
        obtain ⟨rfl, rfl, rfl⟩ := e1
        have hnl := hlr.length
        have hnb : nn ≤ 1000 := by omega
        have Hrow := Lib.hid hrow
        have Hlr := Lib.hid hlr
        have HFF := Lib.hid hFF
        have Hn1 := Lib.hid hn1
        clear hrow hlr hFF hn1 hnl
        obtain ⟨n0, n1, n2, n3, g0, g1, g2, g3⟩ := C.own
        obtain ⟨r0, r1, r2', r3, q0, q1, q2, q3⟩ := C.own2
        go_wp2_with (at_builtin; refine wpList_append_lies _ (by rfl) _ _ _ (by rfl) 0 30 i0 _ 4 56 Try.underlying28 hi0 hz0 hz1 hz2 rfl (by omega) _ _ _ (by rfl) (Hrow.out.alloc _)
                       ⟨w5.heap.size, 0, none⟩ 1 1 [.int .u8 (op : Int), .bool no, .slice sa sn sc, .slice ka kn kc] (by rfl) (by rfl) (World.news_of_block (cs := #[.int .u8 (op : Int), .bool no, .slice sa sn sc, .slice ka kn kc]) (t := 30) (fr := (0, 0)) (heap_alloc_at (w := w5) (by simp))) (by simp [Value.oneCell'])
                       (by omega) (by unfold maxLen; omega) (by omega) (by simp) (w5.heap.size + 1) (by simp) ?_
                     intro g cap wA hown hgrow hat hlt
                     have A4 := (At.lost C _ hgrow (fun k e => List.mem_flatMap.2 ⟨_, List.mem_cons_self .., by have h8 := HFF.out; dsimp only at h8 ⊢; rw [h8, e]; simp⟩)).drop
                     clear hown hgrow hat hlt Hrow
                     obtain ⟨n0, n1, n2, n3, g0, g1, g2, g3⟩ := A4.own
                     have A5 := A4.store1 3 (.slice (some ⟨g, 0, none⟩) (nn + 1) cap)
                     simp only [List.set_cons_succ, List.set_cons_zero] at A5)
        generalize wA.setCell ⟨w.heap.size + 1, 3, none⟩ (.slice (some ⟨g, 0, none⟩) (nn + 1) cap) = w6 at *
        clear n0 n1 n2 n3 g0 g1 g2 g3 A4 C
        obtain ⟨c0, c1, c2, c3, c4, f1, f2⟩ := A5.pt.cells
        have hcn : ((c : Int) != 0) = true := by simp; omega
        go_quiet (fail)
        have A6 := A5.drewN nq
        generalize w6.drewN nq = w7 at *
        clear c0 c1 c2 c3 c4 f1 f2 A5
        obtain ⟨n0, n1, n2, n3, g0, g1, g2, g3⟩ := A6.own
        obtain ⟨r0, r1, r2', r3, q0, q1, q2, q3⟩ := A6.own2
        go_wp2
        have A8 := A6.swap.store4 (.int .u8 124) (.bool false) (.slice none 0 0) (.slice (some ⟨g, 0, none⟩) (nn + 1) cap)
        exact bodyPost_ret (A8.done rfl rfl) rfl (A8.ends_bad HR2.out hc hi' ⟨124, false, none, 0, 0, some ⟨g, 0, none⟩, nn + 1, cap⟩ rfl)
    · have HG := Lib.hid hG
      have hcb : ((c : Int) == 0) = false := ne_u8 _ 0 hc
      obtain ⟨c0, c1, c2, c3, c4, f1, f2⟩ := A.pt.cells
      obtain ⟨n0, n1, n2, n3, g0, g1, g2, g3⟩ := A.own
      obtain ⟨r0, r1, r2, r3, q0, q1, q2, q3⟩ := A.own2
      clear hG
      go_wp2
      have A8 := A.swap.store4 (.int .u8 124) (.bool false) (.slice none 0 0) (.slice a nn cc)
      exact bodyPost_ret (A8.done rfl rfl) rfl (A8.ends_bad HG.out hc hj ⟨124, false, none, 0, 0, a, nn, cc⟩ rfl)

/-- All three, whatever the number of steps. -/
theorem ref_all_ok : ∀ n, RChoiceOK n ∧ RRowOK n ∧ RAtomOK n := by
  intro n
  induction n using Nat.strongRecOn with
  | _ n ih =>
    have hA : RAtomOK n := by
      cases n with
      | zero => intro w p s i d pos h hs hi hd hn; omega
      | succ n => exact refatom_any n (ih n (by omega)).1
    exact ⟨refchoice_any n (fun k hk => (ih k hk).2.1), refrow_any n (fun k hk => (ih k hk).2.2), hA⟩

end Go.Proofs.Ytnbghiaggapoiaa
