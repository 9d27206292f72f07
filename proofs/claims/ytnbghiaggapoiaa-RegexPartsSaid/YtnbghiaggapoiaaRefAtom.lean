/- The reference's reader: a group, an atom. -/
import Derived.Test.YtnbghiaggapoiaaRefSet
import Derived.Test.YtnbghiaggapoiaaRowsR
namespace Go.Proofs.Ytnbghiaggapoiaa
set_option linter.unusedSimpArgs false
set_option linter.unusedVariables false
open Go.RowKit Go.Proofs
open Rx (NS Got)

def RChoiceOK (m : Nat) : Prop := ∀ (w : World) (p : Nat) (s : ByteArray) (i d pos : Nat), Pt w p s i d 0 pos → s.size ≤ 1000 → i ≤ s.size → d ≤ 9 → 4 * (s.size - i) + 4 ≤ m →
  Calls Try.prog 21 #[.pointer (some ⟨p, 0, none⟩)] w (NEnds (Rx.rows (tx s) m .alt0 d i) w p s d)
def RRowOK (m : Nat) : Prop := ∀ (w : World) (p : Nat) (s : ByteArray) (i d pos : Nat), Pt w p s i d 0 pos → s.size ≤ 1000 → i ≤ s.size → d ≤ 9 → 4 * (s.size - i) + 3 ≤ m →
  Calls Try.prog 33 #[.pointer (some ⟨p, 0, none⟩)] w (NEnds (Rx.row (tx s) m d i) w p s d)
def RAtomOK (m : Nat) : Prop := ∀ (w : World) (p : Nat) (s : ByteArray) (i d pos : Nat), Pt w p s i d 0 pos → s.size ≤ 1000 → i ≤ s.size → d ≤ 9 → 4 * (s.size - i) + 1 ≤ m →
  Calls Try.prog 40 #[.pointer (some ⟨p, 0, none⟩)] w (NEnds (Rx.atom (tx s) m d i) w p s d)

def groupR (s : ByteArray) (n d i : Nat) : Got (Rx.Re × Nat) := if 8 < d then .bad i 4 else (Rx.rows (tx s) n .alt0 (d + 1) (i + 1)).bind fun x => (Rx.isOne (tx s) [41] x.2).bind fun b => if b then .ok (x.1, x.2 + 1) else .bad x.2 2

set_option maxHeartbeats 2000000 in
theorem refgroup_any (n : Nat) (hC : RChoiceOK n) (w : World) (p : Nat) (s : ByteArray) (i d pos : Nat) (h : Pt w p s i d 0 pos) (hs : s.size ≤ 1000) (hi : i < s.size) (hd : d ≤ 9) (hn : 4 * (s.size - (i + 1)) + 4 ≤ n) :
    Calls Try.prog 47 #[.pointer (some ⟨p, 0, none⟩)] w (NEnds (groupR s n d i) w p s d) := by
  have A1 := (At.start h).alloc [.int .u8 0, .bool false, .slice none 0 0, .slice none 0 0]
  obtain ⟨w1, hw1⟩ : ∃ w1, w.alloc (.cells #[.int .u8 0, .bool false, .slice none 0 0, .slice none 0 0] 30) = w1 := ⟨_, rfl⟩
  rw [hw1] at A1
  have hib : i < 1000 := by omega
  obtain ⟨c0, c1, c2, c3, c4, f1, f2⟩ := A1.pt.cells0
  obtain ⟨n0, n1, n2, n3, g0, g1, g2, g3⟩ := A1.own
  have HC := Lib.hid hC
  clear h hC
  by_cases h8 : 8 < d
  · have HG : Hid (groupR s n d i = .bad i 4) := Lib.hid (by unfold groupR; rw [if_pos h8])
    have h8' : (8 : Int) < d := by omega
    clear n0 n1 n2 n3 g0 g1 g2 g3
    go_enter Try.func47, Try.ntmps47
    go_wp2_with (go_at_call 22; refine (A1.fail 4 i _ _ rfl rfl).mono ?_; rintro e w2 ⟨rfl, A2⟩
                 obtain ⟨n0, n1, n2, n3, g0, g1, g2, g3⟩ := A2.own)
    have A3 := A2.store4 (.int .u8 0) (.bool false) (.slice none 0 0) (.slice none 0 0)
    exact bodyPost_ret (A3.done rfl rfl) rfl (A3.ends_bad HG.out (by decide) (by omega) nc0 rfl)
  · have HG : Hid (groupR s n d i = (Rx.rows (tx s) n .alt0 (d + 1) (i + 1)).bind fun x => (Rx.isOne (tx s) [41] x.2).bind fun b => if b then .ok (x.1, x.2 + 1) else .bad x.2 2) := Lib.hid (by unfold groupR; rw [if_neg h8])
    have h8' : ¬ (8 : Int) < d := by omega
    have hdb : d ≤ 8 := by omega
    have A2 := (A1.setAt (i + 1) ((i : Int) + 1) (by omega)).setDeep (d + 1) ((d : Int) + 1) (by omega)
    clear n0 n1 n2 n3 g0 g1 g2 g3
    go_enter Try.func47, Try.ntmps47
    go_wp2_with fail
    generalize (w1.setCell ⟨p, 1, none⟩ (.int .i64 ((i : Int) + 1))).setCell ⟨p, 2, none⟩ (.int .i64 ((d : Int) + 1)) = w2 at *
    clear c0 c1 c2 c3 c4 f1 f2 A1
    go_at_call 21
    refine (HC.out w2 p s (i + 1) (d + 1) pos A2.pt hs (by omega) (by omega) hn).mono ?_
    rintro e w3 he
    rcases A2.next he with ⟨r, j, ⟨op, no, sa, sn, sc, ka, kn, kc⟩, nd, F, pos', hg, rfl, hc, A3⟩ | ⟨k, c, ⟨op, no, sa, sn, sc, ka, kn, kc⟩, i', hg, rfl, hi', hc, A3⟩
    · obtain ⟨hj1, hj2, _⟩ := (Rx.reads (tx s) n).1 _ _ _ _ _ hg (by simp; omega)
      have hend := Rx.rows_end _ _ _ _ _ _ _ hg
      simp only [ByteArray.size_data, Array.length_toList] at hj2
      have A4 := A3.alloc [.int .u8 op, .bool no, .slice sa sn sc, .slice ka kn kc]
      have hp3 := Blk.lt A3.pt
      have hR3 := (A3.blk _ (List.mem_cons_self ..)).2.lt
      simp only [NC.val]
      clear he A2 A3
      obtain ⟨w4, hw4⟩ : ∃ w4, w3.alloc (.cells #[.int .u8 (op : Int), .bool no, .slice sa sn sc, .slice ka kn kc] 30) = w4 := ⟨_, rfl⟩
      rw [hw4] at A4
      have A5 := A4.setDeep d (((d + 1 : Nat) : Int) - 1) (by omega)
      obtain ⟨c0, c1, c2, c3, c4, f1, f2⟩ := A4.pt.cells0
      have c2' : w4.cell? ⟨p, 2, none⟩ = some (.int .i64 ((d : Int) + 1)) := by rw [c2]; rfl
      have hdd : (((d + 1 : Nat) : Int) - 1) = (d : Int) := by omega
      rw [hdd] at A5
      have hpl := A4.plt
      clear c2 hdd
      rcases hend with hend | hend
      · have hz := Rx.peek_none hend
        simp only [ByteArray.size_data, Array.length_toList] at hz
        obtain rfl : j = s.size := by omega
        have hR : groupR s n d i = .bad s.size 2 := by rw [HG.out, hg]; simp [Got.bind, Rx.isOne, hend]
        have HR := Lib.hid hR
        clear hR hend hg
        go_wp2_with fail
        generalize w4.setCell ⟨p, 2, none⟩ (.int .i64 (d : Int)) = w5 at *
        clear c0 c1 c2' c3 c4 f1 f2 A4
        obtain ⟨c0, c1, c2, c3, c4, f1, f2⟩ := A5.pt.cells0
        go_quiet (fail)
        go_wp2_with (go_at_call 22; refine ((A5.drewN nq).fail 2 s.size _ _ rfl rfl).mono ?_; rintro e w2 ⟨rfl, A6⟩
                     obtain ⟨n0, n1, n2, n3, g0, g1, g2, g3⟩ := A6.own2)
        have A7 := A6.swap.store4 (.int .u8 0) (.bool false) (.slice none 0 0) (.slice none 0 0)
        exact bodyPost_ret (A7.done rfl rfl) rfl (A7.ends_bad HR.out (by decide) (Nat.le_refl _) nc0 rfl)
      · have hjl := (peek_lt hend).1
        simp only [ByteArray.size_data, Array.length_toList] at hjl
        have hR : groupR s n d i = .ok (r, j + 1) := by rw [HG.out, hg]; simp [Got.bind, Rx.isOne, hend]
        have HR := Lib.hid hR
        have hd1 : decide (s.size ≤ j) = false := by simpa using hjl
        have hjb : j ≤ 1000 := by omega
        clear hR hend hg
        go_wp2_with fail
        generalize w4.setCell ⟨p, 2, none⟩ (.int .i64 (d : Int)) = w5 at *
        clear c0 c1 c2' c3 c4 f1 f2 A4
        obtain ⟨c0, c1, c2, c3, c4, f1, f2⟩ := A5.pt.cells0
        go_quiet (fail)
        have A6 := A5.drewN nq
        generalize w5.drewN nq = w6 at *
        clear c0 c1 c2 c3 c4 f1 f2 A5
        obtain ⟨c0, c1, c2, c3, c4, f1, f2⟩ := A6.pt.cells0
        obtain ⟨n0, n1, n2, n3, g0, g1, g2, g3⟩ := A6.own
        obtain ⟨r0, r1, r2, r3, q0, q1, q2, q3⟩ := A6.own2
        have A7 := A6.setAt (j + 1) ((j : Int) + 1) (by omega)
        go_wp2
        have A8 := A7.swap.store4 (.int .u8 (op : Int)) (.bool no) (.slice sa sn sc) (.slice ka kn kc)
        exact bodyPost_ret (A8.done rfl rfl) rfl (A8.ends_ok HR.out rfl hc rfl)
    · have A4 := A3.alloc [.int .u8 op, .bool no, .slice sa sn sc, .slice ka kn kc]
      simp only [NC.val]
      clear he A2 A3
      obtain ⟨w4, hw4⟩ : ∃ w4, w3.alloc (.cells #[.int .u8 (op : Int), .bool no, .slice sa sn sc, .slice ka kn kc] 30) = w4 := ⟨_, rfl⟩
      rw [hw4] at A4
      have A5 := A4.setDeep d (d : Int) rfl
      obtain ⟨c0, c1, c2, c3, c4, f1, f2⟩ := A4.pt.cells
      have c2' : w4.cell? ⟨p, 2, none⟩ = some (.int .i64 ((d : Int) + 1)) := by rw [c2]; rfl
      have hcb : ((c : Int) == 0) = false := ne_u8 _ 0 hc
      obtain ⟨n0, n1, n2, n3, g0, g1, g2, g3⟩ := A4.own2
      have hpl := A4.plt
      clear c2
      go_wp2
      have A6 := A5.swap.store4 (.int .u8 0) (.bool false) (.slice none 0 0) (.slice none 0 0)
      exact bodyPost_ret (A6.done rfl rfl) rfl (A6.ends_bad (by rw [HG.out, hg]; rfl) hc hi' nc0 rfl)

theorem got_ok {α β : Type} (a : α) (f : α → Got β) : (Got.ok a).bind f = f a := rfl

theorem corr_one (c : Nat) : Corr (.cls false [(c, c)]) (.set (Rx.between c c)) := .cls (fun k _ => by
  simp only [takesN, List.any_cons, List.any_nil, Bool.or_false, Rx.between]
  cases decide (c ≤ k) && decide (k ≤ c) <;> rfl)

set_option maxHeartbeats 4000000 in
theorem refatom_any (n : Nat) (hC : RChoiceOK n) : RAtomOK (n + 1) := by
  intro w p s i d pos h hs hi hd hn
  have A1 := (At.start h).alloc [.int .u8 0, .bool false, .slice none 0 0, .slice none 0 0]
  obtain ⟨w1, hw1⟩ : ∃ w1, w.alloc (.cells #[.int .u8 0, .bool false, .slice none 0 0, .slice none 0 0] 30) = w1 := ⟨_, rfl⟩
  rw [hw1] at A1
  have hib : i ≤ 1000 := by omega
  have hpl := A1.plt
  obtain ⟨c0, c1, c2, c3, c4, f1, f2⟩ := A1.pt.cells0
  have HC := Lib.hid hC
  have hat := atom_succ (tx s) n d i
  generalize Rx.atom (tx s) (n + 1) d i = RES at *
  clear h hC
  by_cases h1 : i < s.size
  · have ht := take_of s i
    rw [dif_pos h1] at ht
    have hd1 : decide (s.size ≤ i) = false := by simpa using h1
    by_cases hb : s[i].toNat < 32 ∨ 126 < s[i].toNat
    · rw [if_pos hb] at ht
      rw [ht] at hat
      have HG : Hid (RES = .bad i 2) := Lib.hid hat
      have hb2 : (s[i].toNat : Int) < 32 ∨ ¬ (s[i].toNat : Int) < 32 ∧ (126 : Int) < s[i].toNat := by omega
      clear hb ht hat
      rcases hb2 with hb | ⟨hb, hb'⟩
      all_goals
        go_enter Try.func40, Try.ntmps40
        go_wp2
        go_quiet (fail)
        revert nq
        intro nq1
        go_wp2
        go_quiet (fail)
        go_wp2_with (go_at_call 22; refine ((A1.drewN _).fail 2 i _ _ rfl rfl).mono ?_; rintro e w2 ⟨rfl, A2⟩
                     obtain ⟨n0, n1, n2, n3, g0, g1, g2, g3⟩ := A2.own)
        have A3 := A2.store4 (.int .u8 0) (.bool false) (.slice none 0 0) (.slice none 0 0)
        exact bodyPost_ret (A3.done rfl rfl) rfl (A3.ends_bad HG.out (by decide) hi nc0 rfl)
    · rw [if_neg hb] at ht
      rw [ht, got_ok] at hat
      have hc256 : s[i].toNat < 256 := s[i].toNat_lt
      have hb0 : ¬ (s[i].toNat : Int) < 32 := by omega
      have hb1 : ¬ (126 : Int) < s[i].toNat := by omega
      clear hb ht
      by_cases h46 : s[i].toNat = 46
      · rw [if_pos h46] at hat
        have HG := Lib.hid hat
        have e46 : ((s[i].toNat : Int) == 46) = true := eq_u8 _ 46 h46
        clear hat h46
        go_enter Try.func40, Try.ntmps40
        go_wp2
        go_quiet (fail)
        revert nq
        intro nq1
        go_wp2
        go_quiet (fail)
        have A2 := ((A1.drewN (nq1 + nq)).setAt (i + 1) ((i : Int) + 1) (by omega)).tree0 (.any)
        obtain ⟨n0, n1, n2, n3, g0, g1, g2, g3⟩ := (A1.drewN (nq1 + nq)).own
        go_wp2
        have A3 := A2.store4 (.int .u8 46) (.bool false) (.slice none 0 0) (.slice none 0 0)
        exact bodyPost_ret (A3.done rfl rfl) rfl (A3.ends_ok HG.out rfl .any rfl)
      · rw [if_neg h46] at hat
        have e46 : ((s[i].toNat : Int) == 46) = false := ne_u8 _ 46 h46
        by_cases h40 : s[i].toNat = 40
        · rw [if_neg (by omega), if_neg (by omega), if_pos h40] at hat
          have hat' : RES = groupR s n d i := hat
          have HG := Lib.hid hat'
          have e40 : ((s[i].toNat : Int) == 40) = true := eq_u8 _ 40 h40
          clear hat hat' h40 h46
          go_enter Try.func40, Try.ntmps40
          go_wp2
          go_quiet (fail)
          revert nq
          intro nq1
          go_wp2
          go_quiet (fail)
          go_wp2_with fail
          go_at_call 47
          refine (refgroup_any n HC.out _ p s i d pos (A1.drewN _).pt hs h1 hd (by omega)).mono ?_
          rintro e w2 he
          rcases (A1.drewN _).next he with ⟨r, j, ⟨op, no, sa, sn, sc, ka, kn, kc⟩, nd, F, pos', hg, rfl, hc, A2⟩ | ⟨k, c, ⟨op, no, sa, sn, sc, ka, kn, kc⟩, i', hg, rfl, hi', hc, A2⟩
          all_goals
            obtain ⟨n0, n1, n2, n3, g0, g1, g2, g3⟩ := A2.own
            simp only [NC.val]
            have Hg := Lib.hid hg
            clear he hg
            go_wp2
            have A3 := A2.store4 (.int .u8 (op : Int)) (.bool no) (.slice sa sn sc) (.slice ka kn kc)
            first
              | exact bodyPost_ret (A3.done rfl rfl) rfl (A3.ends_ok (by rw [HG.out, Hg.out]) rfl hc rfl)
              | exact bodyPost_ret (A3.done rfl rfl) rfl (A3.ends_bad (by rw [HG.out, Hg.out]) hc hi' ⟨op, no, sa, sn, sc, ka, kn, kc⟩ rfl)
        · have e40 : ((s[i].toNat : Int) == 40) = false := ne_u8 _ 40 h40
          by_cases h91 : s[i].toNat = 91
          · rw [if_neg (by omega), if_pos h91] at hat
            have HG := Lib.hid hat
            have e91 : ((s[i].toNat : Int) == 91) = true := eq_u8 _ 91 h91
            clear hat h40 h46 h91
            go_enter Try.func40, Try.ntmps40
            go_wp2
            go_quiet (fail)
            revert nq
            intro nq1
            go_wp2
            go_quiet (fail)
            go_wp2_with fail
            go_at_call 48
            refine (refset_any _ p s i d pos ((tx s).length + 1 - i) (A1.drewN _).pt h1 hs (by simp; omega)).mono ?_
            rintro e w2 he
            rcases (A1.drewN _).next he with ⟨r, j, ⟨op, no, sa, sn, sc, ka, kn, kc⟩, nd, F, pos', hg, rfl, hc, A2⟩ | ⟨k, c, ⟨op, no, sa, sn, sc, ka, kn, kc⟩, i', hg, rfl, hi', hc, A2⟩
            all_goals
              obtain ⟨n0, n1, n2, n3, g0, g1, g2, g3⟩ := A2.own
              simp only [NC.val]
              have Hg := Lib.hid hg
              clear he hg
              go_wp2
              have A3 := A2.store4 (.int .u8 (op : Int)) (.bool no) (.slice sa sn sc) (.slice ka kn kc)
              first
                | exact bodyPost_ret (A3.done rfl rfl) rfl (A3.ends_ok (by rw [HG.out, Hg.out]) rfl hc rfl)
                | exact bodyPost_ret (A3.done rfl rfl) rfl (A3.ends_bad (by rw [HG.out, Hg.out]) hc hi' ⟨op, no, sa, sn, sc, ka, kn, kc⟩ rfl)
          · have e91 : ((s[i].toNat : Int) == 91) = false := ne_u8 _ 91 h91
            by_cases h92 : s[i].toNat = 92
            · rw [if_pos h92] at hat
              have HG : Hid (RES = (((Rx.take (tx s) (i + 1)).bind fun c => .ok (c, i + 2)).bind fun x => .ok (.set (Rx.between x.1 x.1), x.2))) := Lib.hid (by
                rw [hat]; cases Rx.take (tx s) (i + 1) <;> rfl)
              have e92 : ((s[i].toNat : Int) == 92) = true := eq_u8 _ 92 h92
              clear hat h40 h46 h91 h92
              go_enter Try.func40, Try.ntmps40
              go_wp2
              go_quiet (fail)
              revert nq
              intro nq1
              go_wp2
              go_quiet (fail)
              go_wp2_with fail
              go_at_call 49
              refine (refescaped_any _ p s i d pos (A1.drewN _).pt h1 hs).mono ?_
              rintro e w2 he
              rcases (A1.drewN _).enext he with ⟨c, j, ⟨op, no, sa, sn, sc, ka, kn, kc⟩, F, pos', hg, rfl, A2⟩ | ⟨k, c, ⟨op, no, sa, sn, sc, ka, kn, kc⟩, i', hg, rfl, hi', hc, A2⟩
              all_goals
                obtain ⟨n0, n1, n2, n3, g0, g1, g2, g3⟩ := A2.own
                simp only [NC.val]
                have Hg := Lib.hid hg
                clear he hg
                go_wp2
                have A3 := A2.store4 (.int .u8 (op : Int)) (.bool no) (.slice sa sn sc) (.slice ka kn kc)
                first
                  | exact bodyPost_ret (A3.done rfl rfl) rfl (A3.ends_ok (by rw [HG.out, Hg.out]; rfl) rfl (corr_one c) rfl)
                  | exact bodyPost_ret (A3.done rfl rfl) rfl (A3.ends_bad (by rw [HG.out, Hg.out]; rfl) hc hi' ⟨op, no, sa, sn, sc, ka, kn, kc⟩ rfl)
            · have e92 : ((s[i].toNat : Int) == 92) = false := ne_u8 _ 92 h92
              rw [if_neg h92, if_neg h91, if_neg h40] at hat
              cases hmk : Rx.marks.contains s[i].toNat
              · rw [hmk, if_neg (by decide)] at hat
                have HG := Lib.hid hat
                have Hmk := Lib.hid hmk
                clear hat h40 h46 h91 h92 hmk
                go_enter Try.func40, Try.ntmps40
                go_wp2
                go_quiet (fail)
                revert nq
                intro nq1
                go_wp2
                go_quiet (fail)
                go_wp2_with (first
                  | (go_at_call 28; refine (special_any _ _ hc256).mono ?_; rintro e w' ⟨rfl, hw'⟩; subst w'; rw [Hmk.out])
                  | (go_at_call 50; refine (((A1.drewN _).setAt (i + 1) _ (by omega)).one _).mono ?_; rintro e w2 ⟨op, no, sa, sn, sc, ka, kn, kc, F, rfl, A2⟩
                     obtain ⟨n0, n1, n2, n3, g0, g1, g2, g3⟩ := A2.own))
                have A3 := A2.store4 (.int .u8 op) (.bool no) (.slice sa sn sc) (.slice ka kn kc)
                exact bodyPost_ret (A3.done rfl rfl) rfl (A3.ends_ok HG.out rfl (corr_one _) rfl)
              · rw [hmk, if_pos rfl] at hat
                have HG := Lib.hid hat
                have Hmk := Lib.hid hmk
                clear hat h40 h46 h91 h92 hmk
                go_enter Try.func40, Try.ntmps40
                go_wp2
                go_quiet (fail)
                revert nq
                intro nq1
                go_wp2
                go_quiet (fail)
                go_wp2_with (first
                  | (go_at_call 28; refine (special_any _ _ hc256).mono ?_; rintro e w' ⟨rfl, hw'⟩; subst w'; rw [Hmk.out])
                  | (go_at_call 22; refine ((A1.drewN _).fail 2 i _ _ rfl rfl).mono ?_; rintro e w2 ⟨rfl, A2⟩
                     obtain ⟨n0, n1, n2, n3, g0, g1, g2, g3⟩ := A2.own))
                have A3 := A2.store4 (.int .u8 0) (.bool false) (.slice none 0 0) (.slice none 0 0)
                exact bodyPost_ret (A3.done rfl rfl) rfl (A3.ends_bad HG.out (by decide) hi nc0 rfl)
  · have ht := take_of s i
    rw [dif_neg h1] at ht
    rw [ht] at hat
    obtain rfl : i = s.size := by omega
    have HG : Hid (RES = .bad s.size 2) := Lib.hid hat
    have hd1 : decide (s.size ≤ s.size) = true := by simp
    clear ht hat h1
    go_enter Try.func40, Try.ntmps40
    go_wp2
    go_quiet (fail)
    go_wp2_with (go_at_call 22; refine ((A1.drewN _).fail 2 s.size _ _ rfl rfl).mono ?_; rintro e w2 ⟨rfl, A2⟩
                 obtain ⟨n0, n1, n2, n3, g0, g1, g2, g3⟩ := A2.own)
    have A3 := A2.store4 (.int .u8 0) (.bool false) (.slice none 0 0) (.slice none 0 0)
    exact bodyPost_ret (A3.done rfl rfl) rfl (A3.ends_bad HG.out (by decide) (Nat.le_refl _) nc0 rfl)

end Go.Proofs.Ytnbghiaggapoiaa
