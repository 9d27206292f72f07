/- The law RegexParts, walked: whatever the three texts, it answers true and leaves what was there. (Printed by genparts.py.) -/
import Derived.Test.YtnbghiaggapoiaaLawTimes
namespace Go.Proofs.Ytnbghiaggapoiaa
set_option linter.unusedSimpArgs false
set_option linter.unusedVariables false
open Go.RowKit Go.Proofs
open Rx (NS Got)

/-- Whether a text parts, at one of its first places, into one of a pattern and one of another. -/
def bothTo (a b : Rx.Re) (s : ByteArray) (k : Nat) : Bool := (List.range k).any fun j => isOf a (s.extract 0 j) && isOf b (s.extract j s.size)
theorem bothTo_succ (a b : Rx.Re) (s : ByteArray) (k : Nat) : bothTo a b s (k + 1) = (bothTo a b s k || (isOf a (s.extract 0 k) && isOf b (s.extract k s.size))) := by
  unfold bothTo
  rw [List.range_succ, List.any_append]
  simp

theorem bys_take (s : ByteArray) (k : Nat) : bys (s.extract 0 k) = (bys s).take k := by
  show ((s.extract 0 k).data.toList).map (fun b => b.toNat) = _
  simp [bys, List.map_take]
theorem bys_drop (s : ByteArray) (k : Nat) : bys (s.extract k s.size) = (bys s).drop k := by
  show ((s.extract k s.size).data.toList).map (fun b => b.toNat) = _
  have h : (s.extract k s.size).data.toList = (tx s).drop k := by
    simp
    rw [List.take_of_length_le (by simp)]
  rw [h, List.map_drop]

theorem or_text (p q : ByteArray) : tx (⟨#[40]⟩ ++ p ++ ⟨#[41, 124, 40]⟩ ++ q ++ ⟨#[41]⟩) = Rx.brk (tx p) ++ 124 :: Rx.brk (tx q) := by simp [Rx.brk]
theorem both_text (p q : ByteArray) : tx (⟨#[40]⟩ ++ p ++ ⟨#[41, 40]⟩ ++ q ++ ⟨#[41]⟩) = Rx.brk (tx p) ++ Rx.brk (tx q) := by simp [Rx.brk]
theorem or_size (p q : ByteArray) : (⟨#[40]⟩ ++ p ++ ⟨#[41, 124, 40]⟩ ++ q ++ ⟨#[41]⟩ : ByteArray).size = p.size + q.size + 5 := by
  simp only [ByteArray.size_append]; show 1 + p.size + 3 + q.size + 1 = _; omega
theorem both_size (p q : ByteArray) : (⟨#[40]⟩ ++ p ++ ⟨#[41, 40]⟩ ++ q ++ ⟨#[41]⟩ : ByteArray).size = p.size + q.size + 4 := by
  simp only [ByteArray.size_append]; show 1 + p.size + 2 + q.size + 1 = _; omega

theorem one_re (p : ByteArray) (r : Rx.Re) (h : Rx.parse (tx p) = .ok r) (hl : p.size ≤ 50) :
    (∃ k, Rx.parse (tx (⟨#[40]⟩ ++ p ++ ⟨#[41]⟩)) = .bad k 4) ∨ ∃ d, Rx.Depth (tx p) r d ∧ 1 + d ≤ 9 ∧ Rx.parse (tx (⟨#[40]⟩ ++ p ++ ⟨#[41]⟩)) = .ok (.alt .alt0 r) := by
  obtain ⟨d, hd⟩ := Rx.depth_of h
  have hlp : (tx p).length ≤ 50 := by simpa using hl
  obtain ⟨h1, h2⟩ := Rx.parse_brk hd (by omega)
  by_cases h9 : 9 < 1 + d
  · obtain ⟨k, hk⟩ := h2 h9
    exact .inl ⟨k, by rw [brk_text]; exact hk⟩
  · exact .inr ⟨d, hd, by omega, by rw [brk_text]; exact h1 (by omega)⟩

theorem parts_re (p q : ByteArray) (r r' : Rx.Re) (d d' : Nat) (hd : Rx.Depth (tx p) r d) (hd' : Rx.Depth (tx q) r' d') (h9 : 1 + d ≤ 9) (h9' : 1 + d' ≤ 9) (hl : p.size + q.size ≤ 50)
    (hp : Rx.parse (tx (⟨#[40]⟩ ++ p ++ ⟨#[41]⟩)) = .ok (.alt .alt0 r)) (hq : Rx.parse (tx (⟨#[40]⟩ ++ q ++ ⟨#[41]⟩)) = .ok (.alt .alt0 r')) :
    ∃ x y z, Rx.parse (tx (⟨#[40]⟩ ++ p ++ ⟨#[41, 124, 40]⟩ ++ q ++ ⟨#[41]⟩)) = .ok x ∧ Rx.parse (tx (⟨#[40]⟩ ++ p ++ ⟨#[41, 40]⟩ ++ q ++ ⟨#[41]⟩)) = .ok y ∧ Rx.parse (tx (⟨#[40]⟩ ++ p ++ ⟨#[41, 63]⟩)) = .ok z ∧
      ∀ s : ByteArray, isOf x s = (isOf (.alt .alt0 r) s || isOf (.alt .alt0 r') s) ∧ isOf y s = bothTo (.alt .alt0 r) (.alt .alt0 r') s (s.size + 1) ∧ isOf z s = (decide (s.toList = []) || isOf (.alt .alt0 r) s) := by
  have hlp : (tx p).length + (tx q).length ≤ 50 := by simpa using hl
  have e1 := Rx.parse_or hd hd' (by omega) h9 h9'
  have e2 := Rx.parse_both hd hd' (by omega) h9 h9'
  have e3 := Rx.parse_mark hd (by omega) h9 63 (.inr (.inr rfl))
  rw [if_neg (by decide), if_neg (by decide)] at e3
  have wa := (Rx.parse_wf hp).1
  have wb := (Rx.parse_wf hq).1
  have w1 := (Rx.parse_wf e1).1
  have w2 := (Rx.parse_wf e2).1
  have w3 := (Rx.parse_wf e3).1
  refine ⟨_, _, _, by rw [or_text]; exact e1, by rw [both_text]; exact e2, by rw [mark_text]; exact e3, fun s => ⟨?_, ?_, ?_⟩⟩
  · rw [Bool.eq_iff_iff, Bool.or_eq_true, isOf_iff w1, isOf_iff wa, isOf_iff wb, Rx.lang_alt0 r']
    constructor
    · intro h
      cases h with
      | altl h => exact .inl h
      | altr h => exact .inr h
    · rintro (h | h)
      · exact .altl h
      · exact .altr h
  · rw [Bool.eq_iff_iff, isOf_iff w2, Rx.lang_alt0]
    unfold bothTo
    simp only [List.any_eq_true, List.mem_range, Bool.and_eq_true]
    constructor
    · intro h
      generalize hw : bys s = u at h
      cases h with
      | @cat _ _ u v h1 h2 =>
        have hlen : (bys s).length = s.size := by simp [bys]
        have hul : u.length ≤ s.size := by rw [hw] at hlen; simp at hlen; omega
        refine ⟨u.length, by omega, ?_, ?_⟩
        · rw [isOf_iff wa, Rx.lang_alt0, bys_take, hw]; simpa using h1
        · rw [isOf_iff wb, Rx.lang_alt0, bys_drop, hw]; simpa using h2
    · rintro ⟨j, _, h1, h2⟩
      rw [isOf_iff wa, Rx.lang_alt0, bys_take] at h1
      rw [isOf_iff wb, Rx.lang_alt0, bys_drop] at h2
      have := Rx.Lang.cat h1 h2
      rwa [List.take_append_drop] at this
  · rw [Bool.eq_iff_iff, Bool.or_eq_true, isOf_iff w3, isOf_iff wa, Rx.lang_alt0, Rx.lang_alt0, decide_eq_true_iff, ByteArray.toList_eq]
    have hb : bys s = [] ↔ s.data.toList = [] := by
      show (s.data.toList).map (fun b => b.toNat) = [] ↔ _
      exact List.map_eq_nil_iff
    constructor
    · intro h
      generalize hw : bys s = u at h
      cases h with
      | opt0 => exact .inl (hb.1 hw)
      | optS h => exact .inr h
    · rintro (h | h)
      · rw [hb.2 h]; exact .opt0
      · exact .optS h

set_option maxRecDepth 100000 in
set_option maxHeartbeats 8000000 in
theorem regexparts_any (p q s : ByteArray) (w : World) (hp : p.size ≤ 140737488351232) (hq : q.size ≤ 140737488351232) (hs : s.size ≤ 140737488351232) :
    Calls Try.prog 5 #[.string p, .string q, .string s] w fun e w' => e = .returned (.bool true) ∧ Below w.heap.size w w' := by
  by_cases h1 : p.size + q.size ≤ 50
  · by_cases h2 : s.size ≤ 20
    · cases hpr : Rx.parse (tx p) with
      | bad i c =>
        have HA := Lib.hid (fun W => alone_bad p W i c hpr hp)
        clear hpr
        go_enter Try.func5, Try.ntmps5
        go_wp2_with fail
        go_at_call 8
        refine (known_any _).mono ?_
        rintro e w1 ⟨rfl, hb⟩
        have HB := Lib.hid hb
        clear hb
        go_wp2_with fail
        go_at_call 17
        refine (HA.out _).mono ?_
        rintro e w2 ⟨rfl, hb⟩
        have HBN := Lib.hid (bstep HB.out hb (Nat.le_refl _))
        clear HB hb
        have HB := HBN
        clear HBN
        go_wp2_with fail
        go_ret
        exact ⟨rfl, HB.out⟩
      | ok r =>
        have HA := Lib.hid (fun W => alone_ok p W r hpr)
        cases hqr : Rx.parse (tx q) with
        | bad i c =>
          have HA2 := Lib.hid (fun W => alone_bad q W i c hqr hq)
          clear hpr hqr
          go_enter Try.func5, Try.ntmps5
          go_wp2_with fail
          go_at_call 8
          refine (known_any _).mono ?_
          rintro e w1 ⟨rfl, hb⟩
          have HB := Lib.hid hb
          clear hb
          go_wp2_with fail
          go_at_call 17
          refine (HA.out _).mono ?_
          rintro e w2 ⟨rfl, hb⟩
          have HBN := Lib.hid (bstep HB.out hb (Nat.le_refl _))
          clear HB hb
          have HB := HBN
          clear HBN
          go_wp2_with fail
          go_at_call 17
          refine (HA2.out _).mono ?_
          rintro e w2 ⟨rfl, hb⟩
          have HBN := Lib.hid (bstep HB.out hb (Nat.le_refl _))
          clear HB hb
          have HB := HBN
          clear HBN
          go_wp2_with fail
          go_ret
          exact ⟨rfl, HB.out⟩
        | ok r' =>
          have HA2 := Lib.hid (fun W => alone_ok q W r' hqr)
          rcases one_re p r hpr (by omega) with ⟨k, hk⟩ | ⟨d, hd, h9, ha⟩
          · rcases one_re q r' hqr (by omega) with ⟨k', hk'⟩ | ⟨d', hd', h9', hb⟩
            · have C1 := Lib.hid (fun W => compile_bad _ W _ _ hk (by rw [brk_size]; omega))
              have C2 := Lib.hid (fun W => compile_bad _ W _ _ hk' (by rw [brk_size]; omega))
              clear hk hk' hpr hqr
              go_enter Try.func5, Try.ntmps5
              go_wp2_with fail
              go_at_call 8
              refine (known_any _).mono ?_
              rintro e w1 ⟨rfl, hb⟩
              have HB := Lib.hid hb
              clear hb
              go_wp2_with fail
              go_at_call 17
              refine (HA.out _).mono ?_
              rintro e w2 ⟨rfl, hb⟩
              have HBN := Lib.hid (bstep HB.out hb (Nat.le_refl _))
              clear HB hb
              have HB := HBN
              clear HBN
              go_wp2_with fail
              go_at_call 17
              refine (HA2.out _).mono ?_
              rintro e w2 ⟨rfl, hb⟩
              have HBN := Lib.hid (bstep HB.out hb (Nat.le_refl _))
              clear HB hb
              have HB := HBN
              clear HBN
              go_wp2_with fail
              go_at_call 9
              refine (C1.out _).mono ?_
              rintro e w6 ⟨rfl, hb⟩
              have HBN := Lib.hid (bstep HB.out hb (Nat.le_refl _))
              clear HB hb
              have HB := HBN
              clear HBN
              go_wp2_with fail
              go_at_call 9
              refine (C2.out _).mono ?_
              rintro e w6 ⟨rfl, hb⟩
              have HBN := Lib.hid (bstep HB.out hb (Nat.le_refl _))
              clear HB hb
              have HB := HBN
              clear HBN
              go_wp2_with fail
              go_ret
              exact ⟨rfl, HB.out⟩
            · have C1 := Lib.hid (fun W => compile_bad _ W _ _ hk (by rw [brk_size]; omega))
              have C2 := Lib.hid (fun W => compile_ok _ W _ hb (by rw [brk_size]; omega))
              clear hk hb hd' h9' hpr hqr
              go_enter Try.func5, Try.ntmps5
              go_wp2_with fail
              go_at_call 8
              refine (known_any _).mono ?_
              rintro e w1 ⟨rfl, hb⟩
              have HB := Lib.hid hb
              clear hb
              go_wp2_with fail
              go_at_call 17
              refine (HA.out _).mono ?_
              rintro e w2 ⟨rfl, hb⟩
              have HBN := Lib.hid (bstep HB.out hb (Nat.le_refl _))
              clear HB hb
              have HB := HBN
              clear HBN
              go_wp2_with fail
              go_at_call 17
              refine (HA2.out _).mono ?_
              rintro e w2 ⟨rfl, hb⟩
              have HBN := Lib.hid (bstep HB.out hb (Nat.le_refl _))
              clear HB hb
              have HB := HBN
              clear HBN
              go_wp2_with fail
              go_at_call 9
              refine (C1.out _).mono ?_
              rintro e w6 ⟨rfl, hb⟩
              have HBN := Lib.hid (bstep HB.out hb (Nat.le_refl _))
              clear HB hb
              have HB := HBN
              clear HBN
              go_wp2_with fail
              go_at_call 9
              refine (C2.out _).mono ?_
              rintro e w6 ⟨rHQ, FHQ, rfl, hr, hb⟩
              have HQ := Lib.hid hr
              have HBN := Lib.hid (bstep HB.out hb (Nat.le_refl _))
              clear HB hb hr
              have HB := HBN
              clear HBN
              go_wp2_with fail
              go_ret
              exact ⟨rfl, HB.out⟩
          · rcases one_re q r' hqr (by omega) with ⟨k', hk'⟩ | ⟨d', hd', h9', hb⟩
            · have C1 := Lib.hid (fun W => compile_ok _ W _ ha (by rw [brk_size]; omega))
              have C2 := Lib.hid (fun W => compile_bad _ W _ _ hk' (by rw [brk_size]; omega))
              clear hk' ha hd h9 hpr hqr
              go_enter Try.func5, Try.ntmps5
              go_wp2_with fail
              go_at_call 8
              refine (known_any _).mono ?_
              rintro e w1 ⟨rfl, hb⟩
              have HB := Lib.hid hb
              clear hb
              go_wp2_with fail
              go_at_call 17
              refine (HA.out _).mono ?_
              rintro e w2 ⟨rfl, hb⟩
              have HBN := Lib.hid (bstep HB.out hb (Nat.le_refl _))
              clear HB hb
              have HB := HBN
              clear HBN
              go_wp2_with fail
              go_at_call 17
              refine (HA2.out _).mono ?_
              rintro e w2 ⟨rfl, hb⟩
              have HBN := Lib.hid (bstep HB.out hb (Nat.le_refl _))
              clear HB hb
              have HB := HBN
              clear HBN
              go_wp2_with fail
              go_at_call 9
              refine (C1.out _).mono ?_
              rintro e w6 ⟨rHR, FHR, rfl, hr, hb⟩
              have HR := Lib.hid hr
              have HBN := Lib.hid (bstep HB.out hb (Nat.le_refl _))
              clear HB hb hr
              have HB := HBN
              clear HBN
              go_wp2_with fail
              go_at_call 9
              refine (C2.out _).mono ?_
              rintro e w6 ⟨rfl, hb⟩
              have HRN := Lib.hid (HR.out.kept hb)
              have HBN := Lib.hid (bstep HB.out hb (Nat.le_refl _))
              clear HR HB hb
              have HR := HRN
              have HB := HBN
              clear HBN HRN
              go_wp2_with fail
              go_ret
              exact ⟨rfl, HB.out⟩
            · obtain ⟨x, y, z, hx, hy, hz, hall⟩ := parts_re p q r r' d d' hd hd' h9 h9' h1 ha hb
              have C1 := Lib.hid (fun W => compile_ok _ W _ ha (by rw [brk_size]; omega))
              have C2 := Lib.hid (fun W => compile_ok _ W _ hb (by rw [brk_size]; omega))
              have C3 := Lib.hid (fun W => compile_ok _ W _ hx (by rw [or_size]; omega))
              have C4 := Lib.hid (fun W => compile_ok _ W _ hy (by rw [both_size]; omega))
              have C5 := Lib.hid (fun W => compile_ok _ W _ hz (by rw [mark_size]; omega))
              have HPa := Lib.hid ha
              have HPb := Lib.hid hb
              have HPx := Lib.hid hx
              have HPy := Lib.hid hy
              have HPz := Lib.hid hz
              obtain ⟨hx0, hy0, hz0⟩ := hall s
              have Hx := Lib.hid hx0
              have Hy := Lib.hid hy0
              have Hz := Lib.hid hz0
              have Z0 := Lib.hid (show s.size ≤ 1000000 by omega)
              clear hpr hqr hd hd' h9 h9' ha hb hx hy hz hall hx0 hy0 hz0
              go_enter Try.func5, Try.ntmps5
              go_wp2_with fail
              go_at_call 8
              refine (known_any _).mono ?_
              rintro e w1 ⟨rfl, hb⟩
              have HB := Lib.hid hb
              clear hb
              go_wp2_with fail
              go_at_call 17
              refine (HA.out _).mono ?_
              rintro e w2 ⟨rfl, hb⟩
              have HBN := Lib.hid (bstep HB.out hb (Nat.le_refl _))
              clear HB hb
              have HB := HBN
              clear HBN
              go_wp2_with fail
              go_at_call 17
              refine (HA2.out _).mono ?_
              rintro e w2 ⟨rfl, hb⟩
              have HBN := Lib.hid (bstep HB.out hb (Nat.le_refl _))
              clear HB hb
              have HB := HBN
              clear HBN
              go_wp2_with fail
              go_at_call 9
              refine (C1.out _).mono ?_
              rintro e w6 ⟨rHR, FHR, rfl, hr, hb⟩
              have HR := Lib.hid hr
              have HBN := Lib.hid (bstep HB.out hb (Nat.le_refl _))
              clear HB hb hr
              have HB := HBN
              clear HBN
              go_wp2_with fail
              go_at_call 9
              refine (C2.out _).mono ?_
              rintro e w6 ⟨rHQ, FHQ, rfl, hr, hb⟩
              have HQ := Lib.hid hr
              have HRN := Lib.hid (HR.out.kept hb)
              have HBN := Lib.hid (bstep HB.out hb (Nat.le_refl _))
              clear HR HB hb hr
              have HR := HRN
              have HB := HBN
              clear HBN HRN
              go_wp2_with fail
              go_at_call 9
              refine (C3.out _).mono ?_
              rintro e w6 ⟨rHX, FHX, rfl, hr, hb⟩
              have HX := Lib.hid hr
              have HRN := Lib.hid (HR.out.kept hb)
              have HQN := Lib.hid (HQ.out.kept hb)
              have HBN := Lib.hid (bstep HB.out hb (Nat.le_refl _))
              clear HR HQ HB hb hr
              have HR := HRN
              have HQ := HQN
              have HB := HBN
              clear HBN HRN HQN
              go_wp2_with fail
              go_at_call 9
              refine (C4.out _).mono ?_
              rintro e w6 ⟨rHY, FHY, rfl, hr, hb⟩
              have HY := Lib.hid hr
              have HRN := Lib.hid (HR.out.kept hb)
              have HQN := Lib.hid (HQ.out.kept hb)
              have HXN := Lib.hid (HX.out.kept hb)
              have HBN := Lib.hid (bstep HB.out hb (Nat.le_refl _))
              clear HR HQ HX HB hb hr
              have HR := HRN
              have HQ := HQN
              have HX := HXN
              have HB := HBN
              clear HBN HRN HQN HXN
              go_wp2_with fail
              go_at_call 9
              refine (C5.out _).mono ?_
              rintro e w6 ⟨rHZ, FHZ, rfl, hr, hb⟩
              have HZ := Lib.hid hr
              have HRN := Lib.hid (HR.out.kept hb)
              have HQN := Lib.hid (HQ.out.kept hb)
              have HXN := Lib.hid (HX.out.kept hb)
              have HYN := Lib.hid (HY.out.kept hb)
              have HBN := Lib.hid (bstep HB.out hb (Nat.le_refl _))
              clear HR HQ HX HY HB hb hr
              have HR := HRN
              have HQ := HQN
              have HX := HXN
              have HY := HYN
              have HB := HBN
              clear HBN HRN HQN HXN HYN
              have hbases : ∃ bHR bHQ bHX bHY bHZ, Hid (RegexAt w6 bHR rHR (⟨#[40]⟩ ++ p ++ ⟨#[41]⟩) (.alt .alt0 r) FHR) ∧ Hid (RegexAt w6 bHQ rHQ (⟨#[40]⟩ ++ q ++ ⟨#[41]⟩) (.alt .alt0 r') FHQ) ∧ Hid (RegexAt w6 bHX rHX (⟨#[40]⟩ ++ p ++ ⟨#[41, 124, 40]⟩ ++ q ++ ⟨#[41]⟩) x FHX) ∧
                  Hid (RegexAt w6 bHY rHY (⟨#[40]⟩ ++ p ++ ⟨#[41, 40]⟩ ++ q ++ ⟨#[41]⟩) y FHY) ∧ Hid (RegexAt w6 bHZ rHZ (⟨#[40]⟩ ++ p ++ ⟨#[41, 63]⟩) z FHZ) := ⟨_, _, _, _, _, HR, HQ, HX, HY, HZ⟩
              clear HR HQ HX HY HZ
              obtain ⟨bHR, bHQ, bHX, bHY, bHZ, HR, HQ, HX, HY, HZ⟩ := hbases
              go_wp2_with fail
              obtain ⟨w0, hw0⟩ : ∃ w0, w0 = w6 := ⟨_, rfl⟩
              subst hw0
              go_loopw [22, 23] (fun v i wr => ∃ k : Nat, k ≤ s.size + 1 ∧ i = .int .i64 (k : Int) ∧ v = .bool (bothTo (.alt .alt0 r) (.alt .alt0 r') s k) ∧ Hid (RegexAt wr bHR rHR (⟨#[40]⟩ ++ p ++ ⟨#[41]⟩) (.alt .alt0 r) FHR) ∧ Hid (RegexAt wr bHQ rHQ (⟨#[40]⟩ ++ q ++ ⟨#[41]⟩) (.alt .alt0 r') FHQ) ∧
                  Hid (RegexAt wr bHX rHX (⟨#[40]⟩ ++ p ++ ⟨#[41, 124, 40]⟩ ++ q ++ ⟨#[41]⟩) x FHX) ∧ Hid (RegexAt wr bHY rHY (⟨#[40]⟩ ++ p ++ ⟨#[41, 40]⟩ ++ q ++ ⟨#[41]⟩) y FHY) ∧ Hid (RegexAt wr bHZ rHZ (⟨#[40]⟩ ++ p ++ ⟨#[41, 63]⟩) z FHZ) ∧ Hid (Below w.heap.size w wr))
                (fun _ i _ => 100 - (intOf i).toNat)
              case atStart => exact ⟨0, by omega, rfl, rfl, HR, HQ, HX, HY, HZ, HB⟩
              case round =>
                clear HR HQ HX HY HZ HB
                obtain ⟨k, hk, rfl, rfl, HR, HQ, HX, HY, HZ, HB⟩ := hrel
                by_cases hlt : k ≤ s.size
                · have hsu := bothTo_succ (.alt .alt0 r) (.alt .alt0 r') s k
                  have hz1 : (s.extract 0 k).size ≤ 1000000 := by simp; omega
                  have hz2 : (s.extract k s.size).size ≤ 1000000 := by simp; omega
                  have Z1 := Lib.hid hz1
                  have Z2 := Lib.hid hz2
                  clear hz1 hz2
                  cases hbk : bothTo (.alt .alt0 r) (.alt .alt0 r') s k
                  · cases hak : isOf (.alt .alt0 r) (s.extract 0 k)
                    · rw [hbk, hak] at hsu
                      have Hsu := Lib.hid hsu
                      clear hsu
                      go_wp2_with fail
                      go_at_call 12
                      refine (match_re _ _ _ _ _ _ _ HR.out HPa.out Z1.out).mono ?_
                      rintro e w7 ⟨rfl, hb⟩
                      have HRN := Lib.hid (HR.out.kept hb)
                      have HQN := Lib.hid (HQ.out.kept hb)
                      have HXN := Lib.hid (HX.out.kept hb)
                      have HYN := Lib.hid (HY.out.kept hb)
                      have HZN := Lib.hid (HZ.out.kept hb)
                      have HBN := Lib.hid (bstep HB.out hb (Nat.le_refl _))
                      clear HR HQ HX HY HZ HB hb
                      have HR := HRN
                      have HQ := HQN
                      have HX := HXN
                      have HY := HYN
                      have HZ := HZN
                      have HB := HBN
                      clear HBN HRN HQN HXN HYN HZN
                      go_wp2_with fail
                      go_roundw
                      case rel => exact ⟨k + 1, by omega, by go_num, by rw [Hsu.out]; rfl, HR, HQ, HX, HY, HZ, HB⟩
                      case measure => simp [intOf]; omega
                    · rw [hbk, hak] at hsu
                      have Hsu := Lib.hid hsu
                      clear hsu
                      go_wp2_with fail
                      go_at_call 12
                      refine (match_re _ _ _ _ _ _ _ HR.out HPa.out Z1.out).mono ?_
                      rintro e w7 ⟨rfl, hb⟩
                      have HRN := Lib.hid (HR.out.kept hb)
                      have HQN := Lib.hid (HQ.out.kept hb)
                      have HXN := Lib.hid (HX.out.kept hb)
                      have HYN := Lib.hid (HY.out.kept hb)
                      have HZN := Lib.hid (HZ.out.kept hb)
                      have HBN := Lib.hid (bstep HB.out hb (Nat.le_refl _))
                      clear HR HQ HX HY HZ HB hb
                      have HR := HRN
                      have HQ := HQN
                      have HX := HXN
                      have HY := HYN
                      have HZ := HZN
                      have HB := HBN
                      clear HBN HRN HQN HXN HYN HZN
                      go_wp2_with fail
                      go_at_call 12
                      refine (match_re _ _ _ _ _ _ _ HQ.out HPb.out Z2.out).mono ?_
                      rintro e w7 ⟨rfl, hb⟩
                      have HRN := Lib.hid (HR.out.kept hb)
                      have HQN := Lib.hid (HQ.out.kept hb)
                      have HXN := Lib.hid (HX.out.kept hb)
                      have HYN := Lib.hid (HY.out.kept hb)
                      have HZN := Lib.hid (HZ.out.kept hb)
                      have HBN := Lib.hid (bstep HB.out hb (Nat.le_refl _))
                      clear HR HQ HX HY HZ HB hb
                      have HR := HRN
                      have HQ := HQN
                      have HX := HXN
                      have HY := HYN
                      have HZ := HZN
                      have HB := HBN
                      clear HBN HRN HQN HXN HYN HZN
                      go_wp2_with fail
                      go_roundw
                      case rel => exact ⟨k + 1, by omega, by go_num, by rw [Hsu.out]; rfl, HR, HQ, HX, HY, HZ, HB⟩
                      case measure => simp [intOf]; omega
                  · rw [hbk] at hsu
                    have Hsu := Lib.hid hsu
                    clear hsu
                    go_wp2_with fail
                    go_roundw
                    case rel => exact ⟨k + 1, by omega, by go_num, by rw [Hsu.out]; rfl, HR, HQ, HX, HY, HZ, HB⟩
                    case measure => simp [intOf]; omega
                · obtain rfl : k = s.size + 1 := by omega
                  have hY : (isOf y s == bothTo (.alt .alt0 r) (.alt .alt0 r') s (s.size + 1)) = true := by rw [Hy.out]; simp
                  cases hA : isOf (.alt .alt0 r) s
                  · have hX : (isOf x s == isOf (.alt .alt0 r') s) = true := by rw [Hx.out, hA]; simp
                    by_cases hE : s.toList = []
                    · have hZ : isOf z s = true := by rw [Hz.out]; simp [hE]
                      go_wp2_with fail
                      go_at_call 12
                      refine (match_re _ _ _ _ _ _ _ HX.out HPx.out Z0.out).mono ?_
                      rintro e w7 ⟨rfl, hb⟩
                      have HRN := Lib.hid (HR.out.kept hb)
                      have HQN := Lib.hid (HQ.out.kept hb)
                      have HXN := Lib.hid (HX.out.kept hb)
                      have HYN := Lib.hid (HY.out.kept hb)
                      have HZN := Lib.hid (HZ.out.kept hb)
                      have HBN := Lib.hid (bstep HB.out hb (Nat.le_refl _))
                      clear HR HQ HX HY HZ HB hb
                      have HR := HRN
                      have HQ := HQN
                      have HX := HXN
                      have HY := HYN
                      have HZ := HZN
                      have HB := HBN
                      clear HBN HRN HQN HXN HYN HZN
                      go_wp2_with fail
                      go_at_call 12
                      refine (match_re _ _ _ _ _ _ _ HR.out HPa.out Z0.out).mono ?_
                      rintro e w7 ⟨rfl, hb⟩
                      have HRN := Lib.hid (HR.out.kept hb)
                      have HQN := Lib.hid (HQ.out.kept hb)
                      have HXN := Lib.hid (HX.out.kept hb)
                      have HYN := Lib.hid (HY.out.kept hb)
                      have HZN := Lib.hid (HZ.out.kept hb)
                      have HBN := Lib.hid (bstep HB.out hb (Nat.le_refl _))
                      clear HR HQ HX HY HZ HB hb
                      have HR := HRN
                      have HQ := HQN
                      have HX := HXN
                      have HY := HYN
                      have HZ := HZN
                      have HB := HBN
                      clear HBN HRN HQN HXN HYN HZN
                      go_wp2_with fail
                      go_at_call 12
                      refine (match_re _ _ _ _ _ _ _ HQ.out HPb.out Z0.out).mono ?_
                      rintro e w7 ⟨rfl, hb⟩
                      have HRN := Lib.hid (HR.out.kept hb)
                      have HQN := Lib.hid (HQ.out.kept hb)
                      have HXN := Lib.hid (HX.out.kept hb)
                      have HYN := Lib.hid (HY.out.kept hb)
                      have HZN := Lib.hid (HZ.out.kept hb)
                      have HBN := Lib.hid (bstep HB.out hb (Nat.le_refl _))
                      clear HR HQ HX HY HZ HB hb
                      have HR := HRN
                      have HQ := HQN
                      have HX := HXN
                      have HY := HYN
                      have HZ := HZN
                      have HB := HBN
                      clear HBN HRN HQN HXN HYN HZN
                      go_wp2_with fail
                      go_at_call 12
                      refine (match_re _ _ _ _ _ _ _ HY.out HPy.out Z0.out).mono ?_
                      rintro e w7 ⟨rfl, hb⟩
                      have HRN := Lib.hid (HR.out.kept hb)
                      have HQN := Lib.hid (HQ.out.kept hb)
                      have HXN := Lib.hid (HX.out.kept hb)
                      have HYN := Lib.hid (HY.out.kept hb)
                      have HZN := Lib.hid (HZ.out.kept hb)
                      have HBN := Lib.hid (bstep HB.out hb (Nat.le_refl _))
                      clear HR HQ HX HY HZ HB hb
                      have HR := HRN
                      have HQ := HQN
                      have HX := HXN
                      have HY := HYN
                      have HZ := HZN
                      have HB := HBN
                      clear HBN HRN HQN HXN HYN HZN
                      go_wp2_with fail
                      go_at_call 12
                      refine (match_re _ _ _ _ _ _ _ HZ.out HPz.out Z0.out).mono ?_
                      rintro e w7 ⟨rfl, hb⟩
                      have HRN := Lib.hid (HR.out.kept hb)
                      have HQN := Lib.hid (HQ.out.kept hb)
                      have HXN := Lib.hid (HX.out.kept hb)
                      have HYN := Lib.hid (HY.out.kept hb)
                      have HZN := Lib.hid (HZ.out.kept hb)
                      have HBN := Lib.hid (bstep HB.out hb (Nat.le_refl _))
                      clear HR HQ HX HY HZ HB hb
                      have HR := HRN
                      have HQ := HQN
                      have HX := HXN
                      have HY := HYN
                      have HZ := HZN
                      have HB := HBN
                      clear HBN HRN HQN HXN HYN HZN
                      go_wp2_with fail
                      go_ret
                      exact ⟨rfl, HB.out⟩
                    · have hZ : isOf z s = false := by rw [Hz.out, hA]; simp [hE]
                      have hEi : s.toList.isEmpty = false := by simpa using hE
                      go_wp2_with fail
                      go_at_call 12
                      refine (match_re _ _ _ _ _ _ _ HX.out HPx.out Z0.out).mono ?_
                      rintro e w7 ⟨rfl, hb⟩
                      have HRN := Lib.hid (HR.out.kept hb)
                      have HQN := Lib.hid (HQ.out.kept hb)
                      have HXN := Lib.hid (HX.out.kept hb)
                      have HYN := Lib.hid (HY.out.kept hb)
                      have HZN := Lib.hid (HZ.out.kept hb)
                      have HBN := Lib.hid (bstep HB.out hb (Nat.le_refl _))
                      clear HR HQ HX HY HZ HB hb
                      have HR := HRN
                      have HQ := HQN
                      have HX := HXN
                      have HY := HYN
                      have HZ := HZN
                      have HB := HBN
                      clear HBN HRN HQN HXN HYN HZN
                      go_wp2_with fail
                      go_at_call 12
                      refine (match_re _ _ _ _ _ _ _ HR.out HPa.out Z0.out).mono ?_
                      rintro e w7 ⟨rfl, hb⟩
                      have HRN := Lib.hid (HR.out.kept hb)
                      have HQN := Lib.hid (HQ.out.kept hb)
                      have HXN := Lib.hid (HX.out.kept hb)
                      have HYN := Lib.hid (HY.out.kept hb)
                      have HZN := Lib.hid (HZ.out.kept hb)
                      have HBN := Lib.hid (bstep HB.out hb (Nat.le_refl _))
                      clear HR HQ HX HY HZ HB hb
                      have HR := HRN
                      have HQ := HQN
                      have HX := HXN
                      have HY := HYN
                      have HZ := HZN
                      have HB := HBN
                      clear HBN HRN HQN HXN HYN HZN
                      go_wp2_with fail
                      go_at_call 12
                      refine (match_re _ _ _ _ _ _ _ HQ.out HPb.out Z0.out).mono ?_
                      rintro e w7 ⟨rfl, hb⟩
                      have HRN := Lib.hid (HR.out.kept hb)
                      have HQN := Lib.hid (HQ.out.kept hb)
                      have HXN := Lib.hid (HX.out.kept hb)
                      have HYN := Lib.hid (HY.out.kept hb)
                      have HZN := Lib.hid (HZ.out.kept hb)
                      have HBN := Lib.hid (bstep HB.out hb (Nat.le_refl _))
                      clear HR HQ HX HY HZ HB hb
                      have HR := HRN
                      have HQ := HQN
                      have HX := HXN
                      have HY := HYN
                      have HZ := HZN
                      have HB := HBN
                      clear HBN HRN HQN HXN HYN HZN
                      go_wp2_with fail
                      go_at_call 12
                      refine (match_re _ _ _ _ _ _ _ HY.out HPy.out Z0.out).mono ?_
                      rintro e w7 ⟨rfl, hb⟩
                      have HRN := Lib.hid (HR.out.kept hb)
                      have HQN := Lib.hid (HQ.out.kept hb)
                      have HXN := Lib.hid (HX.out.kept hb)
                      have HYN := Lib.hid (HY.out.kept hb)
                      have HZN := Lib.hid (HZ.out.kept hb)
                      have HBN := Lib.hid (bstep HB.out hb (Nat.le_refl _))
                      clear HR HQ HX HY HZ HB hb
                      have HR := HRN
                      have HQ := HQN
                      have HX := HXN
                      have HY := HYN
                      have HZ := HZN
                      have HB := HBN
                      clear HBN HRN HQN HXN HYN HZN
                      go_wp2_with fail
                      go_at_call 12
                      refine (match_re _ _ _ _ _ _ _ HZ.out HPz.out Z0.out).mono ?_
                      rintro e w7 ⟨rfl, hb⟩
                      have HRN := Lib.hid (HR.out.kept hb)
                      have HQN := Lib.hid (HQ.out.kept hb)
                      have HXN := Lib.hid (HX.out.kept hb)
                      have HYN := Lib.hid (HY.out.kept hb)
                      have HZN := Lib.hid (HZ.out.kept hb)
                      have HBN := Lib.hid (bstep HB.out hb (Nat.le_refl _))
                      clear HR HQ HX HY HZ HB hb
                      have HR := HRN
                      have HQ := HQN
                      have HX := HXN
                      have HY := HYN
                      have HZ := HZN
                      have HB := HBN
                      clear HBN HRN HQN HXN HYN HZN
                      go_wp2_with fail
                      go_at_call 12
                      refine (match_re _ _ _ _ _ _ _ HR.out HPa.out Z0.out).mono ?_
                      rintro e w7 ⟨rfl, hb⟩
                      have HRN := Lib.hid (HR.out.kept hb)
                      have HQN := Lib.hid (HQ.out.kept hb)
                      have HXN := Lib.hid (HX.out.kept hb)
                      have HYN := Lib.hid (HY.out.kept hb)
                      have HZN := Lib.hid (HZ.out.kept hb)
                      have HBN := Lib.hid (bstep HB.out hb (Nat.le_refl _))
                      clear HR HQ HX HY HZ HB hb
                      have HR := HRN
                      have HQ := HQN
                      have HX := HXN
                      have HY := HYN
                      have HZ := HZN
                      have HB := HBN
                      clear HBN HRN HQN HXN HYN HZN
                      go_wp2_with fail
                      go_ret
                      exact ⟨rfl, HB.out⟩
                  · have hX : isOf x s = true := by rw [Hx.out, hA]; rfl
                    have hZ : isOf z s = true := by rw [Hz.out, hA]; simp
                    by_cases hE : s.toList = []
                    · go_wp2_with fail
                      go_at_call 12
                      refine (match_re _ _ _ _ _ _ _ HX.out HPx.out Z0.out).mono ?_
                      rintro e w7 ⟨rfl, hb⟩
                      have HRN := Lib.hid (HR.out.kept hb)
                      have HQN := Lib.hid (HQ.out.kept hb)
                      have HXN := Lib.hid (HX.out.kept hb)
                      have HYN := Lib.hid (HY.out.kept hb)
                      have HZN := Lib.hid (HZ.out.kept hb)
                      have HBN := Lib.hid (bstep HB.out hb (Nat.le_refl _))
                      clear HR HQ HX HY HZ HB hb
                      have HR := HRN
                      have HQ := HQN
                      have HX := HXN
                      have HY := HYN
                      have HZ := HZN
                      have HB := HBN
                      clear HBN HRN HQN HXN HYN HZN
                      go_wp2_with fail
                      go_at_call 12
                      refine (match_re _ _ _ _ _ _ _ HR.out HPa.out Z0.out).mono ?_
                      rintro e w7 ⟨rfl, hb⟩
                      have HRN := Lib.hid (HR.out.kept hb)
                      have HQN := Lib.hid (HQ.out.kept hb)
                      have HXN := Lib.hid (HX.out.kept hb)
                      have HYN := Lib.hid (HY.out.kept hb)
                      have HZN := Lib.hid (HZ.out.kept hb)
                      have HBN := Lib.hid (bstep HB.out hb (Nat.le_refl _))
                      clear HR HQ HX HY HZ HB hb
                      have HR := HRN
                      have HQ := HQN
                      have HX := HXN
                      have HY := HYN
                      have HZ := HZN
                      have HB := HBN
                      clear HBN HRN HQN HXN HYN HZN
                      go_wp2_with fail
                      go_at_call 12
                      refine (match_re _ _ _ _ _ _ _ HY.out HPy.out Z0.out).mono ?_
                      rintro e w7 ⟨rfl, hb⟩
                      have HRN := Lib.hid (HR.out.kept hb)
                      have HQN := Lib.hid (HQ.out.kept hb)
                      have HXN := Lib.hid (HX.out.kept hb)
                      have HYN := Lib.hid (HY.out.kept hb)
                      have HZN := Lib.hid (HZ.out.kept hb)
                      have HBN := Lib.hid (bstep HB.out hb (Nat.le_refl _))
                      clear HR HQ HX HY HZ HB hb
                      have HR := HRN
                      have HQ := HQN
                      have HX := HXN
                      have HY := HYN
                      have HZ := HZN
                      have HB := HBN
                      clear HBN HRN HQN HXN HYN HZN
                      go_wp2_with fail
                      go_at_call 12
                      refine (match_re _ _ _ _ _ _ _ HZ.out HPz.out Z0.out).mono ?_
                      rintro e w7 ⟨rfl, hb⟩
                      have HRN := Lib.hid (HR.out.kept hb)
                      have HQN := Lib.hid (HQ.out.kept hb)
                      have HXN := Lib.hid (HX.out.kept hb)
                      have HYN := Lib.hid (HY.out.kept hb)
                      have HZN := Lib.hid (HZ.out.kept hb)
                      have HBN := Lib.hid (bstep HB.out hb (Nat.le_refl _))
                      clear HR HQ HX HY HZ HB hb
                      have HR := HRN
                      have HQ := HQN
                      have HX := HXN
                      have HY := HYN
                      have HZ := HZN
                      have HB := HBN
                      clear HBN HRN HQN HXN HYN HZN
                      go_wp2_with fail
                      go_ret
                      exact ⟨rfl, HB.out⟩
                    · go_wp2_with fail
                      go_at_call 12
                      refine (match_re _ _ _ _ _ _ _ HX.out HPx.out Z0.out).mono ?_
                      rintro e w7 ⟨rfl, hb⟩
                      have HRN := Lib.hid (HR.out.kept hb)
                      have HQN := Lib.hid (HQ.out.kept hb)
                      have HXN := Lib.hid (HX.out.kept hb)
                      have HYN := Lib.hid (HY.out.kept hb)
                      have HZN := Lib.hid (HZ.out.kept hb)
                      have HBN := Lib.hid (bstep HB.out hb (Nat.le_refl _))
                      clear HR HQ HX HY HZ HB hb
                      have HR := HRN
                      have HQ := HQN
                      have HX := HXN
                      have HY := HYN
                      have HZ := HZN
                      have HB := HBN
                      clear HBN HRN HQN HXN HYN HZN
                      go_wp2_with fail
                      go_at_call 12
                      refine (match_re _ _ _ _ _ _ _ HR.out HPa.out Z0.out).mono ?_
                      rintro e w7 ⟨rfl, hb⟩
                      have HRN := Lib.hid (HR.out.kept hb)
                      have HQN := Lib.hid (HQ.out.kept hb)
                      have HXN := Lib.hid (HX.out.kept hb)
                      have HYN := Lib.hid (HY.out.kept hb)
                      have HZN := Lib.hid (HZ.out.kept hb)
                      have HBN := Lib.hid (bstep HB.out hb (Nat.le_refl _))
                      clear HR HQ HX HY HZ HB hb
                      have HR := HRN
                      have HQ := HQN
                      have HX := HXN
                      have HY := HYN
                      have HZ := HZN
                      have HB := HBN
                      clear HBN HRN HQN HXN HYN HZN
                      go_wp2_with fail
                      go_at_call 12
                      refine (match_re _ _ _ _ _ _ _ HY.out HPy.out Z0.out).mono ?_
                      rintro e w7 ⟨rfl, hb⟩
                      have HRN := Lib.hid (HR.out.kept hb)
                      have HQN := Lib.hid (HQ.out.kept hb)
                      have HXN := Lib.hid (HX.out.kept hb)
                      have HYN := Lib.hid (HY.out.kept hb)
                      have HZN := Lib.hid (HZ.out.kept hb)
                      have HBN := Lib.hid (bstep HB.out hb (Nat.le_refl _))
                      clear HR HQ HX HY HZ HB hb
                      have HR := HRN
                      have HQ := HQN
                      have HX := HXN
                      have HY := HYN
                      have HZ := HZN
                      have HB := HBN
                      clear HBN HRN HQN HXN HYN HZN
                      go_wp2_with fail
                      go_at_call 12
                      refine (match_re _ _ _ _ _ _ _ HZ.out HPz.out Z0.out).mono ?_
                      rintro e w7 ⟨rfl, hb⟩
                      have HRN := Lib.hid (HR.out.kept hb)
                      have HQN := Lib.hid (HQ.out.kept hb)
                      have HXN := Lib.hid (HX.out.kept hb)
                      have HYN := Lib.hid (HY.out.kept hb)
                      have HZN := Lib.hid (HZ.out.kept hb)
                      have HBN := Lib.hid (bstep HB.out hb (Nat.le_refl _))
                      clear HR HQ HX HY HZ HB hb
                      have HR := HRN
                      have HQ := HQN
                      have HX := HXN
                      have HY := HYN
                      have HZ := HZN
                      have HB := HBN
                      clear HBN HRN HQN HXN HYN HZN
                      go_wp2_with fail
                      go_at_call 12
                      refine (match_re _ _ _ _ _ _ _ HR.out HPa.out Z0.out).mono ?_
                      rintro e w7 ⟨rfl, hb⟩
                      have HRN := Lib.hid (HR.out.kept hb)
                      have HQN := Lib.hid (HQ.out.kept hb)
                      have HXN := Lib.hid (HX.out.kept hb)
                      have HYN := Lib.hid (HY.out.kept hb)
                      have HZN := Lib.hid (HZ.out.kept hb)
                      have HBN := Lib.hid (bstep HB.out hb (Nat.le_refl _))
                      clear HR HQ HX HY HZ HB hb
                      have HR := HRN
                      have HQ := HQN
                      have HX := HXN
                      have HY := HYN
                      have HZ := HZN
                      have HB := HBN
                      clear HBN HRN HQN HXN HYN HZN
                      go_wp2_with fail
                      go_ret
                      exact ⟨rfl, HB.out⟩
    · go_enter Try.func5, Try.ntmps5
      go_wp2_with fail
      go_at_call 8
      refine (known_any _).mono ?_
      rintro e w1 ⟨rfl, hb⟩
      have HB := Lib.hid hb
      clear hb
      go_wp2_with fail
      go_ret
      exact ⟨rfl, HB.out⟩
  · go_enter Try.func5, Try.ntmps5
    go_wp2_with fail
    go_at_call 8
    refine (known_any _).mono ?_
    rintro e w1 ⟨rfl, hb⟩
    have HB := Lib.hid hb
    clear hb
    go_wp2_with fail
    go_ret
    exact ⟨rfl, HB.out⟩

end Go.Proofs.Ytnbghiaggapoiaa
