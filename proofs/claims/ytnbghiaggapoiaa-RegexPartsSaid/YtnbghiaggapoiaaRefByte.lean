/- The reference's reader: a byte in brackets. -/
import Derived.Test.YtnbghiaggapoiaaRefEsc
namespace Go.Proofs.Ytnbghiaggapoiaa
set_option linter.unusedSimpArgs false
set_option linter.unusedVariables false
open Go.RowKit Go.Proofs
open Rx (NS Got)

/-- How a byte in brackets ends: it, where it stood; or the first error. -/
def BEnds (g : Got (Nat × Nat)) (w : World) (p : Nat) (s : ByteArray) (i d : Nat) (e : Ending) (w' : World) : Prop := Mod (fun k => k = p) w w' ∧ match g with
  | .ok x => ∃ pos, e = .returned (.tuple #[.int .u8 (x.1 : Int), .int .i64 (i : Int)]) ∧ Pt w' p s x.2 d 0 pos
  | .bad k c => ∃ i', e = .returned (.tuple #[.int .u8 0, .int .i64 (i : Int)]) ∧ i' ≤ s.size ∧ c ≠ 0 ∧ Pt w' p s i' d c k
theorem At.bends_ok {w W : World} {p : Nat} {s : ByteArray} {i i0 d pos c : Nat} {bs : List (Nat × List Value)} {ts : List Tr} (h : At w W p s i d 0 pos bs ts)
    {g : Got (Nat × Nat)} {j : Nat} (hg : g = .ok (c, j)) (hj : j = i) {e : Ending} (he : e = .returned (.tuple #[.int .u8 (c : Int), .int .i64 (i0 : Int)])) : BEnds g w p s i0 d e W := by
  subst hg hj he
  exact ⟨h.mod, pos, rfl, h.pt⟩
theorem At.bends_bad {w W : World} {p : Nat} {s : ByteArray} {i i0 d c k : Nat} {bs : List (Nat × List Value)} {ts : List Tr} (h : At w W p s i d c k bs ts)
    {g : Got (Nat × Nat)} (hg : g = .bad k c) (hc : c ≠ 0) (hi : i ≤ s.size) {e : Ending} (he : e = .returned (.tuple #[.int .u8 0, .int .i64 (i0 : Int)])) : BEnds g w p s i0 d e W := by
  subst hg he
  exact ⟨h.mod, i, rfl, hi, hc, h.pt⟩
theorem At.bnext {w W W' : World} {p : Nat} {s : ByteArray} {i i0 d pos : Nat} {bs : List (Nat × List Value)} {ts : List Tr} (h : At w W p s i d 0 pos bs ts) {g : Got (Nat × Nat)} {d' : Nat} {e : Ending} (hn : BEnds g W p s i0 d' e W') :
    (∃ c j pos', g = .ok (c, j) ∧ e = .returned (.tuple #[.int .u8 (c : Int), .int .i64 (i0 : Int)]) ∧ At w W' p s j d' 0 pos' bs ts) ∨
    (∃ k c i', g = .bad k c ∧ e = .returned (.tuple #[.int .u8 0, .int .i64 (i0 : Int)]) ∧ i' ≤ s.size ∧ c ≠ 0 ∧ At w W' p s i' d' c k bs ts) := by
  obtain ⟨hm, hn⟩ := hn
  match g, hn with
  | .ok (c, j), ⟨pos', h1, h2⟩ => exact .inl ⟨c, j, pos', rfl, h1, h.turnP hm h2⟩
  | .bad k c, ⟨i', h1, h2, h3, h4⟩ => exact .inr ⟨k, c, i', rfl, h1, h2, h3, h.turnP hm h4⟩

/-- The cells of a set of one byte. -/
theorem NRep.cls1 {w : World} {op : Nat} {no : Bool} {sa : Option Addr} {sn sc : Nat} {ka : Option Addr} {kn kc c : Nat} {F : List Nat} (h : NRep w ⟨op, no, sa, sn, sc, ka, kn, kc⟩ (.cls false [(c, c)]) F) :
    ∃ g, sa = some ⟨g, 0, none⟩ ∧ sn = 1 ∧ w.cell? ⟨g, 0, none⟩ = some (.int .u8 (c : Int)) := by
  cases h with
  | cls h =>
    obtain ⟨g, cap, e, _, _⟩ := h.form (by simp)
    simp only [Value.slice.injEq] at e
    obtain ⟨rfl, rfl, rfl⟩ := e
    exact ⟨g, rfl, rfl, (own_cell h (j := 0) (v := .int .u8 (c : Int)) rfl).1⟩
  | kids h _ _ => cases h

set_option maxHeartbeats 1000000 in
theorem refbyte1_any (w : World) (p : Nat) (s : ByteArray) (i d pos : Nat) (h : Pt w p s i d 0 pos) (hi : i ≤ s.size) (hs : s.size ≤ 1000) :
    Calls Try.prog 54 #[.pointer (some ⟨p, 0, none⟩)] w (BEnds (Rx.member (tx s) i) w p s i d) := by
  have A0 := At.start h
  obtain ⟨c0, c1, c2, c3, c4, f1, f2⟩ := h.cells0
  have hib : i ≤ 1000 := by omega
  by_cases h1 : i < s.size
  · have ht := take_of s i
    rw [dif_pos h1] at ht
    by_cases h92 : s[i].toNat = 92
    · have hm : Rx.member (tx s) i = (Rx.take (tx s) (i + 1)).bind fun d => .ok (d, i + 2) := by
        unfold Rx.member; rw [ht, if_neg (by omega)]; simp only [Got.bind]; rw [if_pos h92]
      have Hm := Lib.hid hm
      have e92 : ((s[i].toNat : Int) == 92) = true := eq_u8 _ 92 h92
      have hI : (i : Int) < s.size := by omega
      clear ht hm h92
      go_enter Try.func54, Try.ntmps54
      go_wp2_with fail
      go_at_call 49
      refine (refescaped_any w p s i d pos h h1 hs).mono ?_
      rintro e w1 hn
      clear c0 c1 c2 c3 c4 f1 f2
      rcases A0.enext hn with ⟨c, j, ⟨op, no, sa, sn, sc, ka, kn, kc⟩, F, pos', hg, rfl, A1⟩ | ⟨k, c, ⟨op, no, sa, sn, sc, ka, kn, kc⟩, i', hg, rfl, hi', hc, A1⟩
      · obtain ⟨g, rfl, rfl, hcell⟩ := NRep.cls1 (A1.tree _ (List.mem_cons_self ..))
        have A2 := A1.alloc [.int .u8 op, .bool no, .slice (some ⟨g, 0, none⟩) 1 sc, .slice ka kn kc]
        obtain ⟨g', eg, _, hcell2⟩ := NRep.cls1 (A2.tree _ (List.mem_cons_self ..))
        simp only [Option.some.injEq, Addr.mk.injEq] at eg
        obtain ⟨rfl, _⟩ := eg
        obtain ⟨n0, n1, n2, n3, g0, g1, g2, g3⟩ := A2.own
        obtain ⟨c0, c1, c2, c3, c4, f1, f2⟩ := A2.pt.cells0
        have Hg := Lib.hid hg
        clear hg hcell
        simp only [NC.val]
        go_wp2
        go_ret2
        exact A2.bends_ok (by rw [Hm.out, Hg.out]) rfl rfl
      · have A2 := A1.alloc [.int .u8 op, .bool no, .slice sa sn sc, .slice ka kn kc]
        obtain ⟨c0, c1, c2, c3, c4, f1, f2⟩ := A2.pt.cells
        have Hg := Lib.hid hg
        have hcb : ((c : Int) == 0) = false := ne_u8 _ 0 hc
        clear hg
        simp only [NC.val]
        go_wp2
        go_ret2
        exact A2.bends_bad (by rw [Hm.out, Hg.out]) hc hi' rfl
    · have e92 : ((s[i].toNat : Int) == 92) = false := ne_u8 _ 92 h92
      have hI : (i : Int) < s.size := by omega
      by_cases hok : (32 ≤ s[i].toNat ∧ s[i].toNat ≤ 126) ∧ s[i].toNat ≠ 93 ∧ s[i].toNat ≠ 45 ∧ s[i].toNat ≠ 94
      · obtain ⟨⟨k1, k2⟩, k3, k4, k5⟩ := hok
        have hm : Rx.member (tx s) i = .ok (s[i].toNat, i + 1) := by
          have hk : Rx.kept.contains s[i].toNat = false := by
            simp only [Rx.kept, List.contains_cons, List.contains_nil, Bool.or_false, Bool.or_eq_false_iff, beq_eq_false_iff_ne]
            omega
          unfold Rx.member; rw [ht, if_neg (by omega)]; simp only [Got.bind]; rw [if_neg h92, hk]; rfl
        have Hm := Lib.hid hm
        have j1 : ¬ (s[i].toNat : Int) < 32 := by omega
        have j2 : ¬ (126 : Int) < s[i].toNat := by omega
        have j3 : ((s[i].toNat : Int) == 93) = false := ne_u8 _ 93 k3
        have j4 : ((s[i].toNat : Int) == 45) = false := ne_u8 _ 45 k4
        have j5 : ((s[i].toNat : Int) == 94) = false := ne_u8 _ 94 k5
        clear hm ht k1 k2 k3 k4 k5 h92
        go_enter Try.func54, Try.ntmps54
        go_wp2
        go_ret2
        exact (A0.setAt (i + 1) _ (by omega)).bends_ok Hm.out rfl rfl
      · have hm : Rx.member (tx s) i = .bad i 2 := by
          unfold Rx.member; rw [ht]
          by_cases k : s[i].toNat < 32 ∨ 126 < s[i].toNat
          · rw [if_pos k]; rfl
          · have hk : Rx.kept.contains s[i].toNat = true := by
              simp only [Rx.kept, List.contains_cons, List.contains_nil, Bool.or_false, Bool.or_eq_true, beq_iff_eq]
              omega
            rw [if_neg k]; simp only [Got.bind]; rw [if_neg h92, hk]; rfl
        have Hm := Lib.hid hm
        have hcase : (s[i].toNat : Int) < 32 ∨ (¬ (s[i].toNat : Int) < 32 ∧ (126 : Int) < s[i].toNat) ∨ (¬ (s[i].toNat : Int) < 32 ∧ ¬ (126 : Int) < s[i].toNat ∧ s[i].toNat = 93) ∨
            (¬ (s[i].toNat : Int) < 32 ∧ ¬ (126 : Int) < s[i].toNat ∧ s[i].toNat ≠ 93 ∧ s[i].toNat = 45) ∨ (¬ (s[i].toNat : Int) < 32 ∧ ¬ (126 : Int) < s[i].toNat ∧ s[i].toNat ≠ 93 ∧ s[i].toNat ≠ 45 ∧ s[i].toNat = 94) := by omega
        clear hm ht hok h92
        rcases hcase with k1 | ⟨k1, k2⟩ | ⟨k1, k2, k3⟩ | ⟨k1, k2, k3, k4⟩ | ⟨k1, k2, k3, k4, k5⟩
        case' inr.inr.inl => have j3 : ((s[i].toNat : Int) == 93) = true := eq_u8 _ 93 k3; clear k3
        case' inr.inr.inr.inl => have j3 : ((s[i].toNat : Int) == 93) = false := ne_u8 _ 93 k3; have j4 : ((s[i].toNat : Int) == 45) = true := eq_u8 _ 45 k4; clear k3 k4
        case' inr.inr.inr.inr => have j3 : ((s[i].toNat : Int) == 93) = false := ne_u8 _ 93 k3; have j4 : ((s[i].toNat : Int) == 45) = false := ne_u8 _ 45 k4; have j5 : ((s[i].toNat : Int) == 94) = true := eq_u8 _ 94 k5; clear k3 k4 k5
        all_goals
          go_enter Try.func54, Try.ntmps54
          go_wp2_with (go_at_call 22; refine (A0.fail 2 i _ _ rfl rfl).mono ?_; rintro e w2 ⟨rfl, A2⟩)
          go_ret2
          exact A2.bends_bad Hm.out (by decide) hi rfl
  · have ht := take_of s i
    rw [dif_neg h1] at ht
    have hm : Rx.member (tx s) i = .bad i 2 := by unfold Rx.member; rw [ht]; rfl
    have Hm := Lib.hid hm
    have hd : (s.size : Int) ≤ i := by omega
    have hz : (s.size : Int) = (i : Int) := by omega
    have Hz := Lib.hid hz
    clear hz ht hm h1
    go_enter Try.func54, Try.ntmps54
    go_wp2_with (go_at_call 22; refine (A0.fail 2 i _ _ rfl Hz.out).mono ?_; rintro e w2 ⟨rfl, A2⟩)
    go_ret2
    exact A2.bends_bad Hm.out (by decide) hi rfl

end Go.Proofs.Ytnbghiaggapoiaa
