/- Sets of bytes of package regex, as the program has them (four words of 64 bits): contracts of put, has, turned, with, span. -/
import Derived.Test.YtnbghiaggapoiaaProg
import Derived.Test.YtnbghiaggapoiaaBase
import Derived.Handy
import Derived.Deep.QuietTactic
import Derived.BigQuiet
namespace Go.Proofs.Ytnbghiaggapoiaa
set_option linter.unusedSimpArgs false
set_option linter.unusedVariables false
open Go.RowKit Go.Proofs

def Wd (a : Nat) : Prop := a < 18446744073709551616

/-- Four words hold the bytes that f tells. -/
structure IsSet (a0 a1 a2 a3 : Nat) (f : Nat → Bool) : Prop where
  w0 : Wd a0
  w1 : Wd a1
  w2 : Wd a2
  w3 : Wd a3
  b0 : ∀ r, r < 64 → a0.testBit r = f r
  b1 : ∀ r, r < 64 → a1.testBit r = f (64 + r)
  b2 : ∀ r, r < 64 → a2.testBit r = f (128 + r)
  b3 : ∀ r, r < 64 → a3.testBit r = f (192 + r)

def setV (a0 a1 a2 a3 : Nat) : Value := .agg #[.int .u64 a0, .int .u64 a1, .int .u64 a2, .int .u64 a3]

/-- A value holds the bytes that f tells. -/
def BRep (v : Value) (f : Nat → Bool) : Prop := ∃ a0 a1 a2 a3 : Nat, v = setV a0 a1 a2 a3 ∧ IsSet a0 a1 a2 a3 f

theorem u64_wraps (n : Int) (h0 : 0 ≤ n) (h : n < 2 ^ 64) : IntKind.u64.wrap n = n := IntWalk.u64_in n ⟨h0, by
  have h' : n < 18446744073709551616 := h
  omega⟩

theorem bit_test (a r : Nat) (ha : Wd a) : (bits BinOp.and IntKind.u64 ((a : Int) / 2 ^ r) 1 == 1) = a.testBit r := by
  have h1 : ((a : Int) / 2 ^ r) = ((a / 2 ^ r : Nat) : Int) := by simp
  have ha' : a < 2 ^ 64 := ha
  have hlt : a / 2 ^ r < 2 ^ 64 := Nat.lt_of_le_of_lt (Nat.div_le_self _ _) ha'
  have h2 := (bits_nat .u64 64 (by decide) u64_wraps (a / 2 ^ r) 1 hlt (by decide)).1
  rw [h1]
  have h3 : ((1 : Nat) : Int) = 1 := rfl
  rw [h3] at h2
  rw [h2, Nat.testBit_eq_decide_div_mod_eq, Nat.and_one_is_mod]
  rw [Bool.eq_iff_iff, beq_iff_eq, decide_eq_true_iff]
  omega

theorem or_bit (a r : Nat) (ha : Wd a) (hr : r < 64) : bits BinOp.or IntKind.u64 (a : Int) (IntKind.u64.wrap (2 ^ r)) = ((a ||| 2 ^ r : Nat) : Int) := by
  have hlt : 2 ^ r < 2 ^ 64 := Nat.pow_lt_pow_right (by decide) hr
  have e : IntKind.u64.wrap (2 ^ r) = ((2 ^ r : Nat) : Int) := by
    have e2 : ((2 : Int) ^ r) = ((2 ^ r : Nat) : Int) := (Int.natCast_pow 2 r).symm
    rw [e2]
    generalize 2 ^ r = x at hlt
    have h' : x < 18446744073709551616 := hlt
    exact IntWalk.u64_in _ ⟨Int.natCast_nonneg _, by omega⟩
  rw [e]
  exact (bits_nat .u64 64 (by decide) u64_wraps a (2 ^ r) ha hlt).2

theorem or_or (a b : Nat) (ha : Wd a) (hb : Wd b) : bits BinOp.or IntKind.u64 (a : Int) (b : Int) = ((a ||| b : Nat) : Int) :=
  (bits_nat .u64 64 (by decide) u64_wraps a b ha hb).2

set_option maxHeartbeats 400000 in
theorem has_any (v : Value) (f : Nat → Bool) (c : Nat) (w : World) (hv : BRep v f) (hc : c < 256) :
    Calls Try.prog 24 #[v, .int .u8 c] w fun e w' => e = .returned (.bool (f c)) ∧ Below w.heap.size w w' := by
  obtain ⟨a0, a1, a2, a3, rfl, hs⟩ := hv
  have Hs := Lib.hid hs
  clear hs
  unfold setV
  have hm : c % 64 < 64 := Nat.mod_lt _ (by omega)
  have hcs : c / 64 = 0 ∨ c / 64 = 1 ∨ c / 64 = 2 ∨ c / 64 = 3 := by omega
  rcases hcs with hk | hk | hk | hk
  · have hk' : (c : Int) / 64 = 0 := by omega
    have Hk := Lib.hid (show c = c % 64 by omega)
    clear hk
    go_enter Try.func24, Try.ntmps24
    go_wp2
    go_ret
    exact ⟨ret_bool ((bit_test a0 (c % 64) Hs.out.w0).trans ((Hs.out.b0 _ hm).trans (congrArg f Hk.out.symm))), (Below.refl _ _).alloc (Nat.le_refl _) _⟩
  · have hk' : (c : Int) / 64 = 1 := by omega
    have Hk := Lib.hid (show c = 64 + c % 64 by omega)
    clear hk
    go_enter Try.func24, Try.ntmps24
    go_wp2
    go_ret
    exact ⟨ret_bool ((bit_test a1 (c % 64) Hs.out.w1).trans ((Hs.out.b1 _ hm).trans (congrArg f Hk.out.symm))), (Below.refl _ _).alloc (Nat.le_refl _) _⟩
  · have hk' : (c : Int) / 64 = 2 := by omega
    have Hk := Lib.hid (show c = 128 + c % 64 by omega)
    clear hk
    go_enter Try.func24, Try.ntmps24
    go_wp2
    go_ret
    exact ⟨ret_bool ((bit_test a2 (c % 64) Hs.out.w2).trans ((Hs.out.b2 _ hm).trans (congrArg f Hk.out.symm))), (Below.refl _ _).alloc (Nat.le_refl _) _⟩
  · have hk' : (c : Int) / 64 = 3 := by omega
    have Hk := Lib.hid (show c = 192 + c % 64 by omega)
    clear hk
    go_enter Try.func24, Try.ntmps24
    go_wp2
    go_ret
    exact ⟨ret_bool ((bit_test a3 (c % 64) Hs.out.w3).trans ((Hs.out.b3 _ hm).trans (congrArg f Hk.out.symm))), (Below.refl _ _).alloc (Nat.le_refl _) _⟩

/-- A block that holds a set of bytes. -/
def SetAt (w : World) (b : Nat) (f : Nat → Bool) : Prop := ∃ a0 a1 a2 a3 : Nat, Blk w b [.int .u64 a0, .int .u64 a1, .int .u64 a2, .int .u64 a3] 68 ∧ IsSet a0 a1 a2 a3 f

def also (f : Nat → Bool) (c : Nat) : Nat → Bool := fun x => f x || x == c

theorem wd_or {a b : Nat} (ha : Wd a) (hb : Wd b) : Wd (a ||| b) := by
  have : a ||| b < 2 ^ 64 := Nat.or_lt_two_pow ha hb
  exact this
theorem wd_bit {r : Nat} (hr : r < 64) : Wd (2 ^ r) := by
  have : 2 ^ r < 2 ^ 64 := Nat.pow_lt_pow_right (by decide) hr
  exact this

theorem test_or_bit (a r s : Nat) : (a ||| 2 ^ r).testBit s = (a.testBit s || s == r) := by
  rw [Nat.testBit_or, Nat.testBit_two_pow]
  congr 1
  rw [Bool.eq_iff_iff]; simp; exact eq_comm

theorem setAt_put {w : World} {b : Nat} {f : Nat → Bool} (c : Nat) (hc : c < 256) (h : SetAt w b f) (W : World)
    (hW : ∀ (a0 a1 a2 a3 : Nat), Blk w b [.int .u64 a0, .int .u64 a1, .int .u64 a2, .int .u64 a3] 68 →
      (c / 64 = 0 → Blk W b [.int .u64 ((a0 ||| 2 ^ (c % 64) : Nat) : Int), .int .u64 a1, .int .u64 a2, .int .u64 a3] 68) ∧
      (c / 64 = 1 → Blk W b [.int .u64 a0, .int .u64 ((a1 ||| 2 ^ (c % 64) : Nat) : Int), .int .u64 a2, .int .u64 a3] 68) ∧
      (c / 64 = 2 → Blk W b [.int .u64 a0, .int .u64 a1, .int .u64 ((a2 ||| 2 ^ (c % 64) : Nat) : Int), .int .u64 a3] 68) ∧
      (c / 64 = 3 → Blk W b [.int .u64 a0, .int .u64 a1, .int .u64 a2, .int .u64 ((a3 ||| 2 ^ (c % 64) : Nat) : Int)] 68)) : SetAt W b (also f c) := by
  obtain ⟨a0, a1, a2, a3, hb, hs⟩ := h
  obtain ⟨k0, k1, k2, k3⟩ := hW a0 a1 a2 a3 hb
  have hm : c % 64 < 64 := Nat.mod_lt _ (by omega)
  have hcs : c / 64 = 0 ∨ c / 64 = 1 ∨ c / 64 = 2 ∨ c / 64 = 3 := by omega
  have ff : ∀ x, x ≠ c → also f c x = f x := fun x hx => by simp [also, hx]
  have key : ∀ (a k r : Nat), c / 64 = k → r < 64 → (∀ r, r < 64 → a.testBit r = f (64 * k + r)) → (a ||| 2 ^ (c % 64)).testBit r = also f c (64 * k + r) := by
    intro a k r hk hr ha
    rw [test_or_bit, ha r hr]
    simp only [also]
    congr 1
    rw [Bool.eq_iff_iff]; simp; omega
  rcases hcs with hk | hk | hk | hk
  · exact ⟨_, _, _, _, k0 hk, wd_or hs.w0 (wd_bit hm), hs.w1, hs.w2, hs.w3, fun r hr => by have := key a0 0 r hk hr (by simpa using hs.b0); simpa using this,
      fun r hr => by rw [ff _ (by omega)]; exact hs.b1 r hr, fun r hr => by rw [ff _ (by omega)]; exact hs.b2 r hr, fun r hr => by rw [ff _ (by omega)]; exact hs.b3 r hr⟩
  · exact ⟨_, _, _, _, k1 hk, hs.w0, wd_or hs.w1 (wd_bit hm), hs.w2, hs.w3, fun r hr => by rw [ff _ (by omega)]; exact hs.b0 r hr, fun r hr => key a1 1 r hk hr hs.b1,
      fun r hr => by rw [ff _ (by omega)]; exact hs.b2 r hr, fun r hr => by rw [ff _ (by omega)]; exact hs.b3 r hr⟩
  · exact ⟨_, _, _, _, k2 hk, hs.w0, hs.w1, wd_or hs.w2 (wd_bit hm), hs.w3, fun r hr => by rw [ff _ (by omega)]; exact hs.b0 r hr, fun r hr => by rw [ff _ (by omega)]; exact hs.b1 r hr,
      fun r hr => key a2 2 r hk hr hs.b2, fun r hr => by rw [ff _ (by omega)]; exact hs.b3 r hr⟩
  · exact ⟨_, _, _, _, k3 hk, hs.w0, hs.w1, hs.w2, wd_or hs.w3 (wd_bit hm), fun r hr => by rw [ff _ (by omega)]; exact hs.b0 r hr, fun r hr => by rw [ff _ (by omega)]; exact hs.b1 r hr,
      fun r hr => by rw [ff _ (by omega)]; exact hs.b2 r hr, fun r hr => key a3 3 r hk hr hs.b3⟩

set_option maxHeartbeats 400000 in
theorem bput_any (b : Nat) (f : Nat → Bool) (c : Nat) (w : World) (hs : SetAt w b f) (hc : c < 256) :
    Calls Try.prog 51 #[.pointer (some ⟨b, 0, none⟩), .int .u8 c] w fun e w' => e = .returned (.tuple #[]) ∧ SetAt w' b (also f c) ∧ Mod (· = b) w w' := by
  have Hs := Lib.hid hs
  obtain ⟨a0, a1, a2, a3, hb, hset⟩ := hs
  have W0 := Lib.hid hset.w0
  have W1 := Lib.hid hset.w1
  have W2 := Lib.hid hset.w2
  have W3 := Lib.hid hset.w3
  have Hb := Lib.hid hb
  have c0 := hb.cell 0 rfl
  have c1 := hb.cell 1 rfl
  have c2 := hb.cell 2 rfl
  have c3 := hb.cell 3 rfl
  have f0 := hb.free 0
  have f1 := hb.free 1
  have f2 := hb.free 2
  have f3 := hb.free 3
  clear hb hset
  have hm : c % 64 < 64 := Nat.mod_lt _ (by omega)
  have hcs : c / 64 = 0 ∨ c / 64 = 1 ∨ c / 64 = 2 ∨ c / 64 = 3 := by omega
  have uniq : ∀ x0 x1 x2 x3 : Nat, Blk w b [.int .u64 x0, .int .u64 x1, .int .u64 x2, .int .u64 x3] 68 → x0 = a0 ∧ x1 = a1 ∧ x2 = a2 ∧ x3 = a3 := by
    intro x0 x1 x2 x3 hx
    have := Hb.out
    simp only [Blk] at hx this
    rw [hx] at this
    simp at this
    omega
  have Hu := Lib.hid uniq
  clear uniq
  rcases hcs with hk | hk | hk | hk
  · have hk' : (c : Int) / 64 = 0 := by omega
    have Hk := Lib.hid hk
    clear hk
    go_enter Try.func51, Try.ntmps51
    go_region
    go_end0
    refine ⟨rfl, setAt_put c hc Hs.out _ (fun x0 x1 x2 x3 hx => ?_), (Mod.refl _ _).setCell (by simp) _ |>.drew⟩
    obtain ⟨rfl, rfl, rfl, rfl⟩ := Hu.out _ _ _ _ hx
    refine ⟨fun _ => ?_, fun h => by have := Hk.out; omega, fun h => by have := Hk.out; omega, fun h => by have := Hk.out; omega⟩
    rw [or_bit _ _ W0.out hm]
    exact (hx.set 0 _).drew
  · have hk' : (c : Int) / 64 = 1 := by omega
    have Hk := Lib.hid hk
    clear hk
    go_enter Try.func51, Try.ntmps51
    go_region
    go_end0
    refine ⟨rfl, setAt_put c hc Hs.out _ (fun x0 x1 x2 x3 hx => ?_), (Mod.refl _ _).setCell (by simp) _ |>.drew⟩
    obtain ⟨rfl, rfl, rfl, rfl⟩ := Hu.out _ _ _ _ hx
    refine ⟨fun h => by have := Hk.out; omega, fun _ => ?_, fun h => by have := Hk.out; omega, fun h => by have := Hk.out; omega⟩
    rw [or_bit _ _ W1.out hm]
    exact (hx.set 1 _).drew
  · have hk' : (c : Int) / 64 = 2 := by omega
    have Hk := Lib.hid hk
    clear hk
    go_enter Try.func51, Try.ntmps51
    go_region
    go_end0
    refine ⟨rfl, setAt_put c hc Hs.out _ (fun x0 x1 x2 x3 hx => ?_), (Mod.refl _ _).setCell (by simp) _ |>.drew⟩
    obtain ⟨rfl, rfl, rfl, rfl⟩ := Hu.out _ _ _ _ hx
    refine ⟨fun h => by have := Hk.out; omega, fun h => by have := Hk.out; omega, fun _ => ?_, fun h => by have := Hk.out; omega⟩
    rw [or_bit _ _ W2.out hm]
    exact (hx.set 2 _).drew
  · have hk' : (c : Int) / 64 = 3 := by omega
    have Hk := Lib.hid hk
    clear hk
    go_enter Try.func51, Try.ntmps51
    go_region
    go_end0
    refine ⟨rfl, setAt_put c hc Hs.out _ (fun x0 x1 x2 x3 hx => ?_), (Mod.refl _ _).setCell (by simp) _ |>.drew⟩
    obtain ⟨rfl, rfl, rfl, rfl⟩ := Hu.out _ _ _ _ hx
    refine ⟨fun h => by have := Hk.out; omega, fun h => by have := Hk.out; omega, fun h => by have := Hk.out; omega, fun _ => ?_⟩
    rw [or_bit _ _ W3.out hm]
    exact (hx.set 3 _).drew

theorem xor_max (a : Nat) (ha : Wd a) : bits BinOp.xor IntKind.u64 IntKind.u64.max (a : Int) = ((2 ^ 64 - 1 - a : Nat) : Int) := by
  have ha' : a < 2 ^ 64 := ha
  have e : IntKind.u64.max = ((2 ^ 64 - 1 : Nat) : Int) := by decide
  rw [e]
  simp only [bits, BitVec.ofInt_natCast, BitVec.toNat_xor, BitVec.toNat_ofNat]
  have k : IntKind.u64.bits = 64 := rfl
  rw [k, Nat.mod_eq_of_lt ha', Nat.mod_eq_of_lt (by decide : 2 ^ 64 - 1 < 2 ^ 64)]
  have e2 : ((2 ^ 64 - 1) ^^^ a) = 2 ^ 64 - 1 - a := by
    apply Nat.eq_of_testBit_eq
    intro i
    rw [Nat.testBit_xor, Nat.testBit_two_pow_sub_one, show 2 ^ 64 - 1 - a = 2 ^ 64 - (a + 1) by omega, Nat.testBit_two_pow_sub_succ ha']
    by_cases h : i < 64
    · simp [h]
    · have : a.testBit i = false := Nat.testBit_lt_two_pow (Nat.lt_of_lt_of_le ha' (Nat.pow_le_pow_right (by decide) (by omega)))
      simp [h, this]
  rw [e2]
  exact u64_wraps _ (Int.natCast_nonneg _) (by omega)

theorem turned_set {a0 a1 a2 a3 : Nat} {f : Nat → Bool} (h : IsSet a0 a1 a2 a3 f) : IsSet (2 ^ 64 - 1 - a0) (2 ^ 64 - 1 - a1) (2 ^ 64 - 1 - a2) (2 ^ 64 - 1 - a3) (fun c => !f c) := by
  have wd : ∀ a, Wd (2 ^ 64 - 1 - a) := fun a => by unfold Wd; omega
  have tb : ∀ a r, Wd a → r < 64 → (2 ^ 64 - 1 - a).testBit r = !a.testBit r := by
    intro a r ha hr
    have ha' : a < 2 ^ 64 := ha
    rw [show 2 ^ 64 - 1 - a = 2 ^ 64 - (a + 1) by omega, Nat.testBit_two_pow_sub_succ ha']
    simp [hr]
  exact ⟨wd _, wd _, wd _, wd _, fun r hr => by rw [tb _ _ h.w0 hr, h.b0 r hr], fun r hr => by rw [tb _ _ h.w1 hr, h.b1 r hr], fun r hr => by rw [tb _ _ h.w2 hr, h.b2 r hr], fun r hr => by rw [tb _ _ h.w3 hr, h.b3 r hr]⟩

theorem with_set {a0 a1 a2 a3 b0 b1 b2 b3 : Nat} {f g : Nat → Bool} (h : IsSet a0 a1 a2 a3 f) (k : IsSet b0 b1 b2 b3 g) : IsSet (a0 ||| b0) (a1 ||| b1) (a2 ||| b2) (a3 ||| b3) (fun c => f c || g c) :=
  ⟨wd_or h.w0 k.w0, wd_or h.w1 k.w1, wd_or h.w2 k.w2, wd_or h.w3 k.w3, fun r hr => by rw [Nat.testBit_or, h.b0 r hr, k.b0 r hr], fun r hr => by rw [Nat.testBit_or, h.b1 r hr, k.b1 r hr],
    fun r hr => by rw [Nat.testBit_or, h.b2 r hr, k.b2 r hr], fun r hr => by rw [Nat.testBit_or, h.b3 r hr, k.b3 r hr]⟩

set_option maxHeartbeats 1000000 in
theorem turned_any (v : Value) (f : Nat → Bool) (w : World) (hv : BRep v f) :
    Calls Try.prog 44 #[v] w fun e w' => ∃ u, e = .returned u ∧ BRep u (fun c => !f c) ∧ Below w.heap.size w w' := by
  obtain ⟨a0, a1, a2, a3, rfl, hs⟩ := hv
  have Hs := Lib.hid hs
  clear hs
  unfold setV
  go_enter Try.func44, Try.ntmps44
  go_wp2
  go_rounds 5
  go_returns
  refine ⟨_, rfl, ⟨_, _, _, _, ?_, turned_set Hs.out⟩, ?_⟩
  · rw [xor_max _ Hs.out.w0, xor_max _ Hs.out.w1, xor_max _ Hs.out.w2, xor_max _ Hs.out.w3]; rfl
  go_grown

set_option maxHeartbeats 1000000 in
theorem with_any (v u : Value) (f g : Nat → Bool) (w : World) (hv : BRep v f) (hu : BRep u g) :
    Calls Try.prog 53 #[v, u] w fun e w' => ∃ x, e = .returned x ∧ BRep x (fun c => f c || g c) ∧ Below w.heap.size w w' := by
  obtain ⟨a0, a1, a2, a3, rfl, hs⟩ := hv
  have Hs := Lib.hid hs
  clear hs
  obtain ⟨b0, b1, b2, b3, rfl, hs⟩ := hu
  have Hu := Lib.hid hs
  clear hs
  unfold setV
  go_enter Try.func53, Try.ntmps53
  go_wp2
  refine wp_loop_rounds 5 ?_
  rw [rounds_succ]
  go_wp2
  go_region
  go_wp2
  rw [rounds_succ]
  go_wp2
  go_region
  go_wp2
  rw [rounds_succ]
  go_wp2
  go_region
  go_wp2
  rw [rounds_succ]
  go_wp2
  go_region
  go_wp2
  rw [rounds_succ]
  go_wp2
  go_returns
  refine ⟨_, rfl, ⟨_, _, _, _, ?_, with_set Hs.out Hu.out⟩, ?_⟩
  · rw [or_or _ _ Hs.out.w0 Hu.out.w0, or_or _ _ Hs.out.w1 Hu.out.w1, or_or _ _ Hs.out.w2 Hu.out.w2, or_or _ _ Hs.out.w3 Hu.out.w3]; rfl
  go_grown

def spanF (a k : Nat) : Nat → Bool := fun c => decide (a ≤ c) && decide (c < k)
theorem spanF_none (a : Nat) : spanF a a = fun _ => false := by
  funext c; simp only [spanF]; rw [Bool.eq_iff_iff]; simp
theorem spanF_also (a k : Nat) (h : a ≤ k) : also (spanF a k) k = spanF a (k + 1) := by
  funext c; simp only [spanF, also]; rw [Bool.eq_iff_iff]; simp; omega
theorem isSet_none : IsSet 0 0 0 0 (fun _ => false) := ⟨by unfold Wd; omega, by unfold Wd; omega, by unfold Wd; omega, by unfold Wd; omega, fun r _ => by simp, fun r _ => by simp, fun r _ => by simp, fun r _ => by simp⟩

theorem SetAt.mod {B : Nat → Prop} {w w' : World} {b : Nat} {f : Nat → Bool} (h : SetAt w b f) (m : Mod B w w') (hB : ¬ B b) : SetAt w' b f := by
  obtain ⟨a0, a1, a2, a3, hb, hs⟩ := h
  exact ⟨a0, a1, a2, a3, hb.mod m hB, hs⟩

set_option maxHeartbeats 1000000 in
theorem span_any (a b : Nat) (w : World) (ha : a < 256) (hb : b < 256) :
    Calls Try.prog 45 #[.int .u8 a, .int .u8 b] w fun e w' => ∃ u, e = .returned u ∧ BRep u (fun c => decide (a ≤ c) && decide (c ≤ b)) ∧ Below w.heap.size w w' := by
  go_enter Try.func45, Try.ntmps45
  go_wp2
  go_loopw [6] (fun i wr => ∃ k : Nat, i = .int .i64 k ∧ a ≤ k ∧ (k ≤ a ∨ k ≤ b + 1) ∧ SetAt wr (w.heap.size + 1) (spanF a k) ∧ Below w.heap.size w wr ∧ (∃ x0 x1 x2 x3, Blk wr w.heap.size [x0, x1, x2, x3] 68) ∧ w.heap.size + 1 < wr.heap.size) (fun i _ => 256 - (intOf i).toNat)
  case atStart =>
    refine ⟨a, rfl, Nat.le_refl _, .inl (Nat.le_refl _), ?_, ?_, ?_, ?_⟩
    · rw [spanF_none]
      refine ⟨0, 0, 0, 0, ?_, isSet_none⟩
      have := Blk.new (w.alloc (.cells #[.int .u64 0, .int .u64 0, .int .u64 0, .int .u64 0] 68)) [.int .u64 0, .int .u64 0, .int .u64 0, .int .u64 0] 68
      rw [World.size_alloc] at this
      exact this
    · go_grown
    · exact ⟨_, _, _, _, (Blk.new w [.int .u64 0, .int .u64 0, .int .u64 0, .int .u64 0] 68).alloc _⟩
    · simp
  case round =>
    obtain ⟨k, rfl, hak, hkb, hset, hbel, ⟨x0, x1, x2, x3, hblk⟩, hsz⟩ := hrel
    by_cases hlt : k ≤ b
    · have Hset := Lib.hid hset
      have Hbel := Lib.hid hbel
      have Hblk := Lib.hid hblk
      clear hset hbel hblk
      go_wp2_with (go_at_call 51; refine (bput_any _ _ _ _ Hset.out (by omega)).mono ?_; rintro e w' ⟨rfl, hs', hm'⟩)
      have Hs' := Lib.hid hs'
      have Hm' := Lib.hid hm'
      clear hs' hm'
      go_wp2
      go_roundw
      case rel =>
        refine ⟨k + 1, by go_num, by omega, by omega, ?_, ?_, ?_, ?_⟩
        · rw [← spanF_also _ _ hak]; exact Hs'.out
        · exact Hbel.out.trans (Hm'.out.below (by omega) (fun i hi => by omega))
        · exact ⟨_, _, _, _, Hblk.out.mod Hm'.out (by omega)⟩
        · exact Nat.lt_of_lt_of_le hsz Hm'.out.size
      case measure => simp [intOf]; omega
    · obtain ⟨a0, a1, a2, a3, hb2, hs2⟩ := hset
      have c0 := hb2.cell 0 rfl
      have c1 := hb2.cell 1 rfl
      have c2 := hb2.cell 2 rfl
      have c3 := hb2.cell 3 rfl
      have d0 := hblk.cell 0 rfl
      have d1 := hblk.cell 1 rfl
      have d2 := hblk.cell 2 rfl
      have d3 := hblk.cell 3 rfl
      have f0 := hblk.free 0
      have f1 := hblk.free 1
      have f2 := hblk.free 2
      have f3 := hblk.free 3
      have Hbel := Lib.hid hbel
      have Hs2 := Lib.hid hs2
      have Hblk := Lib.hid hblk
      clear hb2 hblk hbel hs2
      go_wp2
      have hfin := ((((Hblk.out.set 0 (.int .u64 a0)).set 1 (.int .u64 a1)).set 2 (.int .u64 a2)).set 3 (.int .u64 a3))
      refine bodyPost_ret (results_cell_row rfl _ _ w.heap.size 68 _ _ _ rfl hfin Try.underlying68 rfl (by kernel_rfl)) rfl ?_
      refine ⟨_, rfl, ⟨a0, a1, a2, a3, rfl, ?_⟩, ?_⟩
      · have e : spanF a k = fun c => decide (a ≤ c) && decide (c ≤ b) := by
          funext c; simp only [spanF]; rw [Bool.eq_iff_iff]; simp; omega
        rw [← e]; exact Hs2.out
      · exact (((Hbel.out.setCell (Nat.le_refl _) _).setCell (Nat.le_refl _) _).setCell (Nat.le_refl _) _).setCell (Nat.le_refl _) _

end Go.Proofs.Ytnbghiaggapoiaa
