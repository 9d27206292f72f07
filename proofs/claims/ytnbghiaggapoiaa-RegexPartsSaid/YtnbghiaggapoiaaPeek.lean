/- Package regex, the parser: fail, peek, is, take, member. -/
import Derived.Test.YtnbghiaggapoiaaParser
import Derived.Test.YtnbghiaggapoiaaShelf
namespace Go.Proofs.Ytnbghiaggapoiaa
set_option linter.unusedSimpArgs false
set_option linter.unusedVariables false
open Go.RowKit Go.Proofs
open Rx (NS Got)

/-- The panic that tells an error, and where. -/
def badE (i c : Nat) : PanicEntry := { v := .iface 43 (.agg #[.int .i64 (i : Int), .int .i64 (c : Int)]), recovered := false }

/-- A call that only reads ends as a step comes to. -/
def EndsQ {α : Type} (g : Got α) (f : α → Value) (e : Ending) : Prop := match g with
  | .ok a => e = .returned (f a)
  | .bad i c => e = .panicked [badE i c]
theorem EndsQ.ok {α : Type} {g : Got α} {f : α → Value} {e : Ending} {a : α} (h : EndsQ g f e) (hg : g = .ok a) : e = .returned (f a) := by subst hg; exact h
theorem EndsQ.bad {α : Type} {g : Got α} {f : α → Value} {e : Ending} {i c : Nat} (h : EndsQ g f e) (hg : g = .bad i c) : e = .panicked [badE i c] := by subst hg; exact h
theorem EndsQ.mk_ok {α : Type} {g : Got α} {f : α → Value} {e : Ending} {a : α} (hg : g = .ok a) (h : e = .returned (f a)) : EndsQ g f e := by subst hg; exact h
theorem EndsQ.mk_bad {α : Type} {g : Got α} {f : α → Value} {e : Ending} {i c : Nat} (hg : g = .bad i c) (h : e = .panicked [badE i c]) : EndsQ g f e := by subst hg; exact h

theorem fail_any (p : Value) (i c : Nat) (w : World) : Calls Try.prog 20 #[p, .int .i64 (i : Int), .int .i64 (c : Int)] w fun e w' => e = .panicked [badE i c] ∧ w' = w := by
  go_enter Try.func20, Try.ntmps20
  go_wp2
  exact ⟨rfl, rfl, rfl⟩

/-- The text of a parser as bytes. -/
abbrev tx (s : ByteArray) : Rx.Text := s.data.toList

theorem bt_get (s : ByteArray) (i : Nat) (h : i < s.size) : Rx.bt (tx s) i = s[i].toNat := by
  unfold Rx.bt
  have h' : i < s.data.toList.length := by simpa using h
  rw [List.getD_eq_getElem?_getD, List.getElem?_eq_getElem h']
  rfl

set_option maxHeartbeats 400000 in
theorem peek_any (b : Nat) (s : ByteArray) (i : Nat) (w : World) (hs : s.size ≤ 1000)
    (c0 : w.cell? ⟨b, 0, none⟩ = some (.string s)) (c1 : w.cell? ⟨b, 1, none⟩ = some (.int .i64 i)) :
    Calls Try.prog 39 #[.pointer (some ⟨b, 0, none⟩)] w fun e w' => EndsQ (Rx.peek (tx s) i) (fun o => .tuple #[.int .u8 ((o.getD 0 : Nat) : Int), .bool o.isSome]) e ∧ ∃ n, w' = w.drewN n := by
  by_cases hlt : s.size ≤ i
  · have hpk : Rx.peek (tx s) i = .ok none := by unfold Rx.peek; rw [if_pos (by simpa using hlt)]
    have Hpk := Lib.hid hpk
    clear hpk
    have hd : decide ((s.size : Int) ≤ i) = true := by simp; omega
    go_enter Try.func39, Try.ntmps39
    go_wp2
    go_quiet (fail)
    go_wp2
    go_ret2
    exact ⟨EndsQ.mk_ok Hpk.out rfl, _, rfl⟩
  · have hlt' : i < s.size := by omega
    have hd : decide ((s.size : Int) ≤ i) = false := by simp; omega
    have hbt := Lib.hid (bt_get s i hlt')
    by_cases hr : s[i].toNat < 32 ∨ 126 < s[i].toNat
    · have hpk : Rx.peek (tx s) i = .bad i 2 := by unfold Rx.peek; rw [if_neg (by simpa using hlt), if_pos (by rw [hbt.out]; exact hr)]
      have Hpk := Lib.hid hpk
      have Hr := Lib.hid hr
      clear hpk hr
      go_enter Try.func39, Try.ntmps39
      go_wp2
      go_quiet (fail)
      go_wp2
      go_quiet (fail)
      go_wp2_with (go_at_call 20; refine (fail_any _ _ 2 _).mono ?_; rintro e w' ⟨rfl, rfl⟩)
      all_goals first
        | exact ⟨rfl, EndsQ.mk_bad Hpk.out rfl, _, rfl⟩
        | (exfalso; have := Hr.out; omega)
    · have hpk : Rx.peek (tx s) i = .ok (some s[i].toNat) := by unfold Rx.peek; rw [if_neg (by simpa using hlt), if_neg (by rw [hbt.out]; exact hr), hbt.out]
      have Hpk := Lib.hid hpk
      have hr1 : (32 : Int) ≤ s[i].toNat := by omega
      have hr2 : (s[i].toNat : Int) ≤ 126 := by omega
      clear hpk hr
      go_enter Try.func39, Try.ntmps39
      go_wp2
      go_quiet (fail)
      go_wp2
      go_quiet (fail)
      go_wp2
      go_ret2
      exact ⟨EndsQ.mk_ok Hpk.out rfl, _, rfl⟩

theorem index_contains (l : List UInt8) (c : Nat) (hc : c < 256) : (0 ≤ Lib.indexByte l (c : Int).toNat.toUInt8) ↔ (l.map fun b => b.toNat).contains c = true := by
  rw [Int.toNat_natCast]
  induction l with
  | nil => simp [Lib.indexByte]
  | cons b l ih =>
    have hb : (b == c.toUInt8) = (b.toNat == c) := by
      rw [Bool.eq_iff_iff, beq_iff_eq, beq_iff_eq]
      constructor
      · rintro rfl; simp; omega
      · intro h; rw [← h]; simp
    have hge := Lib.indexByte_ge l c.toUInt8
    simp only [Lib.indexByte, List.map_cons, List.contains_cons]
    rw [hb]
    by_cases h : b.toNat = c
    · simp [h]
    · have h2 : (b.toNat == c) = false := by simpa using h
      have h3 : (c == b.toNat) = false := by simpa using fun e => h e.symm
      rw [h2, h3]
      simp only [Bool.false_or, if_false, Bool.false_eq_true]
      rw [← ih]
      by_cases h4 : Lib.indexByte l c.toUInt8 = -1
      · simp [h4]
      · have h5 : (Lib.indexByte l c.toUInt8 == -1) = false := by simpa using h4
        rw [h5]
        simp only [if_false, Bool.false_eq_true]
        omega

/-- A list of bytes as numbers. -/
def nums (l : ByteArray) : List Nat := l.data.toList.map fun b => b.toNat

theorem isOne_none {t : Rx.Text} {l : List Nat} {i : Nat} (h : Rx.peek t i = .ok none) : Rx.isOne t l i = .ok false := by simp [Rx.isOne, h, Got.bind]
theorem isOne_some {t : Rx.Text} {l : List Nat} {i c : Nat} (h : Rx.peek t i = .ok (some c)) : Rx.isOne t l i = .ok (l.contains c) := by simp [Rx.isOne, h, Got.bind]
theorem isOne_bad {t : Rx.Text} {l : List Nat} {i j e : Nat} (h : Rx.peek t i = .bad j e) : Rx.isOne t l i = .bad j e := by simp [Rx.isOne, h, Got.bind]
theorem peek_lt {t : Rx.Text} {i c : Nat} (h : Rx.peek t i = .ok (some c)) : i < t.length ∧ c < 127 ∧ 32 ≤ c ∧ Rx.bt t i = c := by
  unfold Rx.peek at h
  split at h
  · cases h
  · split at h
    · cases h
    · cases h; omega

set_option maxHeartbeats 400000 in
theorem is_any (b : Nat) (s l : ByteArray) (i : Nat) (w : World) (hs : s.size ≤ 1000)
    (c0 : w.cell? ⟨b, 0, none⟩ = some (.string s)) (c1 : w.cell? ⟨b, 1, none⟩ = some (.int .i64 i)) :
    Calls Try.prog 32 #[.pointer (some ⟨b, 0, none⟩), .string l] w fun e w' => EndsQ (Rx.isOne (tx s) (nums l) i) (fun x => .bool x) e ∧ ∃ n, w' = w.drewN n := by
  cases hpk : Rx.peek (tx s) i with
  | bad j c =>
    have Hpk := Lib.hid hpk
    clear hpk
    go_enter Try.func32, Try.ntmps32
    go_wp2_with (go_at_call 39; refine (peek_any _ _ _ _ hs c0 c1).mono ?_; rintro e w' ⟨he, n, rfl⟩; obtain rfl := he.bad Hpk.out; clear he)
    exact ⟨rfl, EndsQ.mk_bad (isOne_bad Hpk.out) rfl, _, rfl⟩
  | ok o =>
    cases o with
    | none =>
      have Hpk := Lib.hid hpk
      clear hpk
      go_enter Try.func32, Try.ntmps32
      go_wp2_with (go_at_call 39; refine (peek_any _ _ _ _ hs c0 c1).mono ?_; rintro e w' ⟨he, n, rfl⟩; obtain rfl := he.ok Hpk.out; clear he; simp only [Option.getD_none, Option.isSome_none])
      go_ret
      exact ⟨EndsQ.mk_ok (isOne_none Hpk.out) rfl, _, rfl⟩
    | some c =>
      have hc := peek_lt hpk
      have hc1 : (c : Int) < 256 := by omega
      have Hpk := Lib.hid hpk
      have hc2 : c < 256 := by omega
      clear hpk hc
      go_enter Try.func32, Try.ntmps32
      go_wp2_with (first
        | (go_at_call 39; refine (peek_any _ _ _ _ hs c0 c1).mono ?_; rintro e w' ⟨he, n, rfl⟩; obtain rfl := he.ok Hpk.out; clear he; simp only [Option.getD_some, Option.isSome_some])
        | (go_at_call 27; refine (Try.strings_IndexByte _ _ _).mono ?_; rintro e w' ⟨rfl, rfl⟩))
      go_ret
      refine ⟨EndsQ.mk_ok (isOne_some Hpk.out) (ret_bool ?_), _, rfl⟩
      have := index_contains l.data.toList c hc2
      rw [Int.toNat_natCast] at this
      show decide (0 ≤ Lib.indexByte l.data.toList c.toUInt8) = (nums l).contains c
      rw [Bool.eq_iff_iff, decide_eq_true_iff]
      exact this

/-- A call that writes ends as a step comes to. -/
def EndsP {α : Type} (g : Got α) (bad : World → Prop) (ok : α → Ending → World → Prop) (e : Ending) (w' : World) : Prop := match g with
  | .ok a => ok a e w'
  | .bad i c => e = .panicked [badE i c] ∧ bad w'
theorem EndsP.ok {α : Type} {g : Got α} {B : World → Prop} {k : α → Ending → World → Prop} {e : Ending} {w' : World} {a : α} (h : EndsP g B k e w') (hg : g = .ok a) : k a e w' := by subst hg; exact h
theorem EndsP.bad {α : Type} {g : Got α} {B : World → Prop} {k : α → Ending → World → Prop} {e : Ending} {w' : World} {i c : Nat} (h : EndsP g B k e w') (hg : g = .bad i c) : e = .panicked [badE i c] ∧ B w' := by subst hg; exact h
theorem EndsP.mk_ok {α : Type} {g : Got α} {B : World → Prop} {k : α → Ending → World → Prop} {e : Ending} {w' : World} {a : α} (hg : g = .ok a) (h : k a e w') : EndsP g B k e w' := by subst hg; exact h
theorem EndsP.mk_bad {α : Type} {g : Got α} {B : World → Prop} {k : α → Ending → World → Prop} {e : Ending} {w' : World} {i c : Nat} (hg : g = .bad i c) (h : e = .panicked [badE i c]) (hb : B w') : EndsP g B k e w' := by subst hg; exact ⟨h, hb⟩

theorem PAt.drewN {w : World} {base p : Nat} {s : ByteArray} {i d : Nat} {sts : List NS} {F : List Nat} (h : PAt w base p s i d sts F) (n : Nat) : PAt (w.drewN n) base p s i d sts F :=
  h.mod ((Mod.refl (fun _ => False) w).drewN n) (fun _ _ h => h)

/-- The parser's own block is all that turns. -/
theorem PAt.turn {w w' : World} {base p : Nat} {s : ByteArray} {i d i' d' : Nat} {sts : List NS} {F : List Nat} (h : PAt w base p s i d sts F) (hk : ∀ k, k ≠ p → w'.heap[k]? = w.heap[k]?)
    (hb : ∀ sv, Blk w p [.string s, .int .i64 i, .int .i64 d, sv] 47 → Blk w' p [.string s, .int .i64 i', .int .i64 d', sv] 47) : PAt w' base p s i' d' sts F := by
  obtain ⟨sv, scs, G, hb0, hst, rfl, hp, hbase⟩ := h.ex
  exact ⟨sv, scs, G, hb sv hb0, hst.kept (fun k hk' => hk k (fun e => hp (e ▸ hk'))), rfl, hp, hbase⟩

theorem PAt.setAt {w : World} {base p : Nat} {s : ByteArray} {i d : Nat} {sts : List NS} {F : List Nat} (h : PAt w base p s i d sts F) (i' : Nat) : PAt (w.setCell ⟨p, 1, none⟩ (.int .i64 (i' : Int))) base p s i' d sts F :=
  h.turn (fun k hk => Below.heap_setCell _ _ _ _ hk) (fun _ hb => hb.set 1 _)
theorem PAt.setDeep {w : World} {base p : Nat} {s : ByteArray} {i d : Nat} {sts : List NS} {F : List Nat} (h : PAt w base p s i d sts F) (d' : Nat) : PAt (w.setCell ⟨p, 2, none⟩ (.int .i64 (d' : Int))) base p s i d' sts F :=
  h.turn (fun k hk => Below.heap_setCell _ _ _ _ hk) (fun _ hb => hb.set 2 _)
theorem PAt.mem {w : World} {base p : Nat} {s : ByteArray} {i d : Nat} {sts : List NS} {F : List Nat} (h : PAt w base p s i d sts F) : p ∈ F := by
  obtain ⟨sv, scs, G, hb0, hst, rfl, hp, hbase⟩ := h.ex; simp
theorem PAt.cells {w : World} {base p : Nat} {s : ByteArray} {i d : Nat} {sts : List NS} {F : List Nat} (h : PAt w base p s i d sts F) :
    w.cell? ⟨p, 0, none⟩ = some (.string s) ∧ w.cell? ⟨p, 1, none⟩ = some (.int .i64 i) ∧ w.cell? ⟨p, 2, none⟩ = some (.int .i64 d) ∧ w.frozen? ⟨p, 1, none⟩ = false ∧ w.frozen? ⟨p, 2, none⟩ = false := by
  obtain ⟨sv, scs, G, hb0, hst, rfl, hp, hbase⟩ := h.ex
  exact ⟨hb0.cell 0 rfl, hb0.cell 1 rfl, hb0.cell 2 rfl, hb0.free 1, hb0.free 2⟩

theorem take_ok {t : Rx.Text} {i c : Nat} (h : Rx.peek t i = .ok (some c)) : Rx.take t i = .ok c := by simp [Rx.take, h, Got.bind]
theorem take_none {t : Rx.Text} {i : Nat} (h : Rx.peek t i = .ok none) : Rx.take t i = .bad i 2 := by simp [Rx.take, h, Got.bind]
theorem take_bad {t : Rx.Text} {i j e : Nat} (h : Rx.peek t i = .bad j e) : Rx.take t i = .bad j e := by simp [Rx.take, h, Got.bind]

set_option maxHeartbeats 400000 in
theorem take_any (w : World) (base p : Nat) (s : ByteArray) (i d : Nat) (sts : List NS) (F : List Nat) (hp : PAt w base p s i d sts F) (hs : s.size ≤ 1000) :
    Calls Try.prog 42 #[.pointer (some ⟨p, 0, none⟩)] w fun e w' => EndsP (Rx.take (tx s) i) (Mod (· = p) w) (fun c e w' => e = .returned (.int .u8 (c : Int)) ∧ PAt w' base p s (i + 1) d sts F ∧ Mod (· = p) w w') e w' := by
  obtain ⟨c0, c1, c2, f1, f2⟩ := hp.cells
  have Hp := Lib.hid hp
  clear hp
  cases hpk : Rx.peek (tx s) i with
  | bad j c =>
    have Hpk := Lib.hid hpk
    clear hpk
    go_enter Try.func42, Try.ntmps42
    go_wp2_with (go_at_call 39; refine (peek_any _ _ _ _ hs c0 c1).mono ?_; rintro e w' ⟨he, n, rfl⟩; obtain rfl := he.bad Hpk.out; clear he)
    exact ⟨rfl, EndsP.mk_bad (take_bad Hpk.out) rfl ((Mod.refl _ _).drewN _)⟩
  | ok o =>
    cases o with
    | none =>
      have Hpk := Lib.hid hpk
      clear hpk
      go_enter Try.func42, Try.ntmps42
      go_wp2_with (first
        | (go_at_call 39; refine (peek_any _ _ _ _ hs c0 c1).mono ?_; rintro e w' ⟨he, n, rfl⟩; obtain rfl := he.ok Hpk.out; clear he; simp only [Option.getD_none, Option.isSome_none])
        | (go_at_call 20; refine (fail_any _ _ 2 _).mono ?_; rintro e w' ⟨rfl, rfl⟩))
      exact ⟨rfl, EndsP.mk_bad (take_none Hpk.out) rfl ((Mod.refl _ _).drewN _)⟩
    | some c =>
      have hc := peek_lt hpk
      have hil : i < 1000 := by simp at hc; omega
      have Hpk := Lib.hid hpk
      clear hpk hc
      go_enter Try.func42, Try.ntmps42
      go_wp2_with (go_at_call 39; refine (peek_any _ _ _ _ hs c0 c1).mono ?_; rintro e w' ⟨he, n, rfl⟩; obtain rfl := he.ok Hpk.out; clear he; simp only [Option.getD_some, Option.isSome_some])
      go_ret
      exact EndsP.mk_ok (take_ok Hpk.out) ⟨rfl, (Hp.out.drewN n).setAt (i + 1), ((Mod.refl (· = p) w).drewN n).setCell (p := ⟨p, 1, none⟩) (fun _ => rfl) _⟩

theorem index_yes (l : ByteArray) (c : Nat) (w : World) (hc : c < 256) (h : (nums l).contains c = true) : Calls Try.prog 27 #[.string l, .int .u8 (c : Int)] w fun e w' => (∃ k : Int, 0 ≤ k ∧ e = .returned (.int .i64 k)) ∧ w' = w :=
  (Try.strings_IndexByte l c w).mono fun _ _ ⟨he, hw⟩ => ⟨⟨_, (index_contains _ c hc).2 h, he⟩, hw⟩
theorem index_no (l : ByteArray) (c : Nat) (w : World) (hc : c < 256) (h : (nums l).contains c = false) : Calls Try.prog 27 #[.string l, .int .u8 (c : Int)] w fun e w' => (∃ k : Int, k < 0 ∧ e = .returned (.int .i64 k)) ∧ w' = w :=
  (Try.strings_IndexByte l c w).mono fun _ _ ⟨he, hw⟩ => ⟨⟨_, by
    have := index_contains l.data.toList c hc
    rw [show (l.data.toList.map fun b => b.toNat) = nums l from rfl, h] at this
    simp only [Bool.false_eq_true, iff_false, Int.not_le] at this
    exact this, he⟩, hw⟩

theorem take_lt {t : Rx.Text} {i c : Nat} (h : Rx.take t i = .ok c) : i < t.length ∧ c < 127 ∧ 32 ≤ c ∧ Rx.bt t i = c := by
  cases hp : Rx.peek t i with
  | bad j e => rw [take_bad hp] at h; cases h
  | ok o =>
    cases o with
    | none => rw [take_none hp] at h; cases h
    | some c' => rw [take_ok hp] at h; cases h; exact peek_lt hp

theorem eq_u8 (c n : Nat) (h : c = n) : (((c : Nat) : Int) == (n : Int)) = true := by subst h; simp
theorem ne_u8 (c n : Nat) (h : c ≠ n) : (((c : Nat) : Int) == (n : Int)) = false := by
  rw [beq_eq_false_iff_ne]; omega

set_option maxHeartbeats 400000 in
theorem member_any (w : World) (base p : Nat) (s : ByteArray) (i d : Nat) (sts : List NS) (F : List Nat) (hp : PAt w base p s i d sts F) (hs : s.size ≤ 1000) :
    Calls Try.prog 52 #[.pointer (some ⟨p, 0, none⟩)] w fun e w' => EndsP (Rx.member (tx s) i) (Mod (· = p) w)
      (fun x e w' => e = .returned (.tuple #[.int .u8 (x.1 : Int), .int .i64 (i : Int)]) ∧ PAt w' base p s x.2 d sts F ∧ Mod (· = p) w w') e w' := by
  obtain ⟨c0, c1, c2, f1, f2⟩ := hp.cells
  have Hp := Lib.hid hp
  clear hp c0 c2 f1 f2
  cases htk : Rx.take (tx s) i with
  | bad j c =>
    have hm : Rx.member (tx s) i = .bad j c := by simp [Rx.member, htk, Got.bind]
    have Htk := Lib.hid htk
    have Hm := Lib.hid hm
    clear htk hm
    go_enter Try.func52, Try.ntmps52
    go_wp2_with fail
    refine (take_any _ _ _ _ _ _ _ _ Hp.out hs).mono ?_
    rintro e w' he
    obtain ⟨rfl, hw⟩ := he.bad Htk.out
    exact ⟨rfl, EndsP.mk_bad Hm.out rfl hw⟩
  | ok c =>
    have hc := take_lt htk
    have hcb : c < 256 := by omega
    by_cases h92 : c = 92
    · subst h92
      cases htk2 : Rx.take (tx s) (i + 1) with
      | bad j c =>
        have hm : Rx.member (tx s) i = .bad j c := by simp [Rx.member, htk, htk2, Got.bind]
        have Htk := Lib.hid htk
        have Htk2 := Lib.hid htk2
        have Hm := Lib.hid hm
        clear htk hm hc htk2
        go_enter Try.func52, Try.ntmps52
        go_wp2_with fail
        refine (take_any _ _ _ _ _ _ _ _ Hp.out hs).mono ?_
        rintro e w1 he
        obtain ⟨rfl, hp1, hw⟩ := he.ok Htk.out
        have Hp1 := Lib.hid hp1
        have Hw := Lib.hid hw
        clear he hp1 hw
        go_wp2_with fail
        refine (take_any _ _ _ _ _ _ _ _ Hp1.out hs).mono ?_
        rintro e w' he
        obtain ⟨rfl, hw⟩ := he.bad Htk2.out
        exact ⟨rfl, EndsP.mk_bad Hm.out rfl (Hw.out.trans hw (fun _ _ h => h))⟩
      | ok c =>
        have hm : Rx.member (tx s) i = .ok (c, i + 2) := by simp [Rx.member, htk, htk2, Got.bind]
        have Htk := Lib.hid htk
        have Htk2 := Lib.hid htk2
        have Hm := Lib.hid hm
        clear htk hm hc htk2
        go_enter Try.func52, Try.ntmps52
        go_wp2_with fail
        refine (take_any _ _ _ _ _ _ _ _ Hp.out hs).mono ?_
        rintro e w1 he
        obtain ⟨rfl, hp1, hw⟩ := he.ok Htk.out
        have Hp1 := Lib.hid hp1
        have Hw := Lib.hid hw
        clear he hp1 hw
        go_wp2_with fail
        refine (take_any _ _ _ _ _ _ _ _ Hp1.out hs).mono ?_
        rintro e w' he
        obtain ⟨rfl, hp2, hw2⟩ := he.ok Htk2.out
        have Hp2 := Lib.hid hp2
        have Hw2 := Lib.hid hw2
        clear he hp2 hw2
        go_wp2_with fail
        go_ret2
        exact EndsP.mk_ok Hm.out ⟨rfl, Hp2.out, Hw.out.trans Hw2.out (fun _ _ h => h)⟩
    · have hb92 := ne_u8 c 92 h92
      cases hk : Rx.kept.contains c with
      | true =>
        have hm : Rx.member (tx s) i = .bad i 2 := by simp only [Rx.member, htk, Got.bind, if_neg h92, hk, if_true]
        have Htk := Lib.hid htk
        have Hm := Lib.hid hm
        have Hk := Lib.hid hk
        clear htk hm hc hk
        go_enter Try.func52, Try.ntmps52
        go_wp2_with fail
        refine (take_any _ _ _ _ _ _ _ _ Hp.out hs).mono ?_
        rintro e w1 he
        obtain ⟨rfl, hp1, hw⟩ := he.ok Htk.out
        have Hp1 := Lib.hid hp1
        have Hw := Lib.hid hw
        clear he hp1 hw
        go_wp2_with fail
        refine (index_yes ⟨#[93, 92, 45, 94]⟩ c _ hcb Hk.out).mono ?_
        rintro e w' ⟨⟨k, hk0, rfl⟩, rfl⟩
        go_wp2_with fail
        refine (fail_any _ _ 2 _).mono ?_
        rintro e w' ⟨rfl, rfl⟩
        exact ⟨rfl, EndsP.mk_bad Hm.out rfl Hw.out⟩
      | false =>
        have hm : Rx.member (tx s) i = .ok (c, i + 1) := by simp only [Rx.member, htk, Got.bind, if_neg h92, hk, Bool.false_eq_true, if_false]
        have Htk := Lib.hid htk
        have Hm := Lib.hid hm
        have Hk := Lib.hid hk
        clear htk hm hc hk
        go_enter Try.func52, Try.ntmps52
        go_wp2_with fail
        refine (take_any _ _ _ _ _ _ _ _ Hp.out hs).mono ?_
        rintro e w1 he
        obtain ⟨rfl, hp1, hw⟩ := he.ok Htk.out
        have Hp1 := Lib.hid hp1
        have Hw := Lib.hid hw
        clear he hp1 hw
        go_wp2_with fail
        refine (index_no ⟨#[93, 92, 45, 94]⟩ c _ hcb Hk.out).mono ?_
        rintro e w' ⟨⟨k, hk0, rfl⟩, rfl⟩
        go_wp2_with fail
        go_ret2
        exact EndsP.mk_ok Hm.out ⟨rfl, Hp1.out, Hw.out⟩

end Go.Proofs.Ytnbghiaggapoiaa
