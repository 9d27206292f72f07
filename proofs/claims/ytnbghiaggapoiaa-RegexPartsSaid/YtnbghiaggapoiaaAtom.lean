/- Package regex, the parser: one, class, repeated. -/
import Derived.Test.YtnbghiaggapoiaaPeek
import Derived.Deep.DeepCutAuto
namespace Go.Proofs.Ytnbghiaggapoiaa
set_option linter.unusedSimpArgs false
set_option linter.unusedVariables false
open Go.RowKit Go.Proofs
open Rx (NS Got)

def partV (f l : Nat) : Value := .agg #[.int .i64 (f : Int), .int .i64 (l : Int)]

/-- Of the old blocks only the parser's turned; its blocks behind are its own ahead, or new. -/
structure Grew (F : List Nat) (w w' : World) (F' : List Nat) : Prop where
  mod : Mod (· ∈ F) w w'
  sub : ∀ k ∈ F', k ∈ F ∨ w.heap.size ≤ k
theorem Grew.refl (F : List Nat) (w : World) : Grew F w w F := ⟨Mod.refl _ _, fun _ h => .inl h⟩
theorem Grew.trans {F F' F'' : List Nat} {a b c : World} (h : Grew F a b F') (k : Grew F' b c F'') : Grew F a c F'' :=
  ⟨h.mod.trans k.mod (fun i hi hm => (h.sub i hm).resolve_right (by omega)), fun i hi => by
    rcases k.sub i hi with h1 | h1
    · exact h.sub i h1
    · exact .inr (Nat.le_trans h.mod.size h1)⟩
theorem Grew.of_mod {F : List Nat} {a b : World} {B : Nat → Prop} (h : Mod B a b) (hB : ∀ k, B k → k ∈ F) : Grew F a b F := ⟨h.mono (fun i _ hb => hB i hb), fun _ h => .inl h⟩
theorem Grew.of_new {F : List Nat} {a b : World} (h : Below a.heap.size a b) : Grew F a b F := ⟨Mod.of_new h, fun _ h => .inl h⟩
/-- What is not the parser's lies on. -/
theorem Grew.keep {F F' : List Nat} {a b : World} (h : Grew F a b F') {k : Nat} (hk : k < a.heap.size) (hn : k ∉ F) : b.heap[k]? = a.heap[k]? := h.mod.block k hk hn
theorem Grew.out {F F' : List Nat} {a b : World} (h : Grew F a b F') {k : Nat} (hk : k < a.heap.size) (hn : k ∉ F) : k ∉ F' := fun hm => by
  rcases h.sub k hm with h1 | h1
  · exact hn h1
  · omega

def sc0 : SC := ⟨false, 0, 0, 0, 0, .slice none 0 0⟩
theorem sc0_rep (w : World) (base : Nat) : SRep w base sc0 Rx.ns0 := ⟨rfl, isSet_none, World.ownsRow_nil _ _ _ _⟩

/-- A state without anything. -/
theorem state_zero (w : World) (base p : Nat) (s : ByteArray) (i d : Nat) (sts : List NS) (F : List Nat) (hp : PAt w base p s i d sts F) (hlen : sts.length ≤ 1000000) :
    Calls Try.prog 29 #[.pointer (some ⟨p, 0, none⟩), .agg #[.bool false, .int .u64 0, .int .u64 0, .int .u64 0, .int .u64 0, .slice none 0 0]] w fun e w' => e = .returned (.int .i64 (sts.length : Int)) ∧
      ∃ F', PAt w' base p s i d (sts ++ [Rx.ns0]) F' ∧ Grew F w w' F' :=
  (state_any w base p s i d sts F sc0 Rx.ns0 hp (sc0_rep w base) (fun k hk => by simp [sc0, Value.ownBlock] at hk) hlen).mono fun e w' ⟨he, F', h1, h2, h3⟩ =>
    ⟨he, F', h1, h2, fun k hk => by
      rcases h3 k hk with h | h | h
      · exact .inl h
      · exact .inr h
      · simp [sc0, Value.ownBlock] at h⟩

theorem PAt.base {w : World} {base p : Nat} {s : ByteArray} {i d : Nat} {sts : List NS} {F : List Nat} (h : PAt w base p s i d sts F) : base ≤ w.heap.size := by
  have := h.lt p h.mem; omega

theorem PAt.new {w w' : World} {base p : Nat} {s : ByteArray} {i d : Nat} {sts : List NS} {F : List Nat} (h : PAt w base p s i d sts F) (hb : Below w.heap.size w w') : PAt w' base p s i d sts F :=
  h.below hb (fun k hk => (h.lt k hk).2)

theorem PAt.setOther {w : World} {base p : Nat} {s : ByteArray} {i d : Nat} {sts : List NS} {F : List Nat} (h : PAt w base p s i d sts F) {b o : Nat} (hn : b ∉ F) (v : Value) : PAt (w.setCell ⟨b, o, none⟩ v) base p s i d sts F :=
  h.kept (fun k hk => Below.heap_setCell _ _ _ _ (fun e => hn (by subst e; exact hk)))

theorem own_new (w : World) (base : Nat) (e : TypeId) (v : Value) (hb : base ≤ w.heap.size) (hm : 1 ≤ maxLen) : (w.alloc (.cells #[v] e)).ownsRow base e 1 (.slice (some ⟨w.heap.size, 0, none⟩) 1 1) 1 [v] :=
  ⟨rfl, .inr ⟨_, 1, #[v], rfl, hb, heap_alloc_new _ _, Nat.le_refl _, hm, rfl, rfl⟩⟩

set_option maxHeartbeats 1000000 in
theorem one_any (w : World) (base p : Nat) (s : ByteArray) (i d : Nat) (sts : List NS) (F : List Nat) (v : Value) (f : Nat → Bool) (hp : PAt w base p s i d sts F) (hv : BRep v f) (hlen : sts.length ≤ 900000) :
    Calls Try.prog 43 #[.pointer (some ⟨p, 0, none⟩), v] w fun e w' => e = .returned (partV (sts.length + 1) sts.length) ∧
      ∃ F', PAt w' base p s i d (sts ++ [Rx.ns0, ⟨true, f, [sts.length]⟩]) F' ∧ Grew F w w' F' := by
  obtain ⟨a0, a1, a2, a3, rfl, hset⟩ := hv
  have Hset := Lib.hid hset
  have Hp := Lib.hid hp
  clear hset hp
  unfold setV
  have hpl := Hp.out.lt p Hp.out.mem
  go_enter Try.func43, Try.ntmps43
  go_wp2_with fail
  have hbel : Below w.heap.size w ((w.alloc (.cells #[.int .u64 a0, .int .u64 a1, .int .u64 a2, .int .u64 a3] 68)).alloc (.cells #[.int .i64 0, .int .i64 0] 49)) := by go_grown
  have hb0 : Blk ((w.alloc (.cells #[.int .u64 a0, .int .u64 a1, .int .u64 a2, .int .u64 a3] 68)).alloc (.cells #[.int .i64 0, .int .i64 0] 49)) w.heap.size [.int .u64 a0, .int .u64 a1, .int .u64 a2, .int .u64 a3] 68 := (Blk.new w _ _).alloc _
  have hb1 : Blk ((w.alloc (.cells #[.int .u64 a0, .int .u64 a1, .int .u64 a2, .int .u64 a3] 68)).alloc (.cells #[.int .i64 0, .int .i64 0] 49)) (w.heap.size + 1) [.int .i64 0, .int .i64 0] 49 := heap_alloc_at (by simp)
  generalize ((w.alloc (.cells #[.int .u64 a0, .int .u64 a1, .int .u64 a2, .int .u64 a3] 68)).alloc (.cells #[.int .i64 0, .int .i64 0] 49)) = w0 at *
  have hnF : ∀ k, w.heap.size ≤ k → k ∉ F := fun k hk hm => by have := (Hp.out.lt k hm).2; omega
  have HnF := Lib.hid hnF
  have Hp0 := Lib.hid (Hp.out.new hbel)
  have Hbel := Lib.hid hbel
  clear hbel hnF
  refine (state_zero _ _ _ _ _ _ _ _ Hp0.out (by omega)).mono ?_
  rintro e w1 ⟨rfl, F1, hp1, hg1⟩
  have hb0' := hb0.kept (hg1.keep hb0.lt (HnF.out _ (by omega)))
  have hb1' := hb1.kept (hg1.keep hb1.lt (HnF.out _ (by omega)))
  have c0 := hb0'.cell 0 rfl
  have c1 := hb0'.cell 1 rfl
  have c2 := hb0'.cell 2 rfl
  have c3 := hb0'.cell 3 rfl
  have hl1 := hb1'.lt
  have hn0 := hg1.out hb0.lt (HnF.out _ (by omega))
  have hn1 := hg1.out hb1.lt (HnF.out _ (by omega))
  have Hb1 := Lib.hid hb1'
  have Hp1 := Lib.hid hp1
  have Hg1 := Lib.hid hg1
  clear hb0 hb1 hb0' hb1' hp1 hg1
  go_wp2_with fail
  have hp1a : PAt (w1.alloc (.cells #[.int .i64 (sts.length : Int)] 3)) base p s i d (sts ++ [Rx.ns0]) F1 := Hp1.out.new ((Below.refl _ _).alloc (Nat.le_refl _) _)
  have hb1a := Hb1.out.alloc (.cells #[.int .i64 (sts.length : Int)] 3)
  have hsz : (w1.alloc (.cells #[.int .i64 (sts.length : Int)] 3)).heap.size = w1.heap.size + 1 := by simp
  have hsr : SRep (w1.alloc (.cells #[.int .i64 (sts.length : Int)] 3)) base ⟨true, a0, a1, a2, a3, .slice (some ⟨w1.heap.size, 0, none⟩) 1 1⟩ ⟨true, f, [sts.length]⟩ :=
    ⟨rfl, Hset.out, own_new _ _ _ _ (by have := Hp1.out.base; omega) (by unfold maxLen; omega)⟩
  have hg1a : Grew F1 w1 (w1.alloc (.cells #[.int .i64 (sts.length : Int)] 3)) F1 := .of_new ((Below.refl _ _).alloc (Nat.le_refl _) _)
  generalize w1.alloc (.cells #[.int .i64 (sts.length : Int)] 3) = w1a at *
  refine (state_any _ _ _ _ _ _ _ _ ⟨true, a0, a1, a2, a3, .slice (some ⟨w1.heap.size, 0, none⟩) 1 1⟩ _ hp1a hsr (fun k hk hm => ?_) (by simp; omega)).mono ?_
  · simp [Value.ownBlock] at hk; subst hk
    have := (Hp1.out.lt _ hm).2; omega
  rintro e w2 ⟨rfl, F2, hp2, hm2, hs2⟩
  have hk2 : ∀ k, k < w1a.heap.size → k ∉ F1 → w2.heap[k]? = w1a.heap[k]? := fun k hk hn => hm2.block k hk hn
  have hb2 := hb1a.kept (hk2 _ hb1a.lt hn1)
  have hn2 : w.heap.size + 1 ∉ F2 := fun hm => by
    rcases hs2 _ hm with h | h | h
    · exact hn1 h
    · omega
    · simp [Value.ownBlock] at h; omega
  have d0 := hb2.cell 0 rfl
  have d1 := hb2.cell 1 rfl
  have f0 := hb2.free 0
  have f1 := hb2.free 1
  have Hb2 := Lib.hid hb2
  have Hp2 := Lib.hid hp2
  have hg : Grew F w w2 F2 := by
    refine (Grew.of_new Hbel.out).trans (Hg1.out.trans ⟨hg1a.mod.trans hm2 (fun _ _ h => h), fun k hk => ?_⟩)
    rcases hs2 k hk with h | h | h
    · exact .inl h
    · exact .inr (by omega)
    · simp [Value.ownBlock] at h; subst h
      exact .inr (Nat.le_refl _)
  have Hg := Lib.hid hg
  have Hn2 := Lib.hid hn2
  have e1 : ((sts ++ [Rx.ns0]).length : Int) = (sts.length : Int) + 1 := by simp
  rw [e1]
  clear hp1a hb1a hsz hsr hg1a hp2 hm2 hs2 hk2 hb2 hg e1 hn0 hn1 hn2 c0 c1 c2 c3
  go_wp2_with fail
  have hfin := (Hb2.out.set 0 (.int .i64 ((sts.length : Int) + 1))).set 1 (.int .i64 (sts.length : Int))
  refine bodyPost_ret (results_cell_row rfl _ _ (w.heap.size + 1) 49 _ _ _ rfl hfin Try.underlying49 rfl (by kernel_rfl)) rfl ?_
  have hp3 := (Hp2.out.setOther (o := 0) Hn2.out (.int .i64 ((sts.length : Int) + 1))).setOther (o := 1) Hn2.out (.int .i64 (sts.length : Int))
  rw [List.append_assoc] at hp3
  exact ⟨rfl, F2, hp3, ⟨(Hg.out.mod.setCell (p := ⟨w.heap.size + 1, 0, none⟩) (fun h => absurd h (by simp)) _).setCell (p := ⟨w.heap.size + 1, 1, none⟩) (fun h => absurd h (by simp)) _, Hg.out.sub⟩⟩

theorem SetAt.lt {w : World} {b : Nat} {f : Nat → Bool} (h : SetAt w b f) : b < w.heap.size := by
  obtain ⟨a0, a1, a2, a3, hb, _⟩ := h; exact hb.lt

/-- How far the parser is, read off the world: for a loop's measure. -/
def atOf (w : World) (p : Nat) : Nat := match w.cell? ⟨p, 1, none⟩ with | some v => (intOf v).toNat | none => 0
theorem PAt.atOf {w : World} {base p : Nat} {s : ByteArray} {i d : Nat} {sts : List NS} {F : List Nat} (h : PAt w base p s i d sts F) : atOf w p = i := by
  simp [Go.Proofs.Ytnbghiaggapoiaa.atOf, h.cells.2.1, intOf]

/-- What is left of brackets behind a byte: their end, or more. -/
def tailM (t : Rx.Text) (m : Nat) (f : Rx.BSet) (i : Nat) : Got (Rx.BSet × Nat) :=
  (Rx.isOne t [93] i).bind fun e => if e then .ok (f, i + 1) else Rx.members t m f i

theorem members_succ (t : Rx.Text) (n : Nat) (f : Rx.BSet) (i : Nat) : Rx.members t (n + 1) f i =
    (Rx.member t i).bind fun x => (Rx.isOne t [45] x.2).bind fun dash =>
    (if dash then (Rx.member t (x.2 + 1)).bind fun y => if y.1 < x.1 then .bad (x.2 + 1) 2 else .ok (y.1, y.2) else .ok x).bind fun y => tailM t n (Rx.orSet f (Rx.between x.1 y.1)) y.2 := rfl

theorem member_lt {t : Rx.Text} {i : Nat} {x : Nat × Nat} (h : Rx.member t i = .ok x) : i < x.2 ∧ x.2 ≤ t.length ∧ x.1 < 127 := by
  unfold Rx.member at h
  cases h1 : Rx.take t i with
  | bad j e => simp [h1, Got.bind] at h
  | ok c =>
    have hc := take_lt h1
    simp only [h1, Got.bind] at h
    by_cases h92 : c = 92
    · rw [if_pos h92] at h
      cases h2 : Rx.take t (i + 1) with
      | bad j e => simp [h2] at h
      | ok c' => have hc' := take_lt h2; simp [h2] at h; subst h; simp; omega
    · rw [if_neg h92] at h
      split at h
      · cases h
      · cases h; simp; omega

theorem isOne_lt {t : Rx.Text} {l : List Nat} {i : Nat} (h : Rx.isOne t l i = .ok true) : i < t.length := by
  cases hp : Rx.peek t i with
  | bad j e => rw [isOne_bad hp] at h; cases h
  | ok o =>
    cases o with
    | none => rw [isOne_none hp] at h; cases h
    | some c => exact (peek_lt hp).1

/-- A set of bytes stored into a block that is none of the parser's, and new. -/
theorem PAt.store4 {w : World} {base p : Nat} {s : ByteArray} {i d : Nat} {sts : List NS} {F : List Nat} (h : PAt w base p s i d sts F) {b : Nat} (hn : b ∉ F) (v0 v1 v2 v3 : Value) :
    PAt ((((w.setCell ⟨b, 0, none⟩ v0).setCell ⟨b, 1, none⟩ v1).setCell ⟨b, 2, none⟩ v2).setCell ⟨b, 3, none⟩ v3) base p s i d sts F :=
  (((h.setOther hn v0).setOther hn v1).setOther hn v2).setOther hn v3
theorem Mod.store4 {B : Nat → Prop} {a w : World} (h : Mod B a w) {b : Nat} (hb : a.heap.size ≤ b) (v0 v1 v2 v3 : Value) :
    Mod B a ((((w.setCell ⟨b, 0, none⟩ v0).setCell ⟨b, 1, none⟩ v1).setCell ⟨b, 2, none⟩ v2).setCell ⟨b, 3, none⟩ v3) :=
  (((h.setCell (p := ⟨b, 0, none⟩) (fun h => absurd h (Nat.not_lt_of_le hb)) v0).setCell (p := ⟨b, 1, none⟩) (fun h => absurd h (Nat.not_lt_of_le hb)) v1).setCell (p := ⟨b, 2, none⟩) (fun h => absurd h (Nat.not_lt_of_le hb)) v2).setCell (p := ⟨b, 3, none⟩) (fun h => absurd h (Nat.not_lt_of_le hb)) v3
theorem Blk.store4 {w : World} {b : Nat} {x0 x1 x2 x3 : Value} {t : TypeId} (h : Blk w b [x0, x1, x2, x3] t) (v0 v1 v2 v3 : Value) :
    Blk ((((w.setCell ⟨b, 0, none⟩ v0).setCell ⟨b, 1, none⟩ v1).setCell ⟨b, 2, none⟩ v2).setCell ⟨b, 3, none⟩ v3) b [v0, v1, v2, v3] t :=
  (((h.set 0 v0).set 1 v1).set 2 v2).set 3 v3

theorem is_P {w : World} {base p : Nat} {s : ByteArray} {i d : Nat} {sts : List NS} {F : List Nat} (hp : PAt w base p s i d sts F) (hs : s.size ≤ 1000) (l : ByteArray) :
    Calls Try.prog 32 #[.pointer (some ⟨p, 0, none⟩), .string l] w fun e w' => EndsQ (Rx.isOne (tx s) (nums l) i) (fun x => .bool x) e ∧ ∃ n, w' = w.drewN n :=
  is_any p s l i w hs hp.cells.1 hp.cells.2.1

set_option maxRecDepth 100000 in
set_option maxHeartbeats 1000000 in
theorem class_any (w : World) (base p : Nat) (s : ByteArray) (i d : Nat) (sts : List NS) (F : List Nat) (n : Nat) (hp : PAt w base p s i d sts F) (hs : s.size ≤ 1000) (hi : i ≤ s.size) (hn : s.size + 1 ≤ n + i) :
    Calls Try.prog 46 #[.pointer (some ⟨p, 0, none⟩)] w fun e w' => EndsP (Rx.cls (tx s) n i) (Mod (· = p) w)
      (fun x e w' => (∃ v, e = .returned v ∧ BRep v x.1) ∧ PAt w' base p s x.2 d sts F ∧ Mod (· = p) w w') e w' := by
  obtain ⟨c0, c1, c2, f1, f2⟩ := hp.cells
  have Hp := Lib.hid hp
  have hpl := hp.lt p hp.mem
  clear hp c2 f2
  cases hno : Rx.isOne (tx s) [94] i with
  | bad j c =>
    have hm : Rx.cls (tx s) n i = .bad j c := by simp [Rx.cls, hno, Got.bind]
    have Hno := Lib.hid hno
    have Hm := Lib.hid hm
    clear hno hm
    go_enter Try.func46, Try.ntmps46
    go_wp2_with fail
    refine (is_P (Hp.out.new ((Below.refl _ _).alloc (Nat.le_refl _) _)) hs ⟨#[94]⟩).mono ?_
    rintro e w' ⟨he, k, rfl⟩
    obtain rfl := he.bad Hno.out
    exact ⟨rfl, EndsP.mk_bad Hm.out rfl (((Mod.refl _ _).alloc _).drewN _)⟩
  | ok no =>
    have hm0 : no = false → Rx.cls (tx s) n i = (Rx.members (tx s) n Rx.noSet i).bind fun x => .ok (x.1, x.2) := fun h => by subst h; simp [Rx.cls, hno, Got.bind]
    have hm1 : no = true → Rx.cls (tx s) n i = (Rx.members (tx s) n Rx.noSet (i + 1)).bind fun x => .ok (Rx.notSet x.1, x.2) := fun h => by subst h; simp [Rx.cls, hno, Got.bind]
    have hno1 : no = true → i < s.size := fun h => by subst h; simpa using isOne_lt hno
    have Hno := Lib.hid hno
    have HmF := Lib.hid hm0
    have HmT := Lib.hid hm1
    have Hno1 := Lib.hid hno1
    clear hno hm0 hm1 hno1
    go_enter Try.func46, Try.ntmps46
    go_wp2_with fail
    have hp0 := Hp.out.new ((Below.refl w.heap.size w).alloc (Nat.le_refl _) (.cells #[.int .u64 0, .int .u64 0, .int .u64 0, .int .u64 0] 68))
    have hb0 := Blk.new w [.int .u64 0, .int .u64 0, .int .u64 0, .int .u64 0] 68
    have hm0 : Mod (· = p) w (w.alloc (.cells #[.int .u64 0, .int .u64 0, .int .u64 0, .int .u64 0] 68)) := (Mod.refl _ _).alloc _
    have hs0 : w.heap.size < (w.alloc (.cells #[.int .u64 0, .int .u64 0, .int .u64 0, .int .u64 0] 68)).heap.size := by simp
    generalize w.alloc (.cells #[.int .u64 0, .int .u64 0, .int .u64 0, .int .u64 0] 68) = w0 at *
    have Hb0 := Lib.hid hb0
    have Hm0 := Lib.hid hm0
    have Hp0 := Lib.hid hp0
    clear hb0 hm0 hp0
    refine (is_P Hp0.out hs ⟨#[94]⟩).mono ?_
    rintro e w' ⟨he, k, rfl⟩
    obtain rfl := he.ok Hno.out
    clear he
    have hp1 := Hp0.out.drewN k
    have hb1 := Hb0.out.mod ((Mod.refl (fun _ => False) w0).drewN k) (fun h => h)
    have hm1 := Hm0.out.drewN k
    have hs1 : w.heap.size < (w0.drewN k).heap.size := Nat.lt_of_lt_of_le hs0 (((Mod.refl (fun _ => False) w0).drewN k).size)
    generalize w0.drewN k = w1 at *
    obtain ⟨d0, d1, _, g1, _⟩ := hp1.cells
    have Hb1 := Lib.hid hb1
    have Hm1 := Lib.hid hm1
    have Hp1 := Lib.hid hp1
    have hpB : p ≠ w.heap.size := by omega
    have hp1' : p < w1.heap.size := (hp1.lt p hp1.mem).2
    clear hb1 hm1 hp1 Hb0 Hm0 Hp0 c0 c1 f1 hs0
    cases no
    case' false =>
      go_wp2_with fail
      have HR := Lib.hid (HmF.out (by trivial))
      clear HmF HmT Hno1
      have hp2 := Hp1.out.new ((Below.refl w1.heap.size w1).alloc (Nat.le_refl _) (.cells #[.int .u64 0, .int .u64 0, .int .u64 0, .int .u64 0] 68))
      have hb2 := Hb1.out.alloc (.cells #[.int .u64 0, .int .u64 0, .int .u64 0, .int .u64 0] 68)
      have hm2 := Hm1.out.alloc (.cells #[.int .u64 0, .int .u64 0, .int .u64 0, .int .u64 0] 68)
      have ho2 : SetAt (w1.alloc (.cells #[.int .u64 0, .int .u64 0, .int .u64 0, .int .u64 0] 68)) w1.heap.size Rx.noSet := ⟨0, 0, 0, 0, Blk.new w1 _ _, isSet_none⟩
      generalize (w1.alloc (.cells #[.int .u64 0, .int .u64 0, .int .u64 0, .int .u64 0] 68)) = w2 at *
      have hj0 : i ≤ s.size := hi
      have hn0 : s.size + 1 ≤ n + i := hn
      generalize hjj : i = j0 at hp2 hj0 hn0
      rw [show Rx.members (tx s) n Rx.noSet i = Rx.members (tx s) n Rx.noSet j0 from by rw [hjj]] at HR
      clear hjj
    case' true =>
      go_wp2_with fail
      have HR := Lib.hid (HmT.out (by trivial))
      have hj0 : i + 1 ≤ s.size := Hno1.out (by trivial)
      clear HmF HmT Hno1
      have hp2 := (Hp1.out.setAt (i + 1)).new ((Below.refl (w1.setCell ⟨p, 1, none⟩ (.int .i64 ((i + 1 : Nat) : Int))).heap.size (w1.setCell ⟨p, 1, none⟩ (.int .i64 ((i + 1 : Nat) : Int)))).alloc (Nat.le_refl _) (.cells #[.int .u64 0, .int .u64 0, .int .u64 0, .int .u64 0] 68))
      have hb2 := (Hb1.out.setOther (p := ⟨p, 1, none⟩) (Ne.symm hpB) (.int .i64 ((i + 1 : Nat) : Int))).alloc (.cells #[.int .u64 0, .int .u64 0, .int .u64 0, .int .u64 0] 68)
      have hm2 := (Hm1.out.setCell (p := ⟨p, 1, none⟩) (fun _ => rfl) (.int .i64 ((i + 1 : Nat) : Int))).alloc (.cells #[.int .u64 0, .int .u64 0, .int .u64 0, .int .u64 0] 68)
      have ho2 : SetAt ((w1.setCell ⟨p, 1, none⟩ (.int .i64 ((i + 1 : Nat) : Int))).alloc (.cells #[.int .u64 0, .int .u64 0, .int .u64 0, .int .u64 0] 68)) w1.heap.size Rx.noSet := ⟨0, 0, 0, 0, heap_alloc_at (by simp [World.setCell]), isSet_none⟩
      rw [show (((i + 1 : Nat) : Int)) = (i : Int) + 1 from rfl] at hp2 hb2 hm2 ho2
      generalize ((w1.setCell ⟨p, 1, none⟩ (.int .i64 ((i : Int) + 1))).alloc (.cells #[.int .u64 0, .int .u64 0, .int .u64 0, .int .u64 0] 68)) = w2 at *
      have hn0 : s.size + 1 ≤ n + (i + 1) := by omega
      generalize hjj : i + 1 = j0 at hp2 hj0 hn0
      rw [show Rx.members (tx s) n Rx.noSet (i + 1) = Rx.members (tx s) n Rx.noSet j0 from by rw [hjj]] at HR
      clear hjj
    all_goals
      have Hp2 := Lib.hid hp2
      have Hb2 := Lib.hid hb2
      have Hm2 := Lib.hid hm2
      have Ho2 := Lib.hid ho2
      clear hp2 hb2 hm2 ho2 d0 d1 g1 Hb1 Hm1 Hp1
    all_goals
      go_loopw [5] (fun v wr => ∃ (fst : Bool) (m : Nat) (f : Rx.BSet) (j : Nat), v = .bool fst ∧ Hid (Rx.members (tx s) n Rx.noSet j0 = if fst then Rx.members (tx s) m f j else tailM (tx s) m f j) ∧
          SetAt wr w1.heap.size f ∧ PAt wr base p s j d sts F ∧ Mod (· = p) w wr ∧ (∃ x0 x1 x2 x3, Blk wr w.heap.size [x0, x1, x2, x3] 68) ∧ j ≤ s.size ∧ s.size + 1 ≤ m + j ∧ w1.heap.size < wr.heap.size)
        (fun _ wr => 1001 - atOf wr p)
      case atStart =>
        exact ⟨true, n, _, j0, rfl, Lib.hid rfl, Ho2.out, Hp2.out, Hm2.out, ⟨_, _, _, _, Hb2.out⟩, hj0, hn0, (Ho2.out.choose_spec.choose_spec.choose_spec.choose_spec.1).lt⟩
      case round =>
        obtain ⟨fst, m, f, j, rfl, HR2, ho, hp, hm, ⟨x0, x1, x2, x3, hb⟩, hjs, hnj, hsz⟩ := hrel
        have Ho := Lib.hid ho
        have Hpj := Lib.hid hp
        have Hmj := Lib.hid hm
        have Hbj := Lib.hid hb
        clear ho hp hm hb
        have hcase : (fst = false ∧ ∃ j' c, Rx.isOne (tx s) [93] j = .bad j' c) ∨ (fst = false ∧ Rx.isOne (tx s) [93] j = .ok true) ∨
            (Rx.members (tx s) n Rx.noSet j0 = Rx.members (tx s) m f j ∧ (fst = true ∨ (fst = false ∧ Rx.isOne (tx s) [93] j = .ok false))) := by
          have h2 := HR2.out
          cases fst with
          | true => exact .inr (.inr ⟨h2, .inl rfl⟩)
          | false =>
            cases h3 : Rx.isOne (tx s) [93] j with
            | bad j' c => exact .inl ⟨rfl, j', c, rfl⟩
            | ok e =>
              cases e with
              | true => exact .inr (.inl ⟨rfl, rfl⟩)
              | false => exact .inr (.inr ⟨by rw [h2]; simp [tailM, h3, Got.bind], .inr ⟨rfl, rfl⟩⟩)
        rcases hcase with ⟨rfl, j', c, hbad⟩ | ⟨rfl, hend⟩ | ⟨hrest, hg⟩
        · have hcls : Rx.cls (tx s) n i = .bad j' c := by
            rw [HR.out, HR2.out]; simp [tailM, hbad, Got.bind]
          have Hcls := Lib.hid hcls
          have Hbad := Lib.hid hbad
          clear hcls hbad
          go_wp2_with fail
          refine (is_P Hpj.out hs ⟨#[93]⟩).mono ?_
          rintro e w' ⟨he, k, rfl⟩
          obtain rfl := he.bad Hbad.out
          exact ⟨rfl, EndsP.mk_bad Hcls.out rfl (Hmj.out.drewN _)⟩
        · have hcls := HR.out
          rw [HR2.out] at hcls
          simp [tailM, hend, Got.bind] at hcls
          have Hcls := Lib.hid hcls
          have Hend := Lib.hid hend
          clear hcls hend
          go_wp2_with fail
          refine (is_P Hpj.out hs ⟨#[93]⟩).mono ?_
          rintro e w' ⟨he, k, rfl⟩
          obtain rfl := he.ok Hend.out
          clear he
          have hjl : j < s.size := by simpa using isOne_lt Hend.out
          have hp3 := Hpj.out.drewN k
          have hm3 := Hmj.out.drewN k
          have ho3 := Ho.out.mod ((Mod.refl (fun _ => False) wr).drewN k) (fun h => h)
          have hb3 := Hbj.out.mod ((Mod.refl (fun _ => False) wr).drewN k) (fun h => h)
          generalize wr.drewN k = w3 at *
          obtain ⟨_, d1, _, g1, _⟩ := hp3.cells
          obtain ⟨a0, a1, a2, a3, hob, hos⟩ := ho3
          have hpo : p ≠ w1.heap.size := by omega
          have hro : w.heap.size ≠ w1.heap.size := by omega
          have c0 := hob.cell 0 rfl
          have c1 := hob.cell 1 rfl
          have c2 := hob.cell 2 rfl
          have c3 := hob.cell 3 rfl
          have e0 := hb3.cell 0 rfl
          have e1 := hb3.cell 1 rfl
          have e2 := hb3.cell 2 rfl
          have e3 := hb3.cell 3 rfl
          have f0 := hb3.free 0
          have f1 := hb3.free 1
          have f2 := hb3.free 2
          have f3 := hb3.free 3
          have Hb3 := Lib.hid hb3
          have Hp3 := Lib.hid hp3
          have Hm3 := Lib.hid hm3
          have Hos := Lib.hid hos
          clear hb3 hp3 hm3 hos hob
          have hnB : w.heap.size ∉ F := fun hm => by have := (Hp.out.lt _ hm).2; omega
          have HnB := Lib.hid hnB
          clear hnB
          go_wp2_with fail
          first
            | (refine (turned_any _ f _ ⟨a0, a1, a2, a3, rfl, Hos.out⟩).mono ?_
               have hp4 := Hp3.out.setAt (j + 1)
               have hm4 := Hm3.out.setCell (p := ⟨p, 1, none⟩) (fun _ => rfl) (.int .i64 ((j + 1 : Nat) : Int))
               have hb4 := Hb3.out.setOther (p := ⟨p, 1, none⟩) (Ne.symm hpB) (.int .i64 ((j + 1 : Nat) : Int))
               rw [show (((j + 1 : Nat) : Int)) = (j : Int) + 1 from rfl] at hp4 hm4 hb4
               generalize w3.setCell ⟨p, 1, none⟩ (.int .i64 ((j : Int) + 1)) = w4 at *
               rintro e w5 ⟨u, rfl, ⟨y0, y1, y2, y3, rfl, hy⟩, hbel⟩
               have hp5 := hp4.new hbel
               have hm5 := hm4.trans (Mod.of_new (B := (· = p)) hbel) (fun _ _ h => h)
               have hb5 := hb4.below hbel hb4.lt
               have e0 := hb5.cell 0 rfl
               have e1 := hb5.cell 1 rfl
               have e2 := hb5.cell 2 rfl
               have e3 := hb5.cell 3 rfl
               have f0 := hb5.free 0
               have f1 := hb5.free 1
               have f2 := hb5.free 2
               have f3 := hb5.free 3
               have Hb5 := Lib.hid hb5
               have Hp5 := Lib.hid hp5
               have Hm5 := Lib.hid hm5
               have Hy := Lib.hid hy
               clear hb5 hp5 hm5 hy hp4 hm4 hb4 hbel
               unfold setV
               go_wp2_with fail
               refine bodyPost_ret (results_cell_row rfl _ _ w.heap.size 68 _ _ _ rfl (Hb5.out.store4 _ _ _ _) Try.underlying68 rfl (by kernel_rfl)) rfl ?_
               exact EndsP.mk_ok Hcls.out ⟨⟨_, rfl, y0, y1, y2, y3, rfl, Hy.out⟩, Hp5.out.store4 HnB.out _ _ _ _, Hm5.out.store4 (Nat.le_refl _) _ _ _ _⟩)
            | (have hp4 := Hp3.out.setAt (j + 1)
               have hm4 := Hm3.out.setCell (p := ⟨p, 1, none⟩) (fun _ => rfl) (.int .i64 ((j + 1 : Nat) : Int))
               have hb4 := Hb3.out.setOther (p := ⟨p, 1, none⟩) (Ne.symm hpB) (.int .i64 ((j + 1 : Nat) : Int))
               refine bodyPost_ret (results_cell_row rfl _ _ w.heap.size 68 _ _ _ rfl (hb4.store4 _ _ _ _) Try.underlying68 rfl (by kernel_rfl)) rfl ?_
               exact EndsP.mk_ok Hcls.out ⟨⟨_, rfl, a0, a1, a2, a3, rfl, Hos.out⟩, hp4.store4 HnB.out _ _ _ _, hm4.store4 (Nat.le_refl _) _ _ _ _⟩)
        · have Hrest := Lib.hid hrest
          have hm1 : 1 ≤ m := by omega
          obtain ⟨m, rfl⟩ : ∃ m', m = m' + 1 := ⟨m - 1, by omega⟩
          clear hrest hm1
          rcases hg with rfl | ⟨rfl, hg⟩
          case' inl =>
            go_wp2_with fail
            have hp3 := Hpj.out
            have hm3 := Hmj.out
            have ho3 := Ho.out
            have hb3 := Hbj.out
            have hsz3 := hsz
            generalize hw3 : wr = w3 at hp3 hm3 ho3 hb3 hsz3 ⊢
            have Hw3 := Lib.hid hw3
            clear hw3
          case' inr =>
            have Hg := Lib.hid hg
            clear hg
            go_wp2_with fail
            refine (is_P Hpj.out hs ⟨#[93]⟩).mono ?_
            rintro e w' ⟨he, k, rfl⟩
            obtain rfl := he.ok Hg.out
            clear he
            go_wp2_with fail
            have hp3 := Hpj.out.drewN k
            have hm3 := Hmj.out.drewN k
            have ho3 := Ho.out.mod ((Mod.refl (fun _ => False) wr).drewN k) (fun h => h)
            have hb3 := Hbj.out.mod ((Mod.refl (fun _ => False) wr).drewN k) (fun h => h)
            have hsz3 : w1.heap.size < (wr.drewN k).heap.size := ho3.lt
            generalize wr.drewN k = w3 at *
          all_goals
            have hpo : p ≠ w1.heap.size := by omega
            have hro : w.heap.size ≠ w1.heap.size := by omega
            have Hp3 := Lib.hid hp3
            have Hm3 := Lib.hid hm3
            have Ho3 := Lib.hid ho3
            have Hb3 := Lib.hid hb3
            clear hp3 hm3 ho3 hb3
            refine (member_any _ _ _ _ _ _ _ _ Hp3.out hs).mono ?_
            rintro e w4 he
            cases hmb : Rx.member (tx s) j with
            | bad j' c =>
              obtain ⟨rfl, hw⟩ := he.bad hmb
              have hcls : Rx.cls (tx s) n i = .bad j' c := by rw [HR.out, Hrest.out, members_succ]; simp [hmb, Got.bind]
              exact ⟨rfl, EndsP.mk_bad hcls rfl (Hm3.out.trans hw (fun _ _ h => h))⟩
            | ok x =>
              obtain ⟨x, jx⟩ := x
              obtain ⟨rfl, hp4, hw4⟩ := he.ok hmb
              obtain ⟨hx1, hx2, hx3⟩ := member_lt hmb
              simp only [Array.length_toList, ByteArray.size_data] at hx2
              clear he
              have Hmb := Lib.hid hmb
              have Hp4 := Lib.hid hp4
              have Hm4 := Lib.hid (Hm3.out.trans hw4 (fun _ _ h => h))
              have Ho4 := Lib.hid (Ho3.out.mod hw4 (Ne.symm hpo))
              have Hb4 := Lib.hid (Hb3.out.mod hw4 (Ne.symm hpB))
              have hsz4 : w1.heap.size < w4.heap.size := Nat.lt_of_lt_of_le hsz3 hw4.size
              clear hmb hp4 hw4
              dsimp only at hx1 hx2 hx3 Hp4
              go_wp2_with fail
              refine (is_P Hp4.out hs ⟨#[45]⟩).mono ?_
              rintro e w' ⟨he, k2, rfl⟩
              cases hds : Rx.isOne (tx s) [45] jx with
              | bad j' c =>
                obtain rfl := he.bad hds
                have hcls : Rx.cls (tx s) n i = .bad j' c := by rw [HR.out, Hrest.out, members_succ]; simp [Hmb.out, hds, Got.bind]
                exact ⟨rfl, EndsP.mk_bad hcls rfl (Hm4.out.drewN _)⟩
              | ok dash =>
                obtain rfl := he.ok hds
                have Hds := Lib.hid hds
                have hp5 := Hp4.out.drewN k2
                have hm5 := Hm4.out.drewN k2
                have ho5 := Ho4.out.mod ((Mod.refl (fun _ => False) w4).drewN k2) (fun h => h)
                have hb5 := Hb4.out.mod ((Mod.refl (fun _ => False) w4).drewN k2) (fun h => h)
                have hsz5 : w1.heap.size < (w4.drewN k2).heap.size := ho5.lt
                generalize w4.drewN k2 = w5 at *
                clear he hds
                obtain ⟨_, d1, _, g1, _⟩ := hp5.cells
                have Hp5 := Lib.hid hp5
                have Hm5 := Lib.hid hm5
                have Ho5 := Lib.hid ho5
                have Hb5 := Lib.hid hb5
                clear hp5 hm5 ho5 hb5
                have hxb : x < 256 := by omega
                cases dash
                case' false =>
                  have hnext : Rx.members (tx s) (m + 1) f j = tailM (tx s) m (Rx.orSet f (Rx.between x x)) jx := by
                    rw [members_succ]; simp [Hmb.out, Hds.out, Got.bind]
                  have Hnext := Lib.hid hnext
                  have hjn : j < jx := hx1
                  have hjn2 : jx ≤ s.size := hx2
                  clear hnext d1 g1
                  go_wp2_with fail
                case' true =>
                  go_wp2_with fail
                  have hjxl : jx < s.size := by simpa using isOne_lt Hds.out
                  have hp6 := Hp5.out.setAt (jx + 1)
                  have hm6 := Hm5.out.setCell (p := ⟨p, 1, none⟩) (fun _ => rfl) (.int .i64 ((jx + 1 : Nat) : Int))
                  have ho6 : SetAt (w5.setCell ⟨p, 1, none⟩ (.int .i64 ((jx + 1 : Nat) : Int))) w1.heap.size f := Ho5.out.mod (B := (· = p)) ((Mod.refl (· = p) w5).setCell (p := ⟨p, 1, none⟩) (fun _ => rfl) _) (Ne.symm hpo)
                  have hb6 := Hb5.out.setOther (p := ⟨p, 1, none⟩) (Ne.symm hpB) (.int .i64 ((jx + 1 : Nat) : Int))
                  have hsz6 := ho6.lt
                  rw [show (((jx + 1 : Nat) : Int)) = (jx : Int) + 1 from rfl] at hp6 hm6 ho6 hb6 hsz6
                  generalize w5.setCell ⟨p, 1, none⟩ (.int .i64 ((jx : Int) + 1)) = w6 at *
                  have Hp6 := Lib.hid hp6
                  have Hm6 := Lib.hid hm6
                  have Ho6 := Lib.hid ho6
                  have Hb6 := Lib.hid hb6
                  clear hp6 hm6 ho6 hb6 d1 g1
                  refine (member_any _ _ _ _ _ _ _ _ Hp6.out hs).mono ?_
                  rintro e w7 he
                  cases hmb2 : Rx.member (tx s) (jx + 1)
                  case' bad =>
                    rename_i j' c
                    obtain ⟨rfl, hw⟩ := he.bad hmb2
                    have hcls : Rx.cls (tx s) n i = .bad j' c := by rw [HR.out, Hrest.out, members_succ]; simp [Hmb.out, Hds.out, hmb2, Got.bind]
                    exact ⟨rfl, EndsP.mk_bad hcls rfl (Hm6.out.trans hw (fun _ _ h => h))⟩
                  case' ok =>
                    rename_i y
                    obtain ⟨y, jy⟩ := y
                    obtain ⟨rfl, hp7, hw7⟩ := he.ok hmb2
                    obtain ⟨hy1, hy2, hy3⟩ := member_lt hmb2
                    simp only [Array.length_toList, ByteArray.size_data] at hy2
                    dsimp only at hy1 hy2 hy3 hp7
                    clear he
                    have hyb : y < 256 := by omega
                    have Hmb2 := Lib.hid hmb2
                    have Hp7 := Lib.hid hp7
                    have Hm7 := Lib.hid (Hm6.out.trans hw7 (fun _ _ h => h))
                    have Ho7 := Lib.hid (Ho6.out.mod hw7 (Ne.symm hpo))
                    have Hb7 := Lib.hid (Hb6.out.mod hw7 (Ne.symm hpB))
                    have hsz7 : w1.heap.size < w7.heap.size := Nat.lt_of_lt_of_le hsz6 hw7.size
                    clear hmb2 hp7 hw7
                    by_cases hlt : y < x
                    case' pos =>
                      have hlt' : (y : Int) < x := by omega
                      have hcls : Rx.cls (tx s) n i = .bad (jx + 1) 2 := by rw [HR.out, Hrest.out, members_succ]; simp [Hmb.out, Hds.out, Hmb2.out, Got.bind, hlt]
                      have Hcls := Lib.hid hcls
                      clear hcls
                      go_wp2_with fail
                      refine (fail_any _ (jx + 1) 2 _).mono ?_
                      rintro e w' ⟨rfl, rfl⟩
                      exact ⟨rfl, EndsP.mk_bad Hcls.out rfl Hm7.out⟩
                    case' neg =>
                      have hlt' : (x : Int) ≤ y := by omega
                      have hnext : Rx.members (tx s) (m + 1) f j = tailM (tx s) m (Rx.orSet f (Rx.between x y)) jy := by
                        rw [members_succ]; simp [Hmb.out, Hds.out, Hmb2.out, Got.bind, hlt]
                      have Hnext := Lib.hid hnext
                      have hjn : j < jy := by omega
                      have hjn2 : jy ≤ s.size := hy2
                      clear hnext
                      go_wp2_with fail
                      clear Hp5 Hm5 Ho5 Hb5 hsz5
                      have Hp5 := Hp7
                      have Hm5 := Hm7
                      have Ho5 := Ho7
                      have Hb5 := Hb7
                      have hsz5 := hsz7
                      clear Hp7 Hm7 Ho7 Hb7 hsz7
                all_goals
                  obtain ⟨a0, a1, a2, a3, hob, hos⟩ := Ho5.out
                  have c0 := hob.cell 0 rfl
                  have c1 := hob.cell 1 rfl
                  have c2 := hob.cell 2 rfl
                  have c3 := hob.cell 3 rfl
                  have Hob := Lib.hid hob
                  have Hos := Lib.hid hos
                  clear hob hos
                  go_region_law (first
                    | (go_simp
                       go_at_call 45
                       refine (span_any _ _ _ (by omega) (by omega)).mono ?_
                       rintro e w8 ⟨u, rfl, hu, hbel⟩
                       have hob8 := Hob.out.drew.below hbel hsz5
                       have d0 := hob8.cell 0 rfl
                       have d1 := hob8.cell 1 rfl
                       have d2 := hob8.cell 2 rfl
                       have d3 := hob8.cell 3 rfl
                       have Hob8 := Lib.hid hob8
                       have Hu := Lib.hid hu
                       have Hbel := Lib.hid hbel
                       clear hob8 hu hbel)
                    | (go_simp
                       go_at_call 53
                       refine (with_any _ _ f _ _ ⟨a0, a1, a2, a3, rfl, Hos.out⟩ Hu.out).mono ?_
                       rintro e w9 ⟨v, rfl, ⟨y0, y1, y2, y3, rfl, hy⟩, hbel2⟩
                       have hob9 := Hob8.out.below hbel2 Hob8.out.lt
                       have d0 := hob9.cell 0 rfl
                       have d1 := hob9.cell 1 rfl
                       have d2 := hob9.cell 2 rfl
                       have d3 := hob9.cell 3 rfl
                       have f0 := hob9.free 0
                       have f1 := hob9.free 1
                       have f2 := hob9.free 2
                       have f3 := hob9.free 3
                       have Hob9 := Lib.hid hob9
                       have Hy := Lib.hid hy
                       have Hbel2 := Lib.hid hbel2
                       clear hob9 hy hbel2
                       unfold setV))
                  all_goals
                    have hp9 := ((Hp5.out.kept (w' := World.drew _) (fun _ _ => rfl)).new Hbel.out).new Hbel2.out
                    have hm9 := (Hm5.out.drew.trans (Mod.of_new (B := (· = p)) Hbel.out) (fun _ _ h => h)).trans (Mod.of_new (B := (· = p)) Hbel2.out) (fun _ _ h => h)
                    have hb8 := Hb5.out.drew.below Hbel.out Hb5.out.drew.lt
                    have hb9 := hb8.below Hbel2.out hb8.lt
                    have hnO : w1.heap.size ∉ F := fun hm => by have := (Hp.out.lt _ hm).2; omega
                    have Hp9 := Lib.hid (hp9.store4 hnO (.int .u64 y0) (.int .u64 y1) (.int .u64 y2) (.int .u64 y3))
                    have Hm9 := Lib.hid (hm9.store4 (b := w1.heap.size) (by omega) (.int .u64 y0) (.int .u64 y1) (.int .u64 y2) (.int .u64 y3))
                    have Hb9 := Lib.hid ((((hb9.setOther (p := ⟨w1.heap.size, 0, none⟩) hro (.int .u64 y0)).setOther (p := ⟨w1.heap.size, 1, none⟩) hro (.int .u64 y1)).setOther (p := ⟨w1.heap.size, 2, none⟩) hro (.int .u64 y2)).setOther (p := ⟨w1.heap.size, 3, none⟩) hro (.int .u64 y3))
                    have Ho9 := Lib.hid (Hob9.out.store4 (.int .u64 y0) (.int .u64 y1) (.int .u64 y2) (.int .u64 y3))
                    clear hp9 hm9 hb8 hb9 hnO
                    go_wp2_with fail
                    go_roundw
                    case rel => exact ⟨false, m, _, _, rfl, Lib.hid (Hrest.out.trans Hnext.out), ⟨y0, y1, y2, y3, Ho9.out, Hy.out⟩, Hp9.out, Hm9.out, ⟨_, _, _, _, Hb9.out⟩, hjn2, by omega, Ho9.out.lt⟩
                    case measure => rw [Hp9.out.atOf, Hpj.out.atOf]; omega

end Go.Proofs.Ytnbghiaggapoiaa
