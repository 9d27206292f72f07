/- Package regex, the parser: repeated; atom, row, choice. -/
import Derived.Test.YtnbghiaggapoiaaAtom
namespace Go.Proofs.Ytnbghiaggapoiaa
set_option linter.unusedSimpArgs false
set_option linter.unusedVariables false
open Go.RowKit Go.Proofs
open Rx (NS Got)

theorem build_lt (r : Rx.Re) : ∀ s, (Rx.build r s).1 < (Rx.build r s).2.2.length ∧ (Rx.build r s).2.1 < (Rx.build r s).2.2.length ∧ s.length ≤ (Rx.build r s).2.2.length := by
  induction r with
  | set f => intro s; simp [Rx.build]
  | cat p x ihp ihx => intro s; have a := ihp s; have b := ihx (Rx.build p s).2.2; simp only [Rx.build, Rx.length_addE]; omega
  | alt0 => intro s; simp [Rx.build]
  | alt p r ihp ihr => intro s; have a := ihp s; have b := ihr (Rx.build p s).2.2; simp only [Rx.build, Rx.length_addE]; omega
  | star r ih => intro s; have a := ih s; simp only [Rx.build, Rx.length_addE, List.length_append, List.length_cons, List.length_nil]; omega
  | plus r ih => intro s; have a := ih s; simp only [Rx.build, Rx.length_addE, List.length_append, List.length_cons, List.length_nil]; omega
  | opt r ih => intro s; have a := ih s; simp only [Rx.build, Rx.length_addE, List.length_append, List.length_cons, List.length_nil]; omega

theorem build_star {r : Rx.Re} {s0 st : List NS} {f l : Nat} (h : Rx.build r s0 = (f, l, st)) : Rx.build (.star r) s0 =
    (st.length, st.length + 1, Rx.addE (Rx.addE (Rx.addE (Rx.addE (st ++ ([Rx.ns0] ++ [Rx.ns0])) st.length f) l (st.length + 1)) st.length (st.length + 1)) l f) := by simp [Rx.build, h]
theorem build_plus {r : Rx.Re} {s0 st : List NS} {f l : Nat} (h : Rx.build r s0 = (f, l, st)) : Rx.build (.plus r) s0 =
    (st.length, st.length + 1, Rx.addE (Rx.addE (Rx.addE (st ++ ([Rx.ns0] ++ [Rx.ns0])) st.length f) l (st.length + 1)) l f) := by simp [Rx.build, h]
theorem build_opt {r : Rx.Re} {s0 st : List NS} {f l : Nat} (h : Rx.build r s0 = (f, l, st)) : Rx.build (.opt r) s0 =
    (st.length, st.length + 1, Rx.addE (Rx.addE (Rx.addE (st ++ ([Rx.ns0] ++ [Rx.ns0])) st.length f) l (st.length + 1)) st.length (st.length + 1)) := by simp [Rx.build, h]

theorem rep_no {t : Rx.Text} {r : Rx.Re} {i : Nat} (h : Rx.isOne t [42, 43, 63] i = .ok false) : Rx.rep t r i = .ok (r, i) := by simp [Rx.rep, h, Got.bind]
theorem rep_bad {t : Rx.Text} {r : Rx.Re} {i j e : Nat} (h : Rx.isOne t [42, 43, 63] i = .bad j e) : Rx.rep t r i = .bad j e := by simp [Rx.rep, h, Got.bind]
theorem isOne_true {t : Rx.Text} {l : List Nat} {i : Nat} (h : Rx.isOne t l i = .ok true) : ∃ c, Rx.peek t i = .ok (some c) ∧ l.contains c = true := by
  cases hp : Rx.peek t i with
  | bad j e => rw [isOne_bad hp] at h; cases h
  | ok o =>
    cases o with
    | none => rw [isOne_none hp] at h; cases h
    | some c => rw [isOne_some hp] at h; exact ⟨c, rfl, by simpa using h⟩

theorem Grew.setCell {F F' : List Nat} {a w : World} (h : Grew F a w F') {b o : Nat} (hb : a.heap.size ≤ b) (v : Value) : Grew F a (w.setCell ⟨b, o, none⟩ v) F' :=
  ⟨h.mod.setCell (p := ⟨b, o, none⟩) (fun h => absurd h (Nat.not_lt_of_le hb)) v, h.sub⟩
theorem Grew.alloc {F F' : List Nat} {a w : World} (h : Grew F a w F') (o : Obj) : Grew F a (w.alloc o) F' := ⟨h.mod.alloc o, h.sub⟩
theorem Grew.drewN {F F' : List Nat} {a w : World} (h : Grew F a w F') (n : Nat) : Grew F a (w.drewN n) F' := ⟨h.mod.drewN n, h.sub⟩

theorem PAt.store2 {w : World} {base p : Nat} {s : ByteArray} {i d : Nat} {sts : List NS} {F : List Nat} (h : PAt w base p s i d sts F) {b : Nat} (hn : b ∉ F) (v0 v1 : Value) :
    PAt ((w.setCell ⟨b, 0, none⟩ v0).setCell ⟨b, 1, none⟩ v1) base p s i d sts F := (h.setOther hn v0).setOther hn v1
theorem Grew.store2 {F F' : List Nat} {a w : World} (h : Grew F a w F') {b : Nat} (hb : a.heap.size ≤ b) (v0 v1 : Value) : Grew F a ((w.setCell ⟨b, 0, none⟩ v0).setCell ⟨b, 1, none⟩ v1) F' := (h.setCell hb v0).setCell hb v1
theorem Blk.store2 {w : World} {b : Nat} {x0 x1 : Value} {t : TypeId} (h : Blk w b [x0, x1] t) (v0 v1 : Value) : Blk ((w.setCell ⟨b, 0, none⟩ v0).setCell ⟨b, 1, none⟩ v1) b [v0, v1] t := (h.set 0 v0).set 1 v1
theorem Blk.cells2 {w : World} {b : Nat} {x0 x1 : Value} {t : TypeId} (h : Blk w b [x0, x1] t) : w.cell? ⟨b, 0, none⟩ = some x0 ∧ w.cell? ⟨b, 1, none⟩ = some x1 ∧ w.frozen? ⟨b, 0, none⟩ = false ∧ w.frozen? ⟨b, 1, none⟩ = false :=
  ⟨h.cell 0 rfl, h.cell 1 rfl, h.free 0, h.free 1⟩

/-- Three blocks of a call's own beside the parser. -/
structure Beside (w W : World) (base p : Nat) (s : ByteArray) (i d : Nat) (sts : List NS) (F0 F : List Nat) (bs : List (Nat × List Value)) : Prop where
  at_ : PAt W base p s i d sts F
  grew : Grew F0 w W F
  blk : ∀ b ∈ bs, Blk W b.1 b.2 49 ∧ b.1 ∉ F

theorem Beside.step {w W W' : World} {base p : Nat} {s : ByteArray} {i d i' d' : Nat} {sts sts' : List NS} {F0 F F' : List Nat} {bs : List (Nat × List Value)} (h : Beside w W base p s i d sts F0 F bs)
    (hp : PAt W' base p s i' d' sts' F') (hg : Grew F W W' F') : Beside w W' base p s i' d' sts' F0 F' bs :=
  ⟨hp, h.grew.trans hg, fun b hb => ⟨(h.blk b hb).1.kept (hg.keep (h.blk b hb).1.lt (h.blk b hb).2), hg.out (h.blk b hb).1.lt (h.blk b hb).2⟩⟩

theorem Beside.drewN {w W : World} {base p : Nat} {s : ByteArray} {i d : Nat} {sts : List NS} {F0 F : List Nat} {bs : List (Nat × List Value)} (h : Beside w W base p s i d sts F0 F bs) (n : Nat) : Beside w (W.drewN n) base p s i d sts F0 F bs :=
  h.step (h.at_.drewN n) ((Grew.refl _ _).drewN n)

theorem Beside.alloc {w W : World} {base p : Nat} {s : ByteArray} {i d : Nat} {sts : List NS} {F0 F : List Nat} {bs : List (Nat × List Value)} (h : Beside w W base p s i d sts F0 F bs) (vs : List Value) :
    Beside w (W.alloc (.cells vs.toArray 49)) base p s i d sts F0 F ((W.heap.size, vs) :: bs) := by
  have hb : Below W.heap.size W (W.alloc (.cells vs.toArray 49)) := (Below.refl _ _).alloc (Nat.le_refl _) _
  have h2 := h.step (h.at_.new hb) (Grew.of_new hb)
  refine ⟨h2.at_, h2.grew, fun b hb => ?_⟩
  rcases List.mem_cons.1 hb with rfl | hb
  · exact ⟨Blk.new W vs 49, fun hm => by have := (h.at_.lt _ hm).2; dsimp only at this; omega⟩
  · exact h2.blk b hb

theorem to_Beside {w W : World} {base p : Nat} {s : ByteArray} {i d : Nat} {sts : List NS} {F0 F : List Nat} {bs : List (Nat × List Value)} (h : Beside w W base p s i d sts F0 F bs) (a b : Nat) (ha : a < sts.length) (hw : Rx.wt sts ≤ 1000000) :
    Calls Try.prog 31 #[.pointer (some ⟨p, 0, none⟩), .int .i64 (a : Int), .int .i64 (b : Int)] W fun e w' => e = .returned (.tuple #[]) ∧ ∃ F', Beside w w' base p s i d (Rx.addE sts a b) F0 F' bs :=
  (to_any W base p s i d sts F a b h.at_ ha hw).mono fun _ _ ⟨he, F', hp, hm, hs⟩ => ⟨he, F', h.step hp ⟨hm, hs⟩⟩

theorem state_Beside {w W : World} {base p : Nat} {s : ByteArray} {i d : Nat} {sts : List NS} {F0 F : List Nat} {bs : List (Nat × List Value)} (h : Beside w W base p s i d sts F0 F bs) (hlen : sts.length ≤ 1000000) :
    Calls Try.prog 29 #[.pointer (some ⟨p, 0, none⟩), .agg #[.bool false, .int .u64 0, .int .u64 0, .int .u64 0, .int .u64 0, .slice none 0 0]] W fun e w' => e = .returned (.int .i64 (sts.length : Int)) ∧
      ∃ F', Beside w w' base p s i d (sts ++ [Rx.ns0]) F0 F' bs :=
  (state_zero W base p s i d sts F h.at_ hlen).mono fun _ _ ⟨he, F', hp, hg⟩ => ⟨he, F', h.step hp hg⟩

theorem take_Beside {w W : World} {base p : Nat} {s : ByteArray} {i d : Nat} {sts : List NS} {F0 F : List Nat} {bs : List (Nat × List Value)} (h : Beside w W base p s i d sts F0 F bs) (hs : s.size ≤ 1000) :
    Calls Try.prog 42 #[.pointer (some ⟨p, 0, none⟩)] W fun e w' => EndsP (Rx.take (tx s) i) (Mod (· ∈ F0) w) (fun c e w' => e = .returned (.int .u8 (c : Int)) ∧ Beside w w' base p s (i + 1) d sts F0 F bs) e w' :=
  (take_any W base p s i d sts F h.at_ hs).mono fun e w' he => by
    have hm : ∀ {w'}, Mod (· = p) W w' → Grew F W w' F := fun hm => Grew.of_mod hm (fun k hk => by subst hk; exact h.at_.mem)
    cases hg : Rx.take (tx s) i with
    | bad j c => obtain ⟨h1, h2⟩ := he.bad hg; exact ⟨h1, (h.grew.trans (hm h2)).mod⟩
    | ok c => obtain ⟨h1, h2, h3⟩ := he.ok hg; exact ⟨h1, h.step h2 (hm h3)⟩

theorem is_Beside {w W : World} {base p : Nat} {s : ByteArray} {i d : Nat} {sts : List NS} {F0 F : List Nat} {bs : List (Nat × List Value)} (h : Beside w W base p s i d sts F0 F bs) (hs : s.size ≤ 1000) (l : ByteArray) :
    Calls Try.prog 32 #[.pointer (some ⟨p, 0, none⟩), .string l] W fun e w' => EndsP (Rx.isOne (tx s) (nums l) i) (Mod (· ∈ F0) w) (fun x e w' => e = .returned (.bool x) ∧ Beside w w' base p s i d sts F0 F bs) e w' :=
  (is_P h.at_ hs l).mono fun e w' ⟨he, k, hk⟩ => by
    subst hk
    cases hg : Rx.isOne (tx s) (nums l) i with
    | bad j c => exact ⟨he.bad hg, (h.drewN k).grew.mod⟩
    | ok c => exact ⟨he.ok hg, h.drewN k⟩

theorem Beside.cells {w W : World} {base p : Nat} {s : ByteArray} {i d : Nat} {sts : List NS} {F0 F : List Nat} {bs : List (Nat × List Value)} (h : Beside w W base p s i d sts F0 F bs) {b : Nat} {v0 v1 : Value} (k : Nat) (hk : bs[k]? = some (b, [v0, v1])) :
    W.cell? ⟨b, 0, none⟩ = some v0 ∧ W.cell? ⟨b, 1, none⟩ = some v1 ∧ W.frozen? ⟨b, 0, none⟩ = false ∧ W.frozen? ⟨b, 1, none⟩ = false := (h.blk _ (List.mem_of_getElem? hk)).1.cells2
theorem Beside.nth {w W : World} {base p : Nat} {s : ByteArray} {i d : Nat} {sts : List NS} {F0 F : List Nat} {bs : List (Nat × List Value)} (h : Beside w W base p s i d sts F0 F bs) {b : Nat} {vs : List Value} (k : Nat) (hk : bs[k]? = some (b, vs)) : Blk W b vs 49 ∧ b ∉ F := h.blk _ (List.mem_of_getElem? hk)

/-- What every call of the parser's that may fail comes to: a part of the pattern that was read, or the panic. -/
def PartEnds (g : Got (Rx.Re × Nat)) (w : World) (base p : Nat) (s : ByteArray) (d : Nat) (sts0 : List NS) (F : List Nat) (e : Ending) (w' : World) : Prop :=
  EndsP g (Mod (· ∈ F) w) (fun x e w' => e = .returned (partV (Rx.build x.1 sts0).1 (Rx.build x.1 sts0).2.1) ∧ ∃ F', PAt w' base p s x.2 d (Rx.build x.1 sts0).2.2 F' ∧ Grew F w w' F') e w'

set_option maxRecDepth 100000 in
set_option maxHeartbeats 1000000 in
theorem repeated_any (w : World) (base p : Nat) (s : ByteArray) (i d : Nat) (r : Rx.Re) (sts0 st : List NS) (f l : Nat) (F : List Nat) (hb : Rx.build r sts0 = (f, l, st)) (hp : PAt w base p s i d st F) (hs : s.size ≤ 1000) (hw : Rx.wt st ≤ 900000) :
    Calls Try.prog 37 #[.pointer (some ⟨p, 0, none⟩), partV f l] w (PartEnds (Rx.rep (tx s) r i) w base p s d sts0 F) := by
  have hlt := build_lt r sts0
  rw [hb] at hlt
  obtain ⟨hf, hl, _⟩ := hlt
  dsimp only at hf hl
  have hstl := Rx.length_le_wt st
  have hpl := hp.lt p hp.mem
  have Hp := Lib.hid hp
  have Hb := Lib.hid hb
  clear hb hp
  cases his : Rx.isOne (tx s) [42, 43, 63] i with
  | bad j c =>
    have His := Lib.hid his
    clear his
    unfold partV
    go_enter Try.func37, Try.ntmps37
    go_wp2_with fail
    refine (is_P (Hp.out.new (((Below.refl w.heap.size w).alloc (Nat.le_refl _) _).alloc (by simp) _)) hs ⟨#[42, 43, 63]⟩).mono ?_
    rintro e w' ⟨he, k, rfl⟩
    obtain rfl := he.bad His.out
    exact ⟨rfl, EndsP.mk_bad (rep_bad His.out) rfl ((((Mod.refl _ _).alloc _).alloc _).drewN _)⟩
  | ok b =>
    have His := Lib.hid his
    have hn3 : w.heap.size ∉ F := fun hm => by have := (Hp.out.lt _ hm).2; omega
    have hn4 : w.heap.size + 1 ∉ F := fun hm => by have := (Hp.out.lt _ hm).2; omega
    have Hn3 := Lib.hid hn3
    have Hn4 := Lib.hid hn4
    clear his hn3 hn4
    unfold partV
    go_enter Try.func37, Try.ntmps37
    go_wp2_with fail
    have hB : Beside w ((w.alloc (.cells #[.int .i64 (f : Int), .int .i64 (l : Int)] 49)).alloc (.cells #[.int .i64 0, .int .i64 0] 49)) base p s i d st F F [(w.heap.size + 1, [.int .i64 0, .int .i64 0]), (w.heap.size, [.int .i64 (f : Int), .int .i64 (l : Int)])] := by
      have h0 : Beside w w base p s i d st F F [] := ⟨Hp.out, Grew.refl _ _, fun b hb => by simp at hb⟩
      have h1 := (h0.alloc [.int .i64 (f : Int), .int .i64 (l : Int)]).alloc [.int .i64 0, .int .i64 0]
      rw [World.size_alloc] at h1
      exact h1
    generalize (w.alloc (.cells #[.int .i64 (f : Int), .int .i64 (l : Int)] 49)).alloc (.cells #[.int .i64 0, .int .i64 0] 49) = w0 at *
    refine (is_Beside hB hs ⟨#[42, 43, 63]⟩).mono ?_
    rintro e w1 he
    obtain ⟨rfl, hB1⟩ := he.ok His.out
    have HB1 := Lib.hid hB1
    obtain ⟨c0, c1, _, _⟩ := hB1.cells 1 rfl
    obtain ⟨e0, e1, g0, g1⟩ := hB1.cells 0 rfl
    clear he hB hB1
    cases b with
    | false =>
      go_wp2_with fail
      refine bodyPost_ret (results_cell_row rfl _ _ (w.heap.size + 1) 49 _ _ _ rfl ((HB1.out.nth 0 rfl).1.store2 _ _) Try.underlying49 rfl (by kernel_rfl)) rfl ?_
      refine EndsP.mk_ok (rep_no His.out) ⟨?_, F, ?_, ?_⟩
      · rw [Hb.out]; rfl
      · rw [Hb.out]; exact HB1.out.at_.store2 Hn4.out _ _
      · exact HB1.out.grew.store2 (by omega) _ _
    | true =>
      obtain ⟨c, hpk, hc⟩ := isOne_true His.out
      have htk := take_ok hpk
      have hbt := (peek_lt hpk).2.2.2
      have hil : i < s.size := by simpa using (peek_lt hpk).1
      have hcs : c = 42 ∨ c = 43 ∨ c = 63 := by simpa using hc
      have hrep : Rx.rep (tx s) r i = .ok (if c = 42 then .star r else if c = 43 then .plus r else .opt r, i + 1) := by
        simp only [Rx.rep, His.out, Got.bind, if_true, hbt]
      have Htk := Lib.hid htk
      have Hrep := Lib.hid hrep
      clear hpk hc htk hbt hrep c0 c1 e0 e1 g0 g1
      go_wp2_with fail
      refine (state_Beside HB1.out (by omega)).mono ?_
      rintro e w2 ⟨rfl, F2, hB⟩
      have HB2 := Lib.hid hB
      clear hB
      go_wp2_with fail
      refine (state_Beside HB2.out (by simp; omega)).mono ?_
      rintro e w3 ⟨rfl, F3, hB⟩
      rw [List.append_assoc] at hB
      have e1 : ((st ++ [Rx.ns0]).length : Int) = (st.length : Int) + 1 := by simp
      rw [e1]
      have hwt : Rx.wt (st ++ ([Rx.ns0] ++ [Rx.ns0])) ≤ 900002 := by
        rw [Rx.wt_append]; have : Rx.wt ([Rx.ns0] ++ [Rx.ns0]) = 2 := rfl
        omega
      have hlen : (st ++ ([Rx.ns0] ++ [Rx.ns0])).length = st.length + 2 := by simp
      have Hlen := Lib.hid hlen
      have hB4 := hB.alloc [.int .i64 (st.length : Int), .int .i64 ((st.length : Int) + 1)]
      change Beside w (w3.alloc (.cells #[.int .i64 (st.length : Int), .int .i64 ((st.length : Int) + 1)] 49)) _ _ _ _ _ _ _ _ _ at hB4
      clear e1 hlen hB
      obtain ⟨c0, c1, _, _⟩ := hB4.cells 2 rfl
      go_wp2_with fail
      generalize w3.alloc (.cells #[.int .i64 (st.length : Int), .int .i64 ((st.length : Int) + 1)] 49) = w4 at *
      refine (to_Beside hB4 _ _ (by rw [Hlen.out]; omega) (by omega)).mono ?_
      rintro e w5 ⟨rfl, F5, hB5⟩
      have HB5 := Lib.hid hB5
      obtain ⟨c0, c1, _, _⟩ := hB5.cells 2 rfl
      obtain ⟨d0, d1, _, _⟩ := hB5.cells 0 rfl
      clear hB5 hB4
      go_wp2_with fail
      refine (to_Beside HB5.out l (st.length + 1) (by rw [Rx.length_addE, Hlen.out]; omega) (Nat.le_trans (Rx.wt_addE_le _ _ _) (by omega))).mono ?_
      rintro e w6 ⟨rfl, F6, hB6⟩
      have HB6 := Lib.hid hB6
      clear hB6
      go_wp2_with fail
      refine (take_Beside HB6.out hs).mono ?_
      rintro e w7 he
      obtain ⟨rfl, hB7⟩ := he.ok Htk.out
      have HB7 := Lib.hid hB7
      obtain ⟨c0, c1, _, _⟩ := hB7.cells 2 rfl
      obtain ⟨d0, d1, _, _⟩ := hB7.cells 0 rfl
      obtain ⟨e0, e1, g0, g1⟩ := hB7.cells 1 rfl
      clear he hB7
      rcases hcs with rfl | rfl | rfl
      · go_wp2_with fail
        refine (to_Beside HB7.out st.length (st.length + 1) (by rw [Rx.length_addE, Rx.length_addE, Hlen.out]; omega) (Nat.le_trans (Rx.wt_addE_le _ _ _) (Nat.le_trans (Nat.add_le_add_right (Rx.wt_addE_le _ _ _) 1) (by omega)))).mono ?_
        rintro e w8 ⟨rfl, F8, hB8⟩
        obtain ⟨c0, c1, _, _⟩ := hB8.cells 2 rfl
        have HB8 := Lib.hid hB8
        clear hB8
        go_wp2_with fail
        refine (to_Beside HB8.out l f (by rw [Rx.length_addE, Rx.length_addE, Rx.length_addE, Hlen.out]; omega) (Nat.le_trans (Rx.wt_addE_le _ _ _) (Nat.le_trans (Nat.add_le_add_right (Rx.wt_addE_le _ _ _) 1) (Nat.le_trans (Nat.add_le_add_right (Nat.add_le_add_right (Rx.wt_addE_le _ _ _) 1) 1) (by omega))))).mono ?_
        rintro e w8 ⟨rfl, F8, hB8⟩
        obtain ⟨e0, e1, g0, g1⟩ := hB8.cells 1 rfl
        obtain ⟨d0, d1, _, _⟩ := hB8.cells 0 rfl
        have HB8 := Lib.hid hB8
        clear hB8
        go_wp2_with fail
        refine bodyPost_ret (results_cell_row rfl _ _ (w.heap.size + 1) 49 _ _ _ rfl ((HB8.out.nth 1 rfl).1.store2 _ _) Try.underlying49 rfl (by kernel_rfl)) rfl ?_
        have hr := Hrep.out
        simp at hr
        refine EndsP.mk_ok hr ⟨?_, F8, ?_, ?_⟩
        · rw [build_star Hb.out]; rfl
        · rw [build_star Hb.out]; exact HB8.out.at_.store2 (HB8.out.nth 1 rfl).2 _ _
        · exact HB8.out.grew.store2 (by omega) _ _
      · go_wp2_with fail
        refine (to_Beside HB7.out l f (by rw [Rx.length_addE, Rx.length_addE, Hlen.out]; omega) (Nat.le_trans (Rx.wt_addE_le _ _ _) (Nat.le_trans (Nat.add_le_add_right (Rx.wt_addE_le _ _ _) 1) (by omega)))).mono ?_
        rintro e w8 ⟨rfl, F8, hB8⟩
        obtain ⟨e0, e1, g0, g1⟩ := hB8.cells 1 rfl
        obtain ⟨d0, d1, _, _⟩ := hB8.cells 0 rfl
        have HB8 := Lib.hid hB8
        clear hB8
        go_wp2_with fail
        refine bodyPost_ret (results_cell_row rfl _ _ (w.heap.size + 1) 49 _ _ _ rfl ((HB8.out.nth 1 rfl).1.store2 _ _) Try.underlying49 rfl (by kernel_rfl)) rfl ?_
        have hr := Hrep.out
        simp at hr
        refine EndsP.mk_ok hr ⟨?_, F8, ?_, ?_⟩
        · rw [build_plus Hb.out]; rfl
        · rw [build_plus Hb.out]; exact HB8.out.at_.store2 (HB8.out.nth 1 rfl).2 _ _
        · exact HB8.out.grew.store2 (by omega) _ _
      · go_wp2_with fail
        refine (to_Beside HB7.out st.length (st.length + 1) (by rw [Rx.length_addE, Rx.length_addE, Hlen.out]; omega) (Nat.le_trans (Rx.wt_addE_le _ _ _) (Nat.le_trans (Nat.add_le_add_right (Rx.wt_addE_le _ _ _) 1) (by omega)))).mono ?_
        rintro e w8 ⟨rfl, F8, hB8⟩
        obtain ⟨e0, e1, g0, g1⟩ := hB8.cells 1 rfl
        obtain ⟨d0, d1, _, _⟩ := hB8.cells 0 rfl
        have HB8 := Lib.hid hB8
        clear hB8
        go_wp2_with fail
        refine bodyPost_ret (results_cell_row rfl _ _ (w.heap.size + 1) 49 _ _ _ rfl ((HB8.out.nth 1 rfl).1.store2 _ _) Try.underlying49 rfl (by kernel_rfl)) rfl ?_
        have hr := Hrep.out
        simp at hr
        refine EndsP.mk_ok hr ⟨?_, F8, ?_, ?_⟩
        · rw [build_opt Hb.out]; rfl
        · rw [build_opt Hb.out]; exact HB8.out.at_.store2 (HB8.out.nth 1 rfl).2 _ _
        · exact HB8.out.grew.store2 (by omega) _ _

end Go.Proofs.Ytnbghiaggapoiaa
