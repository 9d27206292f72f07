/- Package regex, the parser: atom, given what choice comes to. -/
import Derived.Test.YtnbghiaggapoiaaRow
namespace Go.Proofs.Ytnbghiaggapoiaa
set_option linter.unusedSimpArgs false
set_option linter.unusedVariables false
open Go.RowKit Go.Proofs
open Rx (NS Got)

/-- A step of Beside: the parser's own block is all that turned. -/
theorem Beside.turnAt {w W : World} {base p : Nat} {s : ByteArray} {i d : Nat} {sts : List NS} {F0 F : List Nat} {bs : List (Nat × List Value)} (h : Beside w W base p s i d sts F0 F bs) (i' : Nat) :
    Beside w (W.setCell ⟨p, 1, none⟩ (.int .i64 (i' : Int))) base p s i' d sts F0 F bs :=
  h.step (h.at_.setAt i') (Grew.of_mod ((Mod.refl (· = p) W).setCell (p := ⟨p, 1, none⟩) (fun _ => rfl) _) (fun k hk => by subst hk; exact h.at_.mem))
theorem Beside.turnDeep {w W : World} {base p : Nat} {s : ByteArray} {i d : Nat} {sts : List NS} {F0 F : List Nat} {bs : List (Nat × List Value)} (h : Beside w W base p s i d sts F0 F bs) (d' : Nat) :
    Beside w (W.setCell ⟨p, 2, none⟩ (.int .i64 (d' : Int))) base p s i d' sts F0 F bs :=
  h.step (h.at_.setDeep d') (Grew.of_mod ((Mod.refl (· = p) W).setCell (p := ⟨p, 2, none⟩) (fun _ => rfl) _) (fun k hk => by subst hk; exact h.at_.mem))
theorem Beside.new {w W W' : World} {base p : Nat} {s : ByteArray} {i d : Nat} {sts : List NS} {F0 F : List Nat} {bs : List (Nat × List Value)} (h : Beside w W base p s i d sts F0 F bs) (hb : Below W.heap.size W W') : Beside w W' base p s i d sts F0 F bs :=
  h.step (h.at_.new hb) (Grew.of_new hb)
theorem Beside.store {w W : World} {base p : Nat} {s : ByteArray} {i d : Nat} {sts : List NS} {F0 F : List Nat} {bs : List (Nat × List Value)} (h : Beside w W base p s i d sts F0 F bs) {b : Nat} (hb : w.heap.size ≤ b) (hn : b ∉ F) (v0 v1 : Value) :
    PAt ((W.setCell ⟨b, 0, none⟩ v0).setCell ⟨b, 1, none⟩ v1) base p s i d sts F ∧ Grew F0 w ((W.setCell ⟨b, 0, none⟩ v0).setCell ⟨b, 1, none⟩ v1) F := ⟨h.at_.store2 hn v0 v1, h.grew.store2 hb v0 v1⟩

theorem one_Beside {w W : World} {base p : Nat} {s : ByteArray} {i d : Nat} {sts : List NS} {F0 F : List Nat} {bs : List (Nat × List Value)} (h : Beside w W base p s i d sts F0 F bs) (v : Value) (f : Nat → Bool) (hv : BRep v f) (hlen : sts.length ≤ 900000) :
    Calls Try.prog 43 #[.pointer (some ⟨p, 0, none⟩), v] W fun e w' => e = .returned (.agg #[.int .i64 ((sts.length + 1 : Nat) : Int), .int .i64 (sts.length : Int)]) ∧ ∃ F', Beside w w' base p s i d (sts ++ [Rx.ns0, ⟨true, f, [sts.length]⟩]) F0 F' bs :=
  (one_any W base p s i d sts F v f h.at_ hv hlen).mono fun _ _ ⟨he, F', hp, hg⟩ => ⟨he, F', h.step hp hg⟩

theorem class_Beside {w W : World} {base p : Nat} {s : ByteArray} {i d : Nat} {sts : List NS} {F0 F : List Nat} {bs : List (Nat × List Value)} (h : Beside w W base p s i d sts F0 F bs) (n : Nat) (hs : s.size ≤ 1000) (hi : i ≤ s.size) (hn : s.size + 1 ≤ n + i) :
    Calls Try.prog 46 #[.pointer (some ⟨p, 0, none⟩)] W fun e w' => EndsP (Rx.cls (tx s) n i) (Mod (· ∈ F0) w) (fun x e w' => (∃ v, e = .returned v ∧ BRep v x.1) ∧ Beside w w' base p s x.2 d sts F0 F bs) e w' :=
  (class_any W base p s i d sts F n h.at_ hs hi hn).mono fun e w' he => by
    have hm : ∀ {w'}, Mod (· = p) W w' → Grew F W w' F := fun hm => Grew.of_mod hm (fun k hk => by subst hk; exact h.at_.mem)
    cases hg : Rx.cls (tx s) n i with
    | bad j c => obtain ⟨h1, h2⟩ := he.bad hg; exact ⟨h1, (h.grew.trans (hm h2)).mod⟩
    | ok x => obtain ⟨h1, h2, h3⟩ := he.ok hg; exact ⟨h1, h.step h2 (hm h3)⟩

theorem PartEnds.beside {w W : World} {base p : Nat} {s : ByteArray} {i d d' : Nat} {sts st' : List NS} {F0 F : List Nat} {bs : List (Nat × List Value)} (h : Beside w W base p s i d' st' F0 F bs) {g : Got (Rx.Re × Nat)} {e : Ending} {w' : World} (he : PartEnds g W base p s d sts F e w') :
    EndsP g (Mod (· ∈ F0) w) (fun x e w' => e = .returned (partV (Rx.build x.1 sts).1 (Rx.build x.1 sts).2.1) ∧ ∃ F', Beside w w' base p s x.2 d (Rx.build x.1 sts).2.2 F0 F' bs) e w' := by
  cases hg : g with
  | bad j c => obtain ⟨h1, h2⟩ := EndsP.bad he hg; exact ⟨h1, (h.grew.trans ⟨h2, fun _ h => .inl h⟩).mod⟩
  | ok x => obtain ⟨h1, F', h2, h3⟩ := EndsP.ok he hg; exact ⟨h1, F', h.step h2 h3⟩

def ChoiceOK (m : Nat) : Prop := ∀ (w : World) (base p : Nat) (s : ByteArray) (i d : Nat) (sts : List NS) (F : List Nat), PAt w base p s i d sts F → s.size ≤ 1000 → i ≤ s.size → d ≤ 9 → Rx.wt sts + 8 * (s.size - i) + 3 ≤ 850000 → 4 * (s.size - i) + 4 ≤ m →
  Calls Try.prog 19 #[.pointer (some ⟨p, 0, none⟩)] w (PartEnds (Rx.rows (tx s) m .alt0 d i) w base p s d sts F)
def RowOK (m : Nat) : Prop := ∀ (w : World) (base p : Nat) (s : ByteArray) (i d : Nat) (sts : List NS) (F : List Nat), PAt w base p s i d sts F → s.size ≤ 1000 → i ≤ s.size → d ≤ 9 → Rx.wt sts + 8 * (s.size - i) ≤ 850000 → 4 * (s.size - i) + 3 ≤ m →
  Calls Try.prog 30 #[.pointer (some ⟨p, 0, none⟩)] w (PartEnds (Rx.row (tx s) m d i) w base p s d sts F)
def AtomOK (m : Nat) : Prop := ∀ (w : World) (base p : Nat) (s : ByteArray) (i d : Nat) (sts : List NS) (F : List Nat), PAt w base p s i d sts F → s.size ≤ 1000 → i ≤ s.size → d ≤ 9 → Rx.wt sts + 8 * (s.size - i) ≤ 850000 → 4 * (s.size - i) + 1 ≤ m →
  Calls Try.prog 38 #[.pointer (some ⟨p, 0, none⟩)] w (PartEnds (Rx.atom (tx s) m d i) w base p s d sts F)

theorem atom_succ (t : Rx.Text) (n d i : Nat) : Rx.atom t (n + 1) d i = (Rx.take t i).bind fun c =>
    if c = 46 then .ok (.set (Rx.notSet Rx.noSet), i + 1)
    else if c = 92 then (Rx.take t (i + 1)).bind fun c => .ok (.set (Rx.between c c), i + 2)
    else if c = 91 then (Rx.cls t (t.length + 1 - i) (i + 1)).bind fun x => .ok (.set x.1, x.2)
    else if c = 40 then
      if 8 < d then .bad i 4
      else (Rx.rows t n .alt0 (d + 1) (i + 1)).bind fun x => (Rx.isOne t [41] x.2).bind fun b => if b then .ok (x.1, x.2 + 1) else .bad x.2 2
    else if Rx.marks.contains c then .bad i 2
    else .ok (.set (Rx.between c c), i + 1) := by rw [Rx.atom]

/-- Where every case of atom begins: the result's block is laid, the first byte is taken. -/
theorem atom_begin (w : World) (base p : Nat) (s : ByteArray) (i d : Nat) (sts : List NS) (F : List Nat) (hp : PAt w base p s i d sts F) :
    Beside w (w.alloc (.cells #[.int .i64 0, .int .i64 0] 49)) base p s i d sts F F [(w.heap.size, [.int .i64 0, .int .i64 0])] := by
  have h0 : Beside w w base p s i d sts F F [] := ⟨hp, Grew.refl _ _, fun b hb => by simp at hb⟩
  exact h0.alloc [.int .i64 0, .int .i64 0]

set_option maxRecDepth 100000 in
set_option maxHeartbeats 1000000 in
theorem atom_any (n : Nat) (hC : ChoiceOK n) : AtomOK (n + 1) := by
  intro w base p s i d sts F hp hs hi hd hw hn
  have hlw := Rx.length_le_wt sts
  have hB0 := atom_begin w base p s i d sts F hp
  obtain ⟨_, k1, _, _, _⟩ := hB0.at_.cells
  have Hp := Lib.hid hp
  have HC := Lib.hid hC
  clear hp hC
  cases htk : Rx.take (tx s) i with
  | bad j c =>
    have hm : Rx.atom (tx s) (n + 1) d i = .bad j c := by simp [atom_succ, htk, Got.bind]
    have Htk := Lib.hid htk
    have Hm := Lib.hid hm
    clear htk hm
    go_enter Try.func38, Try.ntmps38
    go_wp2_with fail
    refine (take_Beside hB0 hs).mono ?_
    rintro e w1 he
    obtain ⟨rfl, hw1⟩ := he.bad Htk.out
    exact ⟨rfl, EndsP.mk_bad Hm.out rfl hw1⟩
  | ok c =>
    have hc := take_lt htk
    have hcb : c < 256 := by omega
    have hil : i < s.size := by simpa using hc.1
    have Htk := Lib.hid htk
    clear htk hc
    by_cases h46 : c = 46
    · subst h46
      have hm : Rx.atom (tx s) (n + 1) d i = .ok (.set (Rx.notSet Rx.noSet), i + 1) := by simp [atom_succ, Htk.out, Got.bind]
      have Hm := Lib.hid hm
      clear hm
      go_enter Try.func38, Try.ntmps38
      go_wp2_with fail
      refine (take_Beside hB0 hs).mono ?_
      rintro e w1 he
      obtain ⟨rfl, hB1⟩ := he.ok Htk.out
      have HB1 := Lib.hid hB1
      clear he hB1 hB0
      go_wp2_with fail
      refine (turned_any _ Rx.noSet _ ⟨0, 0, 0, 0, rfl, isSet_none⟩).mono ?_
      rintro e w2 ⟨u, rfl, hu, hbel⟩
      have HB2 := Lib.hid (HB1.out.new hbel)
      have Hu := Lib.hid hu
      clear hbel hu
      go_wp2_with fail
      refine (one_Beside HB2.out _ _ Hu.out (by omega)).mono ?_
      rintro e w3 ⟨rfl, F3, hB3⟩
      obtain ⟨e0, e1, g0, g1⟩ := hB3.cells 0 rfl
      have HB3 := Lib.hid hB3
      clear hB3
      go_wp2_with fail
      refine bodyPost_ret (results_cell_row rfl _ _ w.heap.size 49 _ _ _ rfl ((HB3.out.nth 0 rfl).1.store2 _ _) Try.underlying49 rfl (by kernel_rfl)) rfl ?_
      exact EndsP.mk_ok Hm.out ⟨rfl, F3, HB3.out.store (Nat.le_refl _) (HB3.out.nth 0 rfl).2 _ _⟩
    · have b46 := ne_u8 c 46 h46
      by_cases h92 : c = 92
      · subst h92
        cases htk2 : Rx.take (tx s) (i + 1) with
        | bad j c =>
          have hm : Rx.atom (tx s) (n + 1) d i = .bad j c := by simp [atom_succ, Htk.out, htk2, Got.bind]
          have Htk2 := Lib.hid htk2
          have Hm := Lib.hid hm
          clear htk2 hm
          go_enter Try.func38, Try.ntmps38
          go_wp2_with fail
          refine (take_Beside hB0 hs).mono ?_
          rintro e w1 he
          obtain ⟨rfl, hB1⟩ := he.ok Htk.out
          have HB1 := Lib.hid hB1
          clear he hB1 hB0
          go_wp2_with fail
          refine (take_Beside HB1.out hs).mono ?_
          rintro e w2 he
          obtain ⟨rfl, hw2⟩ := he.bad Htk2.out
          exact ⟨rfl, EndsP.mk_bad Hm.out rfl hw2⟩
        | ok c =>
          have hm : Rx.atom (tx s) (n + 1) d i = .ok (.set (Rx.between c c), i + 2) := by simp [atom_succ, Htk.out, htk2, Got.bind]
          have hc2 := take_lt htk2
          have hc2b : c < 256 := by omega
          have Htk2 := Lib.hid htk2
          have Hm := Lib.hid hm
          clear htk2 hm hc2
          go_enter Try.func38, Try.ntmps38
          go_wp2_with fail
          refine (take_Beside hB0 hs).mono ?_
          rintro e w1 he
          obtain ⟨rfl, hB1⟩ := he.ok Htk.out
          have HB1 := Lib.hid hB1
          clear he hB1 hB0
          go_wp2_with fail
          refine (take_Beside HB1.out hs).mono ?_
          rintro e w2 he
          obtain ⟨rfl, hB2⟩ := he.ok Htk2.out
          have HB2 := Lib.hid hB2
          clear he hB2
          go_wp2_with fail
          refine (span_any _ _ _ hc2b hc2b).mono ?_
          rintro e w3 ⟨u, rfl, hu, hbel⟩
          have HB3 := Lib.hid (HB2.out.new hbel)
          have Hu := Lib.hid hu
          clear hbel hu
          go_wp2_with fail
          refine (one_Beside HB3.out _ _ Hu.out (by omega)).mono ?_
          rintro e w4 ⟨rfl, F4, hB4⟩
          obtain ⟨e0, e1, g0, g1⟩ := hB4.cells 0 rfl
          have HB4 := Lib.hid hB4
          clear hB4
          go_wp2_with fail
          refine bodyPost_ret (results_cell_row rfl _ _ w.heap.size 49 _ _ _ rfl ((HB4.out.nth 0 rfl).1.store2 _ _) Try.underlying49 rfl (by kernel_rfl)) rfl ?_
          exact EndsP.mk_ok Hm.out ⟨rfl, F4, HB4.out.store (Nat.le_refl _) (HB4.out.nth 0 rfl).2 _ _⟩
      · have b92 := ne_u8 c 92 h92
        by_cases h91 : c = 91
        · subst h91
          cases hcl : Rx.cls (tx s) ((tx s).length + 1 - i) (i + 1) with
          | bad j c =>
            have hm : Rx.atom (tx s) (n + 1) d i = .bad j c := by simp only [atom_succ, Htk.out, hcl, Got.bind]; simp
            have Hcl := Lib.hid hcl
            have Hm := Lib.hid hm
            clear hcl hm
            go_enter Try.func38, Try.ntmps38
            go_wp2_with fail
            refine (take_Beside hB0 hs).mono ?_
            rintro e w1 he
            obtain ⟨rfl, hB1⟩ := he.ok Htk.out
            have HB1 := Lib.hid hB1
            clear he hB1 hB0
            go_wp2_with fail
            refine (class_Beside HB1.out ((tx s).length + 1 - i) hs (by omega) (by simp; omega)).mono ?_
            rintro e w2 he
            obtain ⟨rfl, hw2⟩ := he.bad Hcl.out
            exact ⟨rfl, EndsP.mk_bad Hm.out rfl hw2⟩
          | ok x =>
            obtain ⟨f, j⟩ := x
            have hm : Rx.atom (tx s) (n + 1) d i = .ok (.set f, j) := by simp only [atom_succ, Htk.out, hcl, Got.bind]; simp
            have Hcl := Lib.hid hcl
            have Hm := Lib.hid hm
            clear hcl hm
            go_enter Try.func38, Try.ntmps38
            go_wp2_with fail
            refine (take_Beside hB0 hs).mono ?_
            rintro e w1 he
            obtain ⟨rfl, hB1⟩ := he.ok Htk.out
            have HB1 := Lib.hid hB1
            clear he hB1 hB0
            go_wp2_with fail
            refine (class_Beside HB1.out ((tx s).length + 1 - i) hs (by omega) (by simp; omega)).mono ?_
            rintro e w2 he
            obtain ⟨⟨u, rfl, hu⟩, hB2⟩ := he.ok Hcl.out
            have HB2 := Lib.hid hB2
            have Hu := Lib.hid hu
            clear he hB2 hu
            go_wp2_with fail
            refine (one_Beside HB2.out _ _ Hu.out (by omega)).mono ?_
            rintro e w4 ⟨rfl, F4, hB4⟩
            obtain ⟨e0, e1, g0, g1⟩ := hB4.cells 0 rfl
            have HB4 := Lib.hid hB4
            clear hB4
            go_wp2_with fail
            refine bodyPost_ret (results_cell_row rfl _ _ w.heap.size 49 _ _ _ rfl ((HB4.out.nth 0 rfl).1.store2 _ _) Try.underlying49 rfl (by kernel_rfl)) rfl ?_
            exact EndsP.mk_ok Hm.out ⟨rfl, F4, HB4.out.store (Nat.le_refl _) (HB4.out.nth 0 rfl).2 _ _⟩
        · have b91 := ne_u8 c 91 h91
          by_cases h40 : c = 40
          · subst h40
            by_cases h8 : 8 < d
            · have hm : Rx.atom (tx s) (n + 1) d i = .bad i 4 := by simp [atom_succ, Htk.out, Got.bind, h8]
              have Hm := Lib.hid hm
              have h8' : (8 : Int) < d := by omega
              clear hm
              go_enter Try.func38, Try.ntmps38
              go_wp2_with fail
              refine (take_Beside hB0 hs).mono ?_
              rintro e w1 he
              obtain ⟨rfl, hB1⟩ := he.ok Htk.out
              obtain ⟨_, _, k2, _, _⟩ := hB1.at_.cells
              have HB1 := Lib.hid hB1
              clear he hB1 hB0
              go_wp2_with fail
              refine (fail_any _ _ 4 _).mono ?_
              rintro e w' ⟨rfl, rfl⟩
              exact ⟨rfl, EndsP.mk_bad Hm.out rfl HB1.out.grew.mod⟩
            · have h8' : (d : Int) ≤ 8 := by omega
              have hm : Rx.atom (tx s) (n + 1) d i = (Rx.rows (tx s) n .alt0 (d + 1) (i + 1)).bind fun x => (Rx.isOne (tx s) [41] x.2).bind fun b => if b then .ok (x.1, x.2 + 1) else .bad x.2 2 := by
                simp [atom_succ, Htk.out, Got.bind, h8]
              have Hm := Lib.hid hm
              clear hm
              go_enter Try.func38, Try.ntmps38
              go_wp2_with fail
              refine (take_Beside hB0 hs).mono ?_
              rintro e w1 he
              obtain ⟨rfl, hB1⟩ := he.ok Htk.out
              obtain ⟨_, _, k2, _, g2⟩ := hB1.at_.cells
              have hB2 := hB1.turnDeep (d + 1)
              rw [show (((d + 1 : Nat) : Int)) = (d : Int) + 1 from rfl] at hB2
              have HB2 := Lib.hid hB2
              clear he hB1 hB0 hB2
              go_wp2_with fail
              have hB2 := HB2.out
              generalize w1.setCell ⟨p, 2, none⟩ (.int .i64 ((d : Int) + 1)) = w2 at *
              refine (HC.out _ _ _ _ _ _ _ _ hB2.at_ hs (by omega) (by omega) (by omega) (by omega)).mono ?_
              rintro e w3 he
              have he := PartEnds.beside hB2 he
              cases hr : Rx.rows (tx s) n .alt0 (d + 1) (i + 1) with
              | bad j c =>
                obtain ⟨rfl, hw3⟩ := he.bad hr
                exact ⟨rfl, EndsP.mk_bad (by rw [Hm.out, hr]; rfl) rfl hw3⟩
              | ok x =>
                obtain ⟨r, j⟩ := x
                obtain ⟨rfl, F3, hB3⟩ := he.ok hr
                have Hr := Lib.hid hr
                clear he hr hB2
                dsimp only at hB3
                unfold partV
                generalize hbd : Rx.build r sts = bd at hB3 ⊢
                obtain ⟨f, l, st⟩ := bd
                have Hbd := Lib.hid hbd
                dsimp only at hB3 ⊢
                have hB4 := hB3.alloc [.int .i64 (f : Int), .int .i64 (l : Int)]
                change Beside w (w3.alloc (.cells #[.int .i64 (f : Int), .int .i64 (l : Int)] 49)) _ _ _ _ _ _ _ _ _ at hB4
                have HB4 := Lib.hid hB4
                clear hbd hB3 hB4
                go_wp2_with fail
                have hB4 := HB4.out
                generalize w3.alloc (.cells #[.int .i64 (f : Int), .int .i64 (l : Int)] 49) = w4 at *
                refine (is_Beside hB4 hs ⟨#[41]⟩).mono ?_
                rintro e w5 he
                cases hp41 : Rx.isOne (tx s) [41] j with
                | bad j' c =>
                  obtain ⟨rfl, hw5⟩ := he.bad hp41
                  exact ⟨rfl, EndsP.mk_bad (by rw [Hm.out, Hr.out]; simp [Got.bind, hp41]) rfl hw5⟩
                | ok b =>
                  obtain ⟨rfl, hB5⟩ := he.ok hp41
                  have Hp41 := Lib.hid hp41
                  obtain ⟨_, k1, k2, g1, g2⟩ := hB5.at_.cells
                  have HB5 := Lib.hid hB5
                  clear he hp41 hB4 hB5
                  cases b with
                  | false =>
                    go_wp2_with fail
                    refine (fail_any _ j 2 _).mono ?_
                    rintro e w' ⟨rfl, rfl⟩
                    exact ⟨rfl, EndsP.mk_bad (by rw [Hm.out, Hr.out]; simp [Got.bind, Hp41.out]) rfl HB5.out.grew.mod⟩
                  | true =>
                    have hjl : j < s.size := by simpa using isOne_lt Hp41.out
                    have hB6 := HB5.out.turnAt (j + 1)
                    rw [show (((j + 1 : Nat) : Int)) = (j : Int) + 1 from rfl] at hB6
                    obtain ⟨_, _, k2', _, g2'⟩ := hB6.at_.cells
                    have HB6 := Lib.hid hB6
                    have hB7 := hB6.turnDeep d
                    have HB7 := Lib.hid hB7
                    obtain ⟨e0, e1, g0, g1'⟩ := hB7.cells 1 rfl
                    obtain ⟨y0, y1, _, _⟩ := hB7.cells 0 rfl
                    clear hB6 hB7
                    go_wp2_with fail
                    refine bodyPost_ret (results_cell_row rfl _ _ w.heap.size 49 _ _ _ rfl ((HB7.out.nth 1 rfl).1.store2 _ _) Try.underlying49 rfl (by kernel_rfl)) rfl ?_
                    have hfin : Rx.atom (tx s) (n + 1) d i = .ok (r, j + 1) := by rw [Hm.out, Hr.out]; simp [Got.bind, Hp41.out]
                    refine EndsP.mk_ok hfin ⟨?_, F3, ?_⟩
                    · dsimp only; rw [Hbd.out]; rfl
                    · dsimp only; rw [Hbd.out]; exact HB7.out.store (Nat.le_refl _) (HB7.out.nth 1 rfl).2 _ _
          · have b40 := ne_u8 c 40 h40
            cases hk : Rx.marks.contains c with
            | true =>
              have hm : Rx.atom (tx s) (n + 1) d i = .bad i 2 := by simp only [atom_succ, Htk.out, Got.bind, if_neg h46, if_neg h92, if_neg h91, if_neg h40, hk, if_true]
              have Hm := Lib.hid hm
              have Hk := Lib.hid hk
              clear hm hk
              go_enter Try.func38, Try.ntmps38
              go_wp2_with fail
              refine (take_Beside hB0 hs).mono ?_
              rintro e w1 he
              obtain ⟨rfl, hB1⟩ := he.ok Htk.out
              have HB1 := Lib.hid hB1
              clear he hB1 hB0
              go_wp2_with fail
              refine (index_yes ⟨#[40, 41, 91, 93, 124, 42, 43, 63, 92]⟩ c _ hcb Hk.out).mono ?_
              rintro e w' ⟨⟨k, hk0, rfl⟩, rfl⟩
              go_wp2_with fail
              refine (fail_any _ _ 2 _).mono ?_
              rintro e w' ⟨rfl, rfl⟩
              exact ⟨rfl, EndsP.mk_bad Hm.out rfl HB1.out.grew.mod⟩
            | false =>
              have hm : Rx.atom (tx s) (n + 1) d i = .ok (.set (Rx.between c c), i + 1) := by simp only [atom_succ, Htk.out, Got.bind, if_neg h46, if_neg h92, if_neg h91, if_neg h40, hk, Bool.false_eq_true, if_false]
              have Hm := Lib.hid hm
              have Hk := Lib.hid hk
              clear hm hk
              go_enter Try.func38, Try.ntmps38
              go_wp2_with fail
              refine (take_Beside hB0 hs).mono ?_
              rintro e w1 he
              obtain ⟨rfl, hB1⟩ := he.ok Htk.out
              have HB1 := Lib.hid hB1
              clear he hB1 hB0
              go_wp2_with fail
              refine (index_no ⟨#[40, 41, 91, 93, 124, 42, 43, 63, 92]⟩ c _ hcb Hk.out).mono ?_
              rintro e w' ⟨⟨k, hk0, rfl⟩, rfl⟩
              go_wp2_with fail
              refine (span_any _ _ _ hcb hcb).mono ?_
              rintro e w3 ⟨u, rfl, hu, hbel⟩
              have HB3 := Lib.hid (HB1.out.new hbel)
              have Hu := Lib.hid hu
              clear hbel hu
              go_wp2_with fail
              refine (one_Beside HB3.out _ _ Hu.out (by omega)).mono ?_
              rintro e w4 ⟨rfl, F4, hB4⟩
              obtain ⟨e0, e1, g0, g1⟩ := hB4.cells 0 rfl
              have HB4 := Lib.hid hB4
              clear hB4
              go_wp2_with fail
              refine bodyPost_ret (results_cell_row rfl _ _ w.heap.size 49 _ _ _ rfl ((HB4.out.nth 0 rfl).1.store2 _ _) Try.underlying49 rfl (by kernel_rfl)) rfl ?_
              exact EndsP.mk_ok Hm.out ⟨rfl, F4, HB4.out.store (Nat.le_refl _) (HB4.out.nth 0 rfl).2 _ _⟩

end Go.Proofs.Ytnbghiaggapoiaa
