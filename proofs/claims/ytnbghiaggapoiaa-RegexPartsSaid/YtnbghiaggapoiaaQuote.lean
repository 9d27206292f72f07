/- Package regex: Quote. -/
import Derived.Test.YtnbghiaggapoiaaPeek
import Derived.Deep.AppendLies
import Derived.Laws.IdiomStrings
namespace Go.Proofs.Ytnbghiaggapoiaa
set_option linter.unusedSimpArgs false
set_option linter.unusedVariables false
open Go.RowKit Go.Proofs

def special : List Nat := [40, 41, 91, 93, 124, 42, 43, 63, 92, 46]
/-- A text with a stroke ahead of each byte that means more than itself. -/
def quoted : List UInt8 → List UInt8
  | [] => []
  | b :: l => (if special.contains b.toNat then [92, b] else [b]) ++ quoted l
theorem quoted_append (l m : List UInt8) : quoted (l ++ m) = quoted l ++ quoted m := by
  induction l with
  | nil => rfl
  | cons b l ih => simp [quoted, ih]
theorem quoted_length (l : List UInt8) : (quoted l).length ≤ 2 * l.length := by
  induction l with
  | nil => simp [quoted]
  | cons b l ih =>
    simp only [quoted, List.length_append, List.length_cons]
    split <;> simp <;> omega

def bcells (l : List UInt8) : List Value := l.map fun b => .int .u8 b.toNat

theorem Try.infoU8 : (Try.prog.info? 5).map (fun i => (i.zero, i.size, i.bytes)) = some (some (.int .u8 0), 1, 1) := by kernel_rfl

/-- A string of a row of bytes of one's own. -/
theorem string_own {w : World} {base n : Nat} {v : Value} {l : List UInt8} (h : w.ownsRow base 5 1 v n (bcells l)) (hn : n = l.length) : (convert 40 9 v).run Try.prog w = .ok (.string ⟨l.toArray⟩) w := by
  subst hn
  rcases h.2 with ⟨rfl, h0⟩ | ⟨g, cap, cur, rfl, _, hg, _, _, _, ht⟩
  · obtain rfl : l = [] := List.length_eq_zero_iff.1 h0
    rw [run_convert_bytes_string w 40 9 5 none 0 0 Try.underlying40 Try.underlying5 Try.underlying9]
    rfl
  · refine run_convert_bytes_back w 40 9 5 _ cap l Try.underlying40 Try.underlying5 Try.underlying9 (fun j hj => ?_)
    have hadd : (⟨g, 0, none⟩ : Addr).add j = ⟨g, j, none⟩ := by unfold Addr.add; split <;> simp_all
    rw [hadd]
    exact (own_cell h (j := j) (by simp [bcells, List.getElem?_eq_getElem hj])).1

theorem take_quoted (s : ByteArray) (k : Nat) (h : k < s.size) : quoted ((tx s).take (k + 1)) = quoted ((tx s).take k) ++ (if special.contains s[k].toNat then [92, s[k]] else [s[k]]) := by
  rw [List.take_succ_eq_append_getElem (by simpa using h), quoted_append]
  congr 1
  show (if special.contains s[k].toNat then [92, s[k]] else [s[k]]) ++ [] = _
  rw [List.append_nil]

set_option maxRecDepth 100000 in
set_option maxHeartbeats 1000000 in
theorem quote_any (s : ByteArray) (w : World) (hs : s.size ≤ 1000) :
    Calls Try.prog 15 #[.string s] w fun e w' => e = .returned (.string ⟨(quoted (tx s)).toArray⟩) ∧ Below w.heap.size w w' := by
  obtain ⟨i0, hi0, hz0, hz1, hz2⟩ := info_parts Try.infoU8
  go_enter Try.func15, Try.ntmps15
  go_wp2
  go_loopw [7, 3] (fun i v wr => ∃ k : Nat, k ≤ s.size ∧ i = .int .i64 (k : Int) ∧ wr.ownsRow w.heap.size 5 1 v (quoted ((tx s).take k)).length (bcells (quoted ((tx s).take k))) ∧ Below w.heap.size w wr)
    (fun i _ _ => s.size - (intOf i).toNat)
  case atStart => exact ⟨0, Nat.zero_le _, rfl, World.ownsRow_nil _ _ _ _, Below.refl _ _⟩
  case round =>
    obtain ⟨k, hk, rfl, hown, hbe⟩ := hrel
    have Hown := Lib.hid hown
    have Hbe := Lib.hid hbe
    clear hown hbe
    by_cases hlt : k < s.size
    · have hql := quoted_length ((tx s).take k)
      have htl : ((tx s).take k).length ≤ 1000 := by simp; omega
      have hbs := Hbe.out.size
      have hc256 : s[k].toNat < 256 := s[k].toNat_lt
      by_cases hsp : special.contains s[k].toNat = true
      · have Hsp := Lib.hid (show (nums ⟨#[40, 41, 91, 93, 124, 42, 43, 63, 92, 46]⟩).contains s[k].toNat = true from hsp)
        have htq := take_quoted s k hlt
        rw [if_pos hsp] at htq
        have Htq := Lib.hid htq
        clear htq hsp
        go_wp2_with (first
          | (go_at_call 27; refine (index_yes _ _ _ hc256 Hsp.out).mono ?_; rintro e w' ⟨⟨j, hj, rfl⟩, hw'⟩; subst w')
          | (at_builtin; refine wpList_append_lies _ (by rfl) _ _ _ (by rfl) w.heap.size 5 i0 _ 1 1 Try.underlying40 hi0 hz0 hz1 hz2 rfl (by omega) _ _ _ (by rfl) (Hown1.out.alloc _)
              ⟨w1.heap.size, 0, none⟩ 1 1 [.int .u8 s[k].toNat] (by rfl) (by rfl) (World.news_of_block (cs := #[.int .u8 s[k].toNat]) (t := 5) (fr := (0, 0)) (heap_alloc_at (w := w1) (by simp))) (by simp [Value.oneCell'])
              (by omega) (by unfold maxLen; omega) (by omega) (by simp; omega) (w1.heap.size + 1) (by simp) ?_
             intro gg2 cap2 w2 hown2 hgrow2 hat2 hlt2
             have Hown2 := Lib.hid hown2
             have Hbe2 := Lib.hid ((Hbe1.out.alloc (by omega) _).grown hgrow2 (by simp; omega) (fun j hj => by
               have := (Hown1.out.lt j hj).1; omega))
             clear hown2 hgrow2 hat2)
          | (at_builtin; refine wpList_append_lies _ (by rfl) _ _ _ (by rfl) w.heap.size 5 i0 _ 1 1 Try.underlying40 hi0 hz0 hz1 hz2 rfl (by omega) _ _ _ (by rfl) (Hown.out.alloc _)
              ⟨wr.heap.size, 0, none⟩ 1 1 [.int .u8 92] (by rfl) (by rfl) (World.news_of_block (cs := #[.int .u8 92]) (t := 5) (fr := (0, 0)) (heap_alloc_at (w := wr) (by simp))) (by simp [Value.oneCell'])
              (by omega) (by unfold maxLen; omega) (by omega) (by simp; omega) (wr.heap.size + 1) (by simp) ?_
             intro gg cap1 w1 hown1 hgrow hat hlt1
             have Hown1 := Lib.hid hown1
             have Hbe1 := Lib.hid ((Hbe.out.alloc (by omega) _).grown hgrow (by simp; omega) (fun j hj => by
               have := (Hown.out.lt j hj).1; omega))
             have hbs1 := Hbe1.out.size
             clear hown1 hgrow hat)
          | go_in)
        go_roundw
        case rel =>
          refine ⟨k + 1, by omega, by go_num, ?_, Hbe2.out⟩
          have h := Hown2.out
          rw [Htq.out]
          simpa [bcells] using h
        case measure => simp [intOf]; omega
      · have Hsp := Lib.hid (show (nums ⟨#[40, 41, 91, 93, 124, 42, 43, 63, 92, 46]⟩).contains s[k].toNat = false from Bool.eq_false_iff.2 hsp)
        have htq := take_quoted s k hlt
        rw [if_neg hsp] at htq
        have Htq := Lib.hid htq
        clear htq hsp
        go_wp2_with (first
          | (go_at_call 27; refine (index_no _ _ _ hc256 Hsp.out).mono ?_; rintro e w' ⟨⟨j, hj, rfl⟩, hw'⟩; subst w')
          | (at_builtin; refine wpList_append_lies _ (by rfl) _ _ _ (by rfl) w.heap.size 5 i0 _ 1 1 Try.underlying40 hi0 hz0 hz1 hz2 rfl (by omega) _ _ _ (by rfl) (Hown.out.alloc _)
              ⟨wr.heap.size, 0, none⟩ 1 1 [.int .u8 s[k].toNat] (by rfl) (by rfl) (World.news_of_block (cs := #[.int .u8 s[k].toNat]) (t := 5) (fr := (0, 0)) (heap_alloc_at (w := wr) (by simp))) (by simp [Value.oneCell'])
              (by omega) (by unfold maxLen; omega) (by omega) (by simp; omega) (wr.heap.size + 1) (by simp) ?_
             intro gg cap1 w1 hown1 hgrow hat hlt1
             have Hown1 := Lib.hid hown1
             have Hbe1 := Lib.hid ((Hbe.out.alloc (by omega) _).grown hgrow (by simp; omega) (fun j hj => by
               have := (Hown.out.lt j hj).1; omega))
             clear hown1 hgrow hat)
          | go_in)
        go_roundw
        case rel =>
          refine ⟨k + 1, by omega, by go_num, ?_, Hbe1.out⟩
          have h := Hown1.out
          rw [Htq.out]
          simpa [bcells] using h
        case measure => simp [intOf]; omega
    · obtain rfl : k = s.size := by omega
      have hown := Hown.out
      rw [List.take_of_length_le (by simp)] at hown
      have hcv := string_own hown rfl
      clear hown
      go_wp2
      go_ret
      exact ⟨rfl, Hbe.out⟩

end Go.Proofs.Ytnbghiaggapoiaa
