/- The reference: whether a node takes a byte. -/
import Derived.Test.YtnbghiaggapoiaaRefNode
namespace Go.Proofs.Ytnbghiaggapoiaa
set_option linter.unusedSimpArgs false
set_option linter.unusedVariables false
open Go.RowKit Go.Proofs

theorem pairs_get : ∀ {l : List (Nat × Nat)} {k : Nat} {p : Nat × Nat}, l[k]? = some p → (pairs l)[k * 2]? = some (.int .u8 p.1) ∧ (pairs l)[k * 2 + 1]? = some (.int .u8 p.2)
  | [], _, _, h => by simp at h
  | x :: l, 0, _, h => by simp at h; subst h; simp [pairs]
  | x :: l, k + 1, p, h => by
    simp at h
    have := pairs_get h
    have e : pairs (x :: l) = [.int .u8 x.1, .int .u8 x.2] ++ pairs l := by simp [pairs]
    rw [e, List.getElem?_append_right (by simp; omega), List.getElem?_append_right (by simp; omega)]
    have e1 : (k + 1) * 2 - [Value.int .u8 (x.1 : Int), Value.int .u8 (x.2 : Int)].length = k * 2 := by simp; omega
    have e2 : (k + 1) * 2 + 1 - [Value.int .u8 (x.1 : Int), Value.int .u8 (x.2 : Int)].length = k * 2 + 1 := by simp; omega
    rw [e1, e2]; exact this

theorem takes_dot (w : World) (c : Nat) :
    Calls Try.prog 35 #[.agg #[.int .u8 46, .bool false, .slice none 0 0, .slice none 0 0], .int .u8 (c : Int)] w fun e w' => e = .returned (.bool true) ∧ Below w.heap.size w w' := by
  go_enter Try.func35, Try.ntmps35
  go_wp2
  go_ret
  exact ⟨rfl, (Below.refl _ w).alloc (Nat.le_refl _) _⟩

def inSet (l : List (Nat × Nat)) (c : Nat) : Bool := l.any (fun p => decide (p.1 ≤ c) && decide (c ≤ p.2))

set_option maxHeartbeats 2000000 in
theorem takes_set (w : World) (c : Nat) (no : Bool) (l : List (Nat × Nat)) (sv : Value) (hr : w.ownsRow 0 83 2 sv l.length (pairs l)) (hl : l.length ≤ 1000000) :
    Calls Try.prog 35 #[.agg #[.int .u8 99, .bool no, sv, .slice none 0 0], .int .u8 (c : Int)] w fun e w' => e = .returned (.bool (takesN no l c)) ∧ Below w.heap.size w w' := by
  obtain ⟨a0, c0, rfl⟩ := own_slice hr
  have hN := Blk.new w [.int .u8 99, .bool no, .slice a0 l.length c0, .slice none 0 0] 30
  have hbe : Below w.heap.size w (w.alloc (.cells #[.int .u8 99, .bool no, .slice a0 l.length c0, .slice none 0 0] 30)) := (Below.refl _ w).alloc (Nat.le_refl _) _
  have hr1 := hr.alloc (.cells #[.int .u8 99, .bool no, .slice a0 l.length c0, .slice none 0 0] 30)
  have Hr := Lib.hid hr1
  have Hbe := Lib.hid hbe
  have HN := Lib.hid hN
  clear hr hr1 hN hbe
  go_enter Try.func35, Try.ntmps35
  go_wp2
  generalize w.alloc (.cells #[.int .u8 99, .bool no, .slice a0 l.length c0, .slice none 0 0] 30) = w1 at *
  have n1 := HN.out.cell 1 rfl
  have n2 := HN.out.cell 2 rfl
  go_loopw [5] (fun i wr => ∃ k : Nat, k ≤ l.length ∧ i = .int .i64 (k : Int) ∧ inSet (l.take k) c = false ∧ wr = w1)
    (fun i _ => l.length - (intOf i).toNat)
  case atStart => exact ⟨0, Nat.zero_le _, rfl, by simp [inSet], rfl⟩
  case round =>
    obtain ⟨k, hk, rfl, hnot, rfl⟩ := hrel
    have Hnot := Lib.hid hnot
    clear hnot
    by_cases hlt : k < l.length
    · obtain ⟨g, c2, e, _, _⟩ := Hr.out.form (by omega)
      simp only [Value.slice.injEq] at e
      obtain ⟨rfl, _, rfl⟩ := e
      obtain ⟨q0, q1⟩ := pairs_get (List.getElem?_eq_getElem hlt)
      have z0 := (own_cell Hr.out q0).1
      have z1 := (own_cell Hr.out q1).1
      clear q0 q1
      have hsucc : inSet (l.take (k + 1)) c = (decide (l[k].1 ≤ c) && decide (c ≤ l[k].2)) := by
        have h := Hnot.out
        unfold inSet at h ⊢
        rw [List.take_succ_eq_append_getElem hlt, List.any_append, h]
        simp
      by_cases h1 : l[k].1 ≤ c
      · by_cases h2 : c ≤ l[k].2
        · have hin : takesN no l c = !no := by
            have hmem : l.any (fun p => decide (p.1 ≤ c) && decide (c ≤ p.2)) = true := List.any_eq_true.2 ⟨l[k], List.getElem_mem _, by simp [h1, h2]⟩
            unfold takesN; rw [if_pos hmem]
          have Hin := Lib.hid hin
          have h1' : ((l[k].1 : Nat) : Int) ≤ c := by omega
          have h2' : (c : Int) ≤ ((l[k].2 : Nat) : Int) := by omega
          clear hin hsucc h1 h2
          go_wp2
          go_ret
          exact ⟨ret_bool Hin.out.symm, Hbe.out⟩
        · have Hs := Lib.hid (show inSet (l.take (k + 1)) c = false by rw [hsucc]; simp [h2])
          have h1' : ((l[k].1 : Nat) : Int) ≤ c := by omega
          have h2' : ¬ (c : Int) ≤ ((l[k].2 : Nat) : Int) := by omega
          clear hsucc h1 h2
          go_wp2
          go_roundw
          case rel => exact ⟨k + 1, by omega, by go_num, Hs.out, trivial⟩
          case measure => simp [intOf]; omega
      · have Hs := Lib.hid (show inSet (l.take (k + 1)) c = false by rw [hsucc]; simp [h1])
        have h1' : ¬ ((l[k].1 : Nat) : Int) ≤ c := by omega
        clear hsucc h1
        go_wp2
        go_roundw
        case rel => exact ⟨k + 1, by omega, by go_num, Hs.out, trivial⟩
        case measure => simp [intOf]; omega
    · obtain rfl : k = l.length := by omega
      have hno : takesN no l c = no := by
        have h := Hnot.out
        rw [List.take_length] at h
        unfold inSet at h
        unfold takesN; rw [h]; rfl
      have Hno := Lib.hid hno
      clear hno
      go_wp2
      go_ret
      exact ⟨ret_bool Hno.out.symm, Hbe.out⟩

end Go.Proofs.Ytnbghiaggapoiaa
