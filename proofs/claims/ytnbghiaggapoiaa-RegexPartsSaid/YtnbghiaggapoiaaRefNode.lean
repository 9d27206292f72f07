/- The reference: a pattern as a tree of nodes: how it lies in memory, and which pattern of the plain law it is; fail, one. -/
import Derived.Test.YtnbghiaggapoiaaRefText
import Derived.Test.YtnbghiaggapoiaaRegex
namespace Go.Proofs.Ytnbghiaggapoiaa
set_option linter.unusedSimpArgs false
set_option linter.unusedVariables false
open Go.RowKit Go.Proofs
open Rx (NS)

/-- A tree: any byte; a set (turned over, or not); rows; parts; a part as often as its mark says. -/
inductive Nd where
  | any
  | cls (no : Bool) (l : List (Nat × Nat))
  | choice (l : List Nd)
  | row (l : List Nd)
  | rep (op : Nat) (k : Nd)

/-- Whether a set takes a byte. -/
def takesN (no : Bool) (l : List (Nat × Nat)) (c : Nat) : Bool := if l.any (fun p => decide (p.1 ≤ c) && decide (c ≤ p.2)) then !no else no

mutual
/-- Which pattern a tree is. -/
inductive Corr : Nd → Rx.Re → Prop
  | any : Corr .any (.set (Rx.notSet Rx.noSet))
  | cls {no : Bool} {l : List (Nat × Nat)} {f : Rx.BSet} : (∀ c, c < 256 → f c = takesN no l c) → Corr (.cls no l) (.set f)
  | choice {l : List Nd} {r : Rx.Re} : CorrAlt l r → Corr (.choice l) r
  | row {l : List Nd} {r : Rx.Re} : CorrRow l r → Corr (.row l) r
  | star {k : Nd} {r : Rx.Re} : Corr k r → Corr (.rep 42 k) (.star r)
  | plus {k : Nd} {r : Rx.Re} : Corr k r → Corr (.rep 43 k) (.plus r)
  | opt {k : Nd} {r : Rx.Re} : Corr k r → Corr (.rep 63 k) (.opt r)
/-- Rows behind one another. -/
inductive CorrAlt : List Nd → Rx.Re → Prop
  | nil : CorrAlt [] .alt0
  | snoc {l : List Nd} {p : Rx.Re} {k : Nd} {r : Rx.Re} : CorrAlt l p → Corr k r → CorrAlt (l ++ [k]) (.alt p r)
/-- Parts behind one another. -/
inductive CorrRow : List Nd → Rx.Re → Prop
  | one {k : Nd} {r : Rx.Re} : Corr k r → CorrRow [k] r
  | snoc {l : List Nd} {p : Rx.Re} {k : Nd} {r : Rx.Re} : CorrRow l p → Corr k r → CorrRow (l ++ [k]) (.cat p r)
end

/-- A node's cells. -/
structure NC where
  op : Nat
  no : Bool
  sa : Option Addr
  sn : Nat
  sc : Nat
  ka : Option Addr
  kn : Nat
  kc : Nat
def NC.cells (n : NC) : List Value := [.int .u8 n.op, .bool n.no, .slice n.sa n.sn n.sc, .slice n.ka n.kn n.kc]
def NC.val (n : NC) : Value := .agg #[.int .u8 n.op, .bool n.no, .slice n.sa n.sn n.sc, .slice n.ka n.kn n.kc]

def pairs (l : List (Nat × Nat)) : List Value := l.flatMap fun p => [.int .u8 p.1, .int .u8 p.2]

/-- Which trees have kids, and under which mark. -/
inductive HasKids : Nat → List Nd → Nd → Prop
  | choice (l : List Nd) : HasKids 124 l (.choice l)
  | row (l : List Nd) : HasKids 38 l (.row l)
  | rep (op : Nat) (k : Nd) : HasKids op [k] (.rep op k)

mutual
/-- A node lies in memory: F, the blocks of its slices. -/
inductive NRep (w : World) : NC → Nd → List Nat → Prop
  | any : NRep w ⟨46, false, none, 0, 0, none, 0, 0⟩ .any []
  | cls {no : Bool} {l : List (Nat × Nat)} {a : Option Addr} {n c : Nat} : w.ownsRow 0 83 2 (.slice a n c) l.length (pairs l) → NRep w ⟨99, no, a, n, c, none, 0, 0⟩ (.cls no l) (Value.slice a n c).ownBlock.toList
  | kids {op : Nat} {l : List Nd} {nd : Nd} {a : Option Addr} {n c : Nat} {ncs : List NC} {G : List Nat} : HasKids op l nd → w.ownsRow 0 30 4 (.slice a n c) ncs.length (ncs.flatMap NC.cells) → LRep w ncs l G →
      NRep w ⟨op, false, none, 0, 0, a, n, c⟩ nd ((Value.slice a n c).ownBlock.toList ++ G)
inductive LRep (w : World) : List NC → List Nd → List Nat → Prop
  | nil : LRep w [] [] []
  | snoc {ncs : List NC} {l : List Nd} {F G : List Nat} {nc : NC} {x : Nd} : LRep w ncs l F → NRep w nc x G → LRep w (ncs ++ [nc]) (l ++ [x]) (F ++ G)
end

mutual
theorem NRep.kept {w w' : World} : ∀ {nc : NC} {nd : Nd} {F : List Nat}, NRep w nc nd F → (∀ k ∈ F, w'.heap[k]? = w.heap[k]?) → NRep w' nc nd F
  | _, _, _, .any, _ => .any
  | _, _, _, .cls h, hk => .cls (ownsRow_eq h (fun k e => hk k (mem_opt.2 e)))
  | _, _, _, .kids h1 h2 h3, hk => .kids h1 (ownsRow_eq h2 (fun k e => hk k (List.mem_append.2 (.inl (mem_opt.2 e))))) (h3.kept (fun k h => hk k (List.mem_append.2 (.inr h))))
theorem LRep.kept {w w' : World} : ∀ {ncs : List NC} {l : List Nd} {F : List Nat}, LRep w ncs l F → (∀ k ∈ F, w'.heap[k]? = w.heap[k]?) → LRep w' ncs l F
  | _, _, _, .nil, _ => .nil
  | _, _, _, .snoc h1 h2, hk => .snoc (h1.kept (fun k h => hk k (List.mem_append.2 (.inl h)))) (h2.kept (fun k h => hk k (List.mem_append.2 (.inr h))))
end

theorem LRep.length {w : World} : ∀ {ncs : List NC} {l : List Nd} {F : List Nat}, LRep w ncs l F → ncs.length = l.length
  | _, _, _, .nil => rfl
  | _, _, _, .snoc h1 _ => by simp [h1.length]

/-- The reference's reader. -/
def Pt (w : World) (p : Nat) (s : ByteArray) (i d bad pos : Nat) : Prop := Blk w p [.string s, .int .i64 (i : Int), .int .i64 (d : Int), .int .i64 (bad : Int), .int .i64 (pos : Int)] 56

theorem reffail_any (w : World) (p : Nat) (s : ByteArray) (i d : Nat) (pos e a : Nat) (h : Pt w p s i d 0 pos) :
    Calls Try.prog 22 #[.pointer (some ⟨p, 0, none⟩), .int .i64 (e : Int), .int .i64 (a : Int)] w fun en w' => en = .returned (.tuple #[]) ∧ Pt w' p s i d e a ∧ Mod (fun k => k = p) w w' := by
  have c3 := Blk.cell h 3 rfl
  have c4 := Blk.cell h 4 rfl
  have f3 := Blk.free h 3
  have f4 := Blk.free h 4
  have H := Lib.hid h
  clear h
  go_enter Try.func22, Try.ntmps22
  go_wp2
  go_end0
  exact ⟨rfl, (H.out.set 3 (.int .i64 (e : Int))).set 4 (.int .i64 (a : Int)), ((Mod.refl (fun k => k = p) w).setCell (p := ⟨p, 3, none⟩) (fun _ => rfl) _).setCell (p := ⟨p, 4, none⟩) (fun _ => rfl) _⟩

set_option maxHeartbeats 1000000 in
theorem refone_any (w : World) (c : Nat) : Calls Try.prog 50 #[.int .u8 (c : Int)] w fun e w' => ∃ nc F, e = .returned nc.val ∧ NRep w' nc (.cls false [(c, c)]) F ∧ F.Nodup ∧ (∀ k ∈ F, w.heap.size ≤ k ∧ k < w'.heap.size) ∧ Below w.heap.size w w' := by
  go_enter Try.func50, Try.ntmps50
  go_wp2
  have hb := (Blk.new w [.int .u8 99, .bool false, .slice (some ⟨w.heap.size + 1, 0, none⟩) 1 1, .slice none 0 0] 30).alloc (.cells #[.int .u8 (c : Int), .int .u8 (c : Int)] 83)
  refine bodyPost_ret (results_cell_row rfl _ _ w.heap.size 30 _ _ _ rfl hb Try.underlying30 rfl (by kernel_rfl)) rfl ?_
  refine ⟨⟨99, false, some ⟨w.heap.size + 1, 0, none⟩, 1, 1, none, 0, 0⟩, [w.heap.size + 1], rfl, ?_, by simp, by simp, ((Below.refl _ w).alloc (Nat.le_refl _) _).alloc (by simp) _⟩
  refine .cls (a := some ⟨w.heap.size + 1, 0, none⟩) (n := 1) (c := 1) ⟨rfl, .inr ⟨w.heap.size + 1, 1, #[.int .u8 (c : Int), .int .u8 (c : Int)], rfl, Nat.zero_le _, ?_, Nat.le_refl _, by unfold maxLen; omega, rfl, rfl⟩⟩
  exact heap_alloc_at (by simp)

end Go.Proofs.Ytnbghiaggapoiaa
