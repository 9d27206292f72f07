/- The reference's reader: a tree under a mark; the order of the trees. -/
import Derived.Test.YtnbghiaggapoiaaRefGrow
import Derived.Test.YtnbghiaggapoiaaRowsR
namespace Go.Proofs.Ytnbghiaggapoiaa
set_option linter.unusedSimpArgs false
set_option linter.unusedVariables false
open Go.RowKit Go.Proofs
open Rx (NS Got)

theorem At.swapT {w W : World} {p : Nat} {s : ByteArray} {i d bad pos : Nat} {bs : List (Nat × List Value)} {x y : Tr} {ts : List Tr} (h : At w W p s i d bad pos bs (x :: y :: ts)) : At w W p s i d bad pos bs (y :: x :: ts) := by
  refine ⟨h.plt, h.mod, h.pt, h.blk, h.bnd, fun z hz => h.tree z ?_, fun k hk => h.new k ?_, ?_⟩
  · simp only [List.mem_cons] at hz ⊢
    rcases hz with h1 | h1 | h1 <;> simp [h1]
  · simp only [List.flatMap_cons, List.mem_append] at hk ⊢
    rcases hk with h1 | h1 | h1 <;> simp [h1]
  · have := h.tnd
    simp only [List.flatMap_cons] at this ⊢
    obtain ⟨h1, h2, h3⟩ := List.nodup_append.1 this
    obtain ⟨h4, h5, h6⟩ := List.nodup_append.1 h2
    refine List.nodup_append.2 ⟨h4, List.nodup_append.2 ⟨h1, h5, fun a ha b hb => h3 a ha b (List.mem_append.2 (.inr hb))⟩, fun a ha b hb e => ?_⟩
    rcases List.mem_append.1 hb with hb | hb
    · exact h3 b hb a (List.mem_append.2 (.inl ha)) e.symm
    · exact h6 a ha b hb e

theorem At.wrap {w W : World} {p : Nat} {s : ByteArray} {i d bad pos op : Nat} {bs : List (Nat × List Value)} {nc : NC} {nd nd' : Nd} {F : List Nat} {ts : List Tr} (h : At w W p s i d bad pos bs ((nc, nd, F) :: ts)) (hk : HasKids op [nd] nd') :
    At w (W.alloc (.cells nc.cells.toArray 30)) p s i d bad pos bs ((⟨op, false, none, 0, 0, some ⟨W.heap.size, 0, none⟩, 1, 1⟩, nd', W.heap.size :: F) :: ts) := by
  have hF : ∀ k ∈ F, w.heap.size ≤ k ∧ k < W.heap.size := fun k hk => by
    have := h.new k (by rw [List.flatMap_cons]; exact List.mem_append.2 (.inl hk))
    exact ⟨this.1, this.2.1⟩
  have hd : F.Nodup := by
    have := h.tnd
    rw [List.flatMap_cons] at this
    exact (List.nodup_append.1 this).1
  refine At.regrow (ts0 := [(nc, nd, F)]) (ts := ts) h (.cells nc.cells.toArray 30) (row := none) ⟨rfl, rfl, rfl, Nat.le_refl _, fun _ _ _ => rfl⟩ (fun k e => by cases e)
    (t := (⟨op, false, none, 0, 0, some ⟨W.heap.size, 0, none⟩, 1, 1⟩, nd', W.heap.size :: F)) ?_ (fun k hk => ?_) ?_
  · have hx : NRep (W.alloc (.cells nc.cells.toArray 30)) nc nd F := (h.tree (nc, nd, F) (by simp)).kept (fun k hk => Below.heap_alloc W _ k (hF k hk).2)
    have hr : (W.alloc (.cells nc.cells.toArray 30)).ownsRow 0 30 4 (.slice (some ⟨W.heap.size, 0, none⟩) 1 1) [nc].length ([nc].flatMap NC.cells) := by
      refine ⟨by simp [NC.cells], .inr ⟨W.heap.size, 1, nc.cells.toArray, rfl, Nat.zero_le _, heap_alloc_new W _, by simp, by unfold maxLen; omega, by simp [NC.cells], by simp [NC.cells]⟩⟩
    exact NRep.kids hk hr (.snoc (ncs := []) (l := []) (F := []) .nil hx)
  · rcases List.mem_cons.1 hk with rfl | hk
    · exact ⟨.inr (Nat.le_refl _), by simp⟩
    · exact ⟨.inl (by simpa using hk), by have := (hF k hk).2; simp; omega⟩
  · exact List.nodup_cons.2 ⟨fun hm => by have := (hF _ hm).2; omega, hd⟩

/-- Which mark it is. -/
theorem mark_corr {s : ByteArray} {j : Nat} {nd : Nd} {r : Rx.Re} (h : Rx.mark (tx s) j = true) (hc : Corr nd r) : ∃ hj : j < s.size, Corr (.rep s[j].toNat nd) (Rx.marked (tx s) r j) ∧ (s[j].toNat = 42 ∨ s[j].toNat = 43 ∨ s[j].toNat = 63) := by
  have hx : ∀ c, Rx.has (tx s) c j = true → ∃ h : j < s.size, s[j].toNat = c := fun c h => by
    simp only [Rx.has, Bool.and_eq_true, decide_eq_true_iff] at h
    have hj : j < s.size := by simpa using h.1
    exact ⟨hj, by rw [← bt_get s j hj]; exact h.2⟩
  unfold Rx.mark at h
  unfold Rx.marked
  cases h42 : Rx.has (tx s) 42 j with
  | true =>
    obtain ⟨hj, e⟩ := hx _ h42
    exact ⟨hj, by rw [e]; exact .star hc, .inl e⟩
  | false =>
    cases h43 : Rx.has (tx s) 43 j with
    | true =>
      obtain ⟨hj, e⟩ := hx _ h43
      exact ⟨hj, by rw [e]; exact .plus hc, .inr (.inl e)⟩
    | false =>
      rw [h42, h43] at h
      obtain ⟨hj, e⟩ := hx _ h
      exact ⟨hj, by rw [e]; exact .opt hc, .inr (.inr e)⟩

end Go.Proofs.Ytnbghiaggapoiaa
