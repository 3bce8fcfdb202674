/- What the law of transactions needs: its results as data, two transactions side by side. Condition: none. -/
import Derived.Test.YtbfahkpckhbajaaDoorQCmd2
import Derived.Test.YtbfahkpckhbajaaDoorQLook2
import Derived.Test.YtbfahkpckhbajaaDoorQAnswer2
import Derived.Test.YtbfahkpckhbajaaDoorQRans2
import Derived.Test.YtbfahkpckhbajaaDoorQRnew
namespace Go.Proofs.YtbfahkpckhbajaaDoor
open Go.RowKit
set_option linter.unusedSimpArgs false
set_option linter.unusedVariables false

abbrev R4 := Int × ByteArray × Int × Value
def encR (x : R4) : List Value := [.int .i64 x.1, .string x.2.1, .int .i64 x.2.2.1, x.2.2.2]
def flatR (xs : List R4) : List Value := xs.flatMap encR
def noR : R4 := (0, .empty, 0, .slice none 0 0)
theorem flatR_get : ∀ (xs : List R4) (j : Nat), j < xs.length → (flatR xs)[j * 4]? = some (.int .i64 (xs.getD j noR).1) ∧ (flatR xs)[j * 4 + 1]? = some (.string (xs.getD j noR).2.1) ∧ (flatR xs)[j * 4 + 2]? = some (.int .i64 (xs.getD j noR).2.2.1) ∧ (flatR xs)[j * 4 + 3]? = some (xs.getD j noR).2.2.2
  | [], j, h => by simp at h
  | x :: xs, 0, h => by simp [flatR, encR]
  | x :: xs, j + 1, h => by
    have ih := flatR_get xs j (by simpa using h)
    have e1 : (j + 1) * 4 = j * 4 + 1 + 1 + 1 + 1 := by omega
    have e2 : flatR (x :: xs) = .int .i64 x.1 :: .string x.2.1 :: .int .i64 x.2.2.1 :: x.2.2.2 :: flatR xs := rfl
    rw [e2, e1]
    simp only [List.getElem?_cons_succ, show j * 4 + 1 + 1 + 1 + 1 + 1 = j * 4 + 1 + 1 + 1 + 1 + 1 from rfl, show j * 4 + 1 + 1 + 1 + 1 + 2 = j * 4 + 2 + 1 + 1 + 1 + 1 from rfl, show j * 4 + 1 + 1 + 1 + 1 + 3 = j * 4 + 3 + 1 + 1 + 1 + 1 from rfl]
    exact ih
/-- A slice value reads as a list of results. -/
def ResAt (w : World) (v : Value) (xs : List R4) : Prop :=
  ∃ a cap, v = .slice a xs.length cap ∧ (xs ≠ [] → ∃ blk off, a = some ⟨blk, off, none⟩ ∧ blk < w.heap.size ∧ ∀ j u, (flatR xs)[j]? = some u → w.cell? ⟨blk, off + j, none⟩ = some u)
theorem PartsAt.own {B : Nat} {w : World} {v : Value} {xs : List P2} (h : w.ownsRow B 29 2 v xs.length (flatP xs)) : PartsAt w v xs := by
  rcases h.2 with ⟨rfl, h0⟩ | ⟨g, cap, cur, rfl, hb, hh, h2, h3, h4, h5⟩
  · exact ⟨none, 0, by rw [h0], fun hne => absurd (List.eq_nil_of_length_eq_zero h0) hne⟩
  · refine ⟨_, _, rfl, fun hne => ⟨g, 0, rfl, lt_of_heap hh, fun j u hj => ?_⟩⟩
    rw [Nat.zero_add, cell_of hh, ← Array.getElem?_toList]
    rw [← h5] at hj
    rw [List.getElem?_take] at hj
    split at hj
    · exact hj
    · cases hj
theorem PartsAt.fr {w w' : World} {v : Value} {xs : List P2} (h : PartsAt w v xs) (hf : Fr Non w w') : PartsAt w' v xs := by
  obtain ⟨a, cap, hv, h⟩ := h
  refine ⟨a, cap, hv, fun hne => ?_⟩
  obtain ⟨blk, off, ha, hb, hc⟩ := h hne
  exact ⟨blk, off, ha, Nat.lt_of_lt_of_le hb hf.size, fun j u hj => (hf.cell (p := ⟨blk, off + j, none⟩) hb (fun h => h)).trans (hc j u hj)⟩
theorem PartsAt.src {w : World} {v : Value} {xs : List P2} (h : PartsAt w v xs) : (∃ a cap, v = .slice a xs.length cap) ∧ (xs ≠ [] → SrcAt w 2 v xs.length (flatP xs)) := by
  obtain ⟨a, cap, hv, h⟩ := h
  refine ⟨⟨a, cap, hv⟩, fun hne => ?_⟩
  obtain ⟨blk, off, ha, hb, hc⟩ := h hne
  subst ha
  refine ⟨flatP_length xs, .inr ⟨_, _, hv, fun j u hj => ?_⟩⟩
  have hadd : (⟨blk, off, none⟩ : Addr).add j = ⟨blk, off + j, none⟩ := by unfold Addr.add; split <;> simp_all
  rw [hadd]; exact hc j u hj
theorem cell_of_flat {w : World} {b : Nat} {x : P2} {t : TypeId} (h : w.heap[b]? = some (.cells #[.string x.1, .int .i64 x.2] t (0, 0))) {j : Nat} {u : Value} (hj : (flatP [x])[j]? = some u) : w.cell? ⟨b, j, none⟩ = some u := by
  rw [cell_of h]
  have e : flatP [x] = [.string x.1, .int .i64 x.2] := rfl
  rw [e] at hj
  rw [← Array.getElem?_toList]; exact hj
theorem SrcAt.fr {w w' : World} {v : Value} {n : Nat} {ys : List Value} (h : SrcAt w 2 v n ys) (hf : Fr Non w w') : SrcAt w' 2 v n ys := by
  obtain ⟨hl, h⟩ := h
  refine ⟨hl, ?_⟩
  rcases h with h | ⟨ad, c, hv, h⟩
  · exact .inl h
  · refine .inr ⟨ad, c, hv, fun j u hj => ?_⟩
    have h0 := h j u hj
    have hlt : (ad.add j).block < w.heap.size := by
      unfold World.cell? at h0
      split at h0
      · next hh => exact lt_of_heap hh
      · cases h0
    exact (hf.cell hlt (fun h => h)).trans h0
theorem own_free {w : World} {base : Nat} {e : TypeId} {size : Nat} {v : Value} {n : Nat} {xs : List Value} (h : w.ownsRow base e size v n xs) {g m c : Nat} (hv : v = .slice (some ⟨g, 0, none⟩) m c) : ∀ k, w.frozen? ⟨g, k, none⟩ = false := by
  intro k
  rcases h.2 with ⟨h', _⟩ | ⟨g', cap', cur, h', _, hh, _⟩
  · rw [hv] at h'; simp at h'
  · rw [hv] at h'
    simp only [Value.slice.injEq, Option.some.injEq, Addr.mk.injEq] at h'
    rw [h'.1.1]
    exact free_of hh k
theorem Fr.setOwn {v : Value} {a w : World} {g i : Nat} (h : Fr (OwnB v) a w) (hv : v.ownBlock = some g) (u : Value) : Fr (OwnB v) a (w.setCell ⟨g, i, none⟩ u) := h.setCell (fun _ => hv) u
/-- two transactions that lie side by side -/
structure Apart (b1 pb1 : Nat) (ov1 : Value) (b2 pb2 : Nat) (ov2 : Value) : Prop where
  b : b1 ≠ b2
  p : pb1 ≠ b2
  o : ov1.ownBlock ≠ some b2
  p2 : pb2 ≠ b1
  q2 : ov1.ownBlock ≠ some pb2
  o2 : ov2.ownBlock ≠ some b1
  oo : ∀ k, ov1.ownBlock = some k → ov2.ownBlock ≠ some k
theorem Apart.step {b1 pb1 : Nat} {ov1 : Value} {b2 pb2 : Nat} {ov2 ov1' ov2' : Value} (h : Apart b1 pb1 ov1 b2 pb2 ov2) {m n : Nat} (hmn : m ≤ n) (hb1 : b1 < m) (hb2 : b2 < m) (hp2 : pb2 < m) (h2 : ∀ k, ov2.ownBlock = some k → k < m) (h1' : ∀ k, ov1'.ownBlock = some k → k < n)
    (hg1 : ov1'.ownBlock = ov1.ownBlock ∨ ∃ g, ov1'.ownBlock = some g ∧ m ≤ g) (hg2 : ov2'.ownBlock = ov2.ownBlock ∨ ∃ g, ov2'.ownBlock = some g ∧ n ≤ g) : Apart b1 pb1 ov1' b2 pb2 ov2' := by
  refine ⟨h.b, h.p, ?_, h.p2, ?_, ?_, fun k hk => ?_⟩
  · rcases hg1 with e | ⟨g, e, hl⟩
    · rw [e]; exact h.o
    · rw [e]; intro e'; cases e'; omega
  · rcases hg1 with e | ⟨g, e, hl⟩
    · rw [e]; exact h.q2
    · rw [e]; intro e'; cases e'; omega
  · rcases hg2 with e | ⟨g, e, hl⟩
    · rw [e]; exact h.o2
    · rw [e]; intro e'; cases e'; omega
  · rcases hg2 with e | ⟨g, e, hl⟩
    · rw [e]
      rcases hg1 with e1 | ⟨g1, e1, hl1⟩
      · exact h.oo k (e1 ▸ hk)
      · intro e'
        have := h2 k e'
        rw [e1] at hk; cases hk; omega
    · rw [e]
      intro e'; cases e'
      have := h1' k hk
      omega
theorem itoa_one : recordB 1 = ⟨#[116, 49]⟩ := by
  have h : itoaB 1 = ⟨#[49]⟩ := by rw [itoaB_small 1 (by omega) (by omega)]; rfl
  unfold recordB
  rw [h]; rfl
theorem valid_one : ValidP 1 [((⟨#[97]⟩ : ByteArray), (1 : Int))] := by
  refine ⟨by omega, by simp, ?_, by simp⟩
  intro p hp
  rw [List.mem_singleton] at hp
  subst hp
  exact ⟨by decide, by decide, by decide, by decide⟩
theorem next_start (id : Int) (ys : List P2) : (Tx.start id ys).next = ((4, recordB id, openB, 0), true) := by
  unfold Tx.next
  exact if_pos rfl
end Go.Proofs.YtbfahkpckhbajaaDoor
