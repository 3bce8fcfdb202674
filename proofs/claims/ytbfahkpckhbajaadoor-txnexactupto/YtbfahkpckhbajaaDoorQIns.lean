/- Plain law: parts put in one by one, each at its place, are the parts sorted; a rising list of the same parts is the same list. No condition. -/
import Derived.Test.YtbfahkpckhbajaaDoorQNew
namespace Go.Proofs.YtbfahkpckhbajaaDoor
open Go.RowKit
set_option linter.unusedVariables false

def ltP (a b : P2) : Prop := ltK a.1 b.1 = true
theorem rising_iff (ys : List P2) : Rising ys ↔ ys.Pairwise ltP := by
  rw [List.pairwise_iff_getElem]
  have g : ∀ i (h : i < ys.length), ys.getD i (.empty, 0) = ys[i] := fun i h => by simp [List.getD, h]
  constructor
  · intro h i j hi hj hij
    have := h i j hij hj
    rw [g i hi, g j hj] at this
    exact this
  · intro h i j hij hj
    rw [g i (by omega), g j hj]
    exact h i j (by omega) hj hij
theorem rising_unique {xs ys zs : List P2} (h1 : ys.Perm xs) (h2 : zs.Perm xs) (r1 : Rising ys) (r2 : Rising zs) : ys = zs := by
  rw [rising_iff] at r1 r2
  refine List.Perm.eq_of_pairwise (le := ltP) ?_ r1 r2 (h1.trans h2.symm)
  intro a b _ _ hab hba
  have h3 : ltK a.1 b.1 = true := hab
  have h4 : ltK b.1 a.1 = true := hba
  rw [ltK_asymm h3] at h4; cases h4
theorem rising_ins {l : List P2} {p : P2} {k : Nat} (hr : Rising l) (hk : k ≤ l.length) (h1 : ∀ j, j < k → ltK (l.getD j (.empty, 0)).1 p.1 = true) (h2 : k < l.length → ltK (l.getD k (.empty, 0)).1 p.1 = false ∧ (l.getD k (.empty, 0)).1 ≠ p.1) :
    Rising (l.take k ++ p :: l.drop k) := by
  have hr' := (rising_iff l).1 hr
  rw [rising_iff]
  have hd : ∀ b ∈ l.drop k, ltP p b := by
    intro b hb
    obtain ⟨j, hj, rfl⟩ := List.getElem_of_mem hb
    have hjl : k + j < l.length := by simp at hj; omega
    have hkl : k < l.length := by omega
    obtain ⟨h3, h4⟩ := h2 hkl
    have e0 : l.getD k (.empty, 0) = l[k] := by simp [List.getD, hkl]
    rw [e0] at h3 h4
    have hpk : ltP p l[k] := by
      cases h : ltK p.1 (l[k]).1 with
      | true => exact h
      | false => exact absurd (ltK_tri h3 h) h4
    rw [List.getElem_drop]
    by_cases hj0 : j = 0
    · subst hj0; exact hpk
    · have := List.pairwise_iff_getElem.1 hr' k (k + j) hkl hjl (by omega)
      exact ltK_trans hpk this
  have ht : ∀ a ∈ l.take k, ltP a p := by
    intro a ha
    obtain ⟨j, hj, rfl⟩ := List.getElem_of_mem ha
    have hjk : j < k := by simp at hj; omega
    have := h1 j hjk
    have e0 : l.getD j (.empty, 0) = l[j]'(by omega) := by simp [List.getD, show j < l.length by omega]
    rw [e0] at this
    rw [List.getElem_take]
    exact this
  rw [List.pairwise_append]
  refine ⟨hr'.sublist (List.take_sublist _ _), List.pairwise_cons.2 ⟨hd, hr'.sublist (List.drop_sublist _ _)⟩, fun a ha b hb => ?_⟩
  rcases List.mem_cons.1 hb with rfl | hb
  · exact ht a ha
  · exact ltK_trans (ht a ha) (hd b hb)

/-- what the first i parts have become -/
structure Ins (xs : List P2) (i : Nat) (l : List P2) : Prop where
  perm : l.Perm (xs.take i)
  ris : Rising l
  ok : ∀ p, p ∈ l → OkP p
  len : l.length = i
theorem Ins.start (xs : List P2) : Ins xs 0 [] := ⟨by simp, fun i j _ h => by simp at h, fun p h => by simp at h, rfl⟩
theorem Ins.step {xs l : List P2} {i k : Nat} {p : P2} (h : Ins xs i l) (hi : i < xs.length) (hp : xs.getD i (.empty, 0) = p) (ho : OkP p) (hk : k ≤ l.length) (h1 : ∀ j, j < k → ltK (l.getD j (.empty, 0)).1 p.1 = true)
    (h2 : k < l.length → ltK (l.getD k (.empty, 0)).1 p.1 = false ∧ (l.getD k (.empty, 0)).1 ≠ p.1) : Ins xs (i + 1) (l.take k ++ p :: l.drop k) := by
  have e0 : xs[i] = p := by rw [← hp]; simp [List.getD, hi]
  refine ⟨?_, rising_ins h.ris hk h1 h2, fun q hq => ?_, by simp [h.len]; have := h.len; omega⟩
  · rw [List.take_succ_eq_append_getElem hi, e0]
    refine List.perm_middle.trans ?_
    rw [List.take_append_drop]
    refine (List.Perm.cons p h.perm).trans ?_
    exact (List.perm_append_singleton p _).symm
  · rw [List.mem_append, List.mem_cons] at hq
    rcases hq with hq | rfl | hq
    · exact h.ok q (List.mem_of_mem_take hq)
    · exact ho
    · exact h.ok q (List.mem_of_mem_drop hq)
theorem Ins.all {xs l : List P2} (h : Ins xs xs.length l) : l.Perm xs := by
  have := h.perm
  rwa [List.take_length] at this
theorem Ins.valid {xs l : List P2} {id : Int} (h : Ins xs xs.length l) (hid : 1 ≤ id ∧ id ≤ 999) (hl : 1 ≤ xs.length ∧ xs.length ≤ 4) : ValidP id xs :=
  ⟨hid, hl, fun p hp => h.ok p (h.all.mem_iff.2 hp), (h.all.map (·.1)).nodup_iff.1 (rising_nodup h.ris)⟩
theorem Ins.twice {xs l : List P2} {id : Int} {i k : Nat} (h : Ins xs i l) (hi : i < xs.length) (hk : k < l.length) (he : (l.getD k (.empty, 0)).1 = (xs.getD i (.empty, 0)).1) : ¬ ValidP id xs := by
  intro hv
  have hm : l.getD k (.empty, 0) ∈ xs.take i := h.perm.mem_iff.1 (getD_mem hk)
  obtain ⟨j, hj, e⟩ := List.getElem_of_mem hm
  have hji : j < i := by simp at hj; omega
  rw [List.getElem_take] at e
  have hn := hv.2.2.2
  rw [List.nodup_iff_pairwise_ne, List.pairwise_iff_getElem] at hn
  refine hn j i (by simp; omega) (by simpa using hi) hji ?_
  rw [List.getElem_map, List.getElem_map, e, he]
  simp [List.getD, hi]
theorem Ins.bad {xs : List P2} {id : Int} {i : Nat} (hi : i < xs.length) (h : ¬ OkP (xs.getD i (.empty, 0))) : ¬ ValidP id xs :=
  fun hv => h (hv.2.2.1 _ (getD_mem hi))
end Go.Proofs.YtbfahkpckhbajaaDoor
