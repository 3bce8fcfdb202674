/- (*Txn).Look: how a transaction stands: its state, a copy of what its keys held. Condition: the object is whole. -/
import Derived.Test.YtbfahkpckhbajaaDoorQTxn
namespace Go.Proofs.YtbfahkpckhbajaaDoor
open Go.RowKit
set_option linter.unusedSimpArgs false
set_option linter.unusedVariables false

/-- slices.Clone of an owned row of ints -/
theorem clone_ints {B : Nat} (w : World) (ov : Value) (xs : List Int) (ho : w.ownsRow B 3 1 ov xs.length (xs.map (Value.int .i64))) (hn : xs.length ≤ 1000000) :
    Calls Tryd.prog 23 #[ov] w fun e w' => ∃ v', e = .returned v' ∧ w'.ownsRow w.heap.size 3 1 v' xs.length (xs.map (Value.int .i64)) ∧ Fr Non w w' := by
  obtain ⟨hl, ⟨rfl, h0⟩ | ⟨g, cap, cur, rfl, hb, hh, h1, h2, h3, h4⟩⟩ := ho
  · have hx : xs = [] := List.eq_nil_of_length_eq_zero h0
    subst hx
    refine (Tryd.slices_Clone_int_nil 0 0 w).mono ?_
    rintro e w' ⟨rfl, rfl⟩
    exact ⟨_, rfl, ⟨rfl, .inl ⟨rfl, rfl⟩⟩, Fr.refl _ _⟩
  · by_cases h0 : xs.length = 0
    · have hx : xs = [] := List.eq_nil_of_length_eq_zero h0
      subst hx
      refine (Tryd.slices_Clone_int_zero ⟨g, 0, none⟩ cap w).mono ?_
      rintro e w' ⟨v', rfl, hr, _, hbw⟩
      exact ⟨v', rfl, hr, Fr.of_below hbw⟩
    · refine (Tryd.slices_Clone_int g 0 xs.length cap xs w (Nat.le_refl _) (by omega) (fun j hj => ?_)).mono ?_
      · rw [Nat.zero_add, cell_of hh]
        have hj2 : j < xs.length * 1 := by omega
        have : (cur.toList.take (xs.length * 1))[j]? = (xs.map (Value.int .i64))[j]? := by rw [h4]
        rw [List.getElem?_take_of_lt hj2] at this
        rw [← Array.getElem?_toList, this]
        simp [List.getD, hj]
      · rintro e w' ⟨v', rfl, hr, _, hbw⟩
        exact ⟨v', rfl, by simpa using hr, Fr.of_below hbw⟩

set_option maxHeartbeats 1000000 in
/-- (*Txn).Look -/
theorem look_any {B : Nat} (w : World) (b pb pc : Nat) (ov : Value) (T : Tx) (hT : IsTx B w b T pb pc ov) :
    Calls Tryd.prog 8 #[.pointer (some ⟨b, 0, none⟩)] w fun e w' => ∃ v', e = .returned (.agg #[.int .i64 T.state, v']) ∧ w'.ownsRow w.heap.size 3 1 v' T.old.length (T.old.map (Value.int .i64)) ∧ Fr Non w w' := by
  have hb := hT.blk
  have c4 : w.cell? ⟨b, 4, none⟩ = some (ov) := cell_of hb 4
  have c10 : w.cell? ⟨b, 10, none⟩ = some (.int .i64 T.state) := cell_of hb 10
  have hlt := lt_of_heap hb
  have hne : b ≠ w.heap.size := by omega
  have HT := Lib.hid hT
  have hol : T.old.length ≤ 1000000 := by have := hT.wf.old.1; have := hT.wf.len.2; omega
  clear hb hT
  go_enter Tryd.func8, Tryd.ntmps8
  go_wp2_with fail
  obtain ⟨W, hW⟩ : ∃ W, W = w.alloc (.cells #[.int .i64 0, .slice none 0 0] 39) := ⟨_, rfl⟩
  have hF0 : Fr Non w W := by rw [hW]; exact (Fr.refl _ _).alloc _
  have hrb0 : W.heap[w.heap.size]? = some (.cells #[.int .i64 0, .slice none 0 0] 39 (0, 0)) := by rw [hW]; exact heap_alloc_new w _
  rw [← hW]
  have k4 : W.cell? ⟨b, 4, none⟩ = some ov := (hF0.cell hlt (fun f => f)).trans c4
  have k10 : W.cell? ⟨b, 10, none⟩ = some (.int .i64 T.state) := (hF0.cell hlt (fun f => f)).trans c10
  have hWl := lt_of_heap hrb0
  have hbW : b < W.heap.size := by omega
  have HRb : Hid (∀ w', Fr Non W w' → w'.heap[w.heap.size]? = some (.cells #[.int .i64 0, .slice none 0 0] 39 (0, 0))) := fun w' hf => hf.blk hrb0 (fun f => f)
  have HF0 := Lib.hid hF0
  have HO := Lib.hid (hF0.own HT.out.old (fun _ _ f => f))
  clear hW hF0 hrb0 c4 c10
  have keep : ∀ w', Fr (Only w.heap.size) W w' → (Fr (Only w.heap.size) W w' ∧ w'.cell? ⟨b, 4, none⟩ = some ov ∧ w'.cell? ⟨b, 10, none⟩ = some (.int .i64 T.state)) :=
    fun w' hf => ⟨hf, (hf.cell hbW hne).trans k4, (hf.cell hbW hne).trans k10⟩
  go_region_held3 (fun w' => Fr (Only w.heap.size) W w' ∧ w'.cell? ⟨b, 4, none⟩ = some ov ∧ w'.cell? ⟨b, 10, none⟩ = some (.int .i64 T.state))
    ((refine keep _ ?_; with_reducible repeat (first | assumption | exact Fr.refl _ _ | apply Fr.drew | apply Fr.setOnly)))
    (first | (go_at_call 23; refine (clone_ints (B := B) _ ov T.old (Fr.own (Fr.refl Non W).drew HO.out (fun _ _ f => f)) hol).mono ?_; rintro e w2 ⟨v', rfl, hr, hf⟩; have hA3 : Fr Non W w2 := Fr.trans (Fr.refl _ _).drew hf; have hA4 : Fr (Only w.heap.size) W w2 := hA3.lift; have hrb := HRb.out _ hA3; have r0 := cell_of hrb 0; have r1 := cell_of hrb 1; have r4 := free_of hrb 0; have r5 := free_of hrb 1; simp only [List.getElem?_toArray, List.getElem?_cons_zero, List.getElem?_cons_succ] at r0 r1; have HB3 := Lib.hid hA3; have Hr := Lib.hid hr; obtain ⟨sa, sc, hsv, _, _⟩ := own_shape hr; subst hsv; clear hf hA3 hrb hr))
  go_wp2_with fail
  refine bodyPost_ret (v := .agg #[.int .i64 T.state, .slice sa T.old.length sc]) (by simp [results, Tryd.results8, go_sem, r0, r1]) rfl ⟨_, rfl, ?_, ?_⟩
  · refine Fr.own (((Fr.refl (Only w.heap.size) w2).setOnly 0 (.int .i64 T.state)).setOnly 1 (.slice sa T.old.length sc)) (own_mono Hr.out (by show w.heap.size ≤ W.heap.size; omega)) (fun k hk e => ?_)
    have h1 := (own_block_lt Hr.out hk).2
    have h2 : W.heap.size ≤ k := h1
    rw [e] at h2; omega
  · exact Fr.then (S := Non) (T := Only w.heap.size) (HF0.out.trans HB3.out) (by with_reducible repeat (first | exact Fr.refl _ _ | refine Fr.setOnly ?_ _ _)) (fun i hi e => absurd hi (by rw [e]; omega))
end Go.Proofs.YtbfahkpckhbajaaDoor
