/- txn.New: a transaction of parts, or an error. Condition: at most 1,000 parts. -/
import Derived.Test.YtbfahkpckhbajaaDoorQSort
namespace Go.Proofs.YtbfahkpckhbajaaDoor
open Go.RowKit
set_option linter.unusedSimpArgs false
set_option linter.unusedVariables false

def OkP (p : P2) : Prop := p.1.size ≠ 0 ∧ p.1.size ≤ 15 ∧ -999999999 ≤ p.2 ∧ p.2 ≤ 999999999
def ValidP (id : Int) (xs : List P2) : Prop := (1 ≤ id ∧ id ≤ 999) ∧ (1 ≤ xs.length ∧ xs.length ≤ 4) ∧ (∀ p, p ∈ xs → OkP p) ∧ (xs.map (·.1)).Nodup
def Rising (ys : List P2) : Prop := ∀ i j, i < j → j < ys.length → ltK (ys.getD i (.empty, 0)).1 (ys.getD j (.empty, 0)).1 = true
def Tx.start (id : Int) (ys : List P2) : Tx := { id := id, parts := ys, phase := 0, at_ := 0, old := [], num := 0, hol := 0, nxt := 0, version := 0, will := false, state := 1 }
def NewPost (B : Nat) (w : World) (id : Int) (xs : List P2) (e : Ending) (w' : World) : Prop :=
  Fr Non w w' ∧ ((ValidP id xs ∧ ∃ b pb pc ys, e = .returned (.tuple #[.pointer (some ⟨b, 0, none⟩), .int .i64 0]) ∧ ys.Perm xs ∧ Rising ys ∧ w.heap.size ≤ b ∧ w.heap.size ≤ pb ∧
      IsTx B w' b (Tx.start id ys) pb pc (.slice none 0 0)) ∨ (¬ ValidP id xs ∧ e = .returned (.tuple #[.pointer none, .int .i64 22])))

/-- what the loop has found of the first k parts -/
def Checked (ys : List P2) (k : Nat) : Prop := ∀ i, i < k → OkP (ys.getD i (.empty, 0)) ∧ (0 < i → (ys.getD (i - 1) (.empty, 0)).1 ≠ (ys.getD i (.empty, 0)).1)
theorem getD_mem {ys : List P2} {i : Nat} (h : i < ys.length) : ys.getD i (.empty, 0) ∈ ys := by
  rw [List.getD_eq_getElem?_getD, List.getElem?_eq_getElem h]; exact List.getElem_mem _
theorem checked_rising {ys : List P2} (hs : ∀ i j, i < j → j < ys.length → ltK (ys.getD j (.empty, 0)).1 (ys.getD i (.empty, 0)).1 = false) (hc : Checked ys ys.length) : Rising ys := by
  have step : ∀ i, i + 1 < ys.length → ltK (ys.getD i (.empty, 0)).1 (ys.getD (i + 1) (.empty, 0)).1 = true := fun i hi => by
    have h1 := hs i (i + 1) (by omega) hi
    have h2 := (hc (i + 1) hi).2 (by omega)
    cases h : ltK (ys.getD i (.empty, 0)).1 (ys.getD (i + 1) (.empty, 0)).1 with
    | true => rfl
    | false => exact absurd (ltK_tri h h1) h2
  intro i j hij hj
  induction j with
  | zero => omega
  | succ j ih =>
    by_cases e : i = j
    · subst e; exact step i hj
    · exact ltK_trans (ih (by omega) (by omega)) (step j hj)
theorem rising_nodup {ys : List P2} (h : Rising ys) : (ys.map (·.1)).Nodup := by
  rw [List.nodup_iff_pairwise_ne, List.pairwise_iff_getElem]
  intro i j hi hj hij e
  have hi' : i < ys.length := by simpa using hi
  have hj' : j < ys.length := by simpa using hj
  have := h i j hij hj'
  have e1 : (ys.getD i (.empty, 0)).1 = (ys.map (·.1))[i] := by simp [List.getD, hi']
  have e2 : (ys.getD j (.empty, 0)).1 = (ys.map (·.1))[j] := by simp [List.getD, hj']
  rw [e1, e2, e, ltK_irrefl] at this
  cases this
theorem valid_of {id : Int} {xs ys : List P2} (hid : 1 ≤ id ∧ id ≤ 999) (hl : 1 ≤ xs.length ∧ xs.length ≤ 4) (hp : ys.Perm xs) (hc : Checked ys ys.length) (hr : Rising ys) : ValidP id xs := by
  refine ⟨hid, hl, fun p hm => ?_, ?_⟩
  · have hm' : p ∈ ys := hp.mem_iff.2 hm
    obtain ⟨i, hi, rfl⟩ := List.getElem_of_mem hm'
    have := (hc i hi).1
    simpa [List.getD, hi] using this
  · exact (hp.map (·.1)).nodup_iff.1 (rising_nodup hr)
theorem not_valid_ok {id : Int} {xs ys : List P2} {k : Nat} (hp : ys.Perm xs) (hk : k < ys.length) (h : ¬ OkP (ys.getD k (.empty, 0))) : ¬ ValidP id xs :=
  fun hv => h (hv.2.2.1 _ (hp.mem_iff.1 (getD_mem hk)))
theorem not_valid_twice {id : Int} {xs ys : List P2} {k : Nat} (hp : ys.Perm xs) (hk : k < ys.length) (h0 : 0 < k) (h : (ys.getD (k - 1) (.empty, 0)).1 = (ys.getD k (.empty, 0)).1) : ¬ ValidP id xs := by
  intro hv
  have hn := (hp.map (·.1)).nodup_iff.2 hv.2.2.2
  rw [List.nodup_iff_pairwise_ne, List.pairwise_iff_getElem] at hn
  refine hn (k - 1) k (by simp; omega) (by simpa using hk) (by omega) ?_
  have h1 : k - 1 < ys.length := by omega
  have e1 : (ys.getD (k - 1) (.empty, 0)).1 = (ys.map (·.1))[k - 1]'(by simpa using h1) := by simp [List.getD, h1]
  have e2 : (ys.getD k (.empty, 0)).1 = (ys.map (·.1))[k]'(by simpa using hk) := by simp [List.getD, hk]
  rw [← e1, ← e2]; exact h
theorem start_wf {id : Int} {xs ys : List P2} (hv : ValidP id xs) (hp : ys.Perm xs) : (Tx.start id ys).Wf := by
  have hl := hp.length_eq
  refine ⟨hv.1, ?_, ?_, ?_, by simp [Tx.start], by simp [Tx.start], by simp [Tx.start], by simp [Tx.start], by simp [Tx.start], by simp [Tx.start]⟩
  · show 1 ≤ ys.length ∧ ys.length ≤ 4
    have := hv.2.1; omega
  · show 0 < ys.length
    have := hv.2.1; omega
  · intro p hm
    have h := hv.2.2.1 p (hp.mem_iff.1 hm)
    exact ⟨h.2.1, h.2.2.1, h.2.2.2⟩


set_option maxRecDepth 100000 in
set_option maxHeartbeats 1000000 in
/-- ids and numbers of parts that may not be -/
theorem new_range {B : Nat} (w : World) (id : Int) (v : Value) (xs : List P2) (hv : PartsAt w v xs) (hn : xs.length ≤ 1000000) (h : ¬ ((1 ≤ id ∧ id ≤ 999) ∧ (1 ≤ xs.length ∧ xs.length ≤ 4))) :
    Calls Tryd.prog 4 #[.int .i64 id, v] w (NewPost B w id xs) := by
  have hnv : Hid (¬ ValidP id xs) := fun hv => h ⟨hv.1, hv.2.1⟩
  obtain ⟨a, cap, rfl, _⟩ := hv
  by_cases h1 : id < 1
  · clear h
    go_enter Tryd.func4, Tryd.ntmps4
    go_wp2
    go_ret2
    exact ⟨Fr.refl _ _, .inr ⟨hnv.out, rfl⟩⟩
  by_cases h2 : 999 < id
  · clear h
    go_enter Tryd.func4, Tryd.ntmps4
    go_wp2
    go_ret2
    exact ⟨Fr.refl _ _, .inr ⟨hnv.out, rfl⟩⟩
  by_cases h3 : ((xs.length : Nat) : Int) < 1
  · clear h
    go_enter Tryd.func4, Tryd.ntmps4
    go_wp2
    go_ret2
    exact ⟨Fr.refl _ _, .inr ⟨hnv.out, rfl⟩⟩
  · have h4 : (4 : Int) < ((xs.length : Nat) : Int) := by
      apply Classical.byContradiction; intro h4; exact h ⟨⟨by omega, by omega⟩, by omega, by omega⟩
    clear h
    go_enter Tryd.func4, Tryd.ntmps4
    go_wp2
    go_ret2
    exact ⟨Fr.refl _ _, .inr ⟨hnv.out, rfl⟩⟩

set_option maxRecDepth 100000 in
set_option maxHeartbeats 4000000 in
theorem new_any {B : Nat} (w : World) (id : Int) (v : Value) (xs : List P2) (hv : PartsAt w v xs) (hn : xs.length ≤ 1000000) (hB : B ≤ w.heap.size) :
    Calls Tryd.prog 4 #[.int .i64 id, v] w (NewPost B w id xs) := by
  by_cases h : (1 ≤ id ∧ id ≤ 999) ∧ (1 ≤ xs.length ∧ xs.length ≤ 4)
  case neg => exact new_range w id v xs hv hn h
  obtain ⟨⟨h1, h2⟩, h3, h4⟩ := h
  have hne : xs ≠ [] := fun e => by subst e; simp at h3
  have Hv := Lib.hid hv
  obtain ⟨a, cap, rfl, _⟩ := hv
  have h3' : ¬ ((xs.length : Nat) : Int) < 1 := by omega
  have h4' : ¬ (4 : Int) < ((xs.length : Nat) : Int) := by omega
  go_enter Tryd.func4, Tryd.ntmps4
  go_wp2_with fail
  refine (cloneP_any w _ xs Hv.out hne (by omega)).mono ?_
  rintro e w1 ⟨blk, cap1, cs, rfl, hbl, hb1, hc1, hf1⟩
  have HF1 := Lib.hid hf1
  have HB1 := Lib.hid hb1
  have HC1 := Lib.hid hc1
  clear hf1 hb1 hc1
  go_wp2_with fail
  refine (sort_any w1 blk cap1 cs xs HB1.out HC1.out (by omega)).mono ?_
  rintro e w2 ⟨rfl, ys, hp, hs, hc2, hf2⟩
  have hyl : ys.length = xs.length := hp.length_eq
  have HF2 : Hid (Fr Non w w2) := HF1.out.then hf2 (fun i hi e => absurd hi (by rw [e]; omega))
  have hw2 : blk < w2.heap.size := Nat.lt_of_lt_of_le (lt_of_heap HB1.out) hf2.size
  have HC2 : Hid (∀ w', Fr Non w2 w' → ∀ j, j < ys.length → w'.cell? ⟨blk, j * 2, none⟩ = some (.string (ys.getD j (.empty, 0)).1) ∧ w'.cell? ⟨blk, j * 2 + 1, none⟩ = some (.int .i64 (ys.getD j (.empty, 0)).2)) := fun w' hf j hj =>
    ⟨(hf.cell (p := ⟨blk, j * 2, none⟩) hw2 (fun f => f)).trans (hc2 _ _ (flatP_get ys j hj).1), (hf.cell (p := ⟨blk, j * 2 + 1, none⟩) hw2 (fun f => f)).trans (hc2 _ _ (flatP_get ys j hj).2)⟩
  have HP := Lib.hid hp
  have HS := Lib.hid hs
  have Hyl := Lib.hid hyl
  clear hp hs hc2 hf2 hyl
  go_wp2_with fail
  go_loopw [31] (fun v31 wr => ∃ k : Nat, k ≤ xs.length ∧ v31 = .int .i64 k ∧ Fr Non w2 wr ∧ Hid (Checked ys k)) (fun v31 _ => xs.length - (intOf v31).toNat)
  case atStart => exact ⟨0, Nat.zero_le _, rfl, Fr.refl _ _, fun i hi => absurd hi (by omega)⟩
  case round =>
    obtain ⟨k, hk, rfl, hfr, hch⟩ := hrel
    have hk0 : (0 : Int) ≤ ((k : Nat) : Int) := by omega
    by_cases hlt : k < xs.length
    · have hlt' : ((k : Nat) : Int) < ((xs.length : Nat) : Int) := by omega
      have Hc := Lib.hid (HC2.out wr hfr k (by rw [Hyl.out]; exact hlt))
      have q0 : wr.cell? ⟨blk, k * 2, none⟩ = some (.string (ys.getD k (.empty, 0)).1) := Hc.out.1
      have q1 : wr.cell? ⟨blk, k * 2 + 1, none⟩ = some (.int .i64 (ys.getD k (.empty, 0)).2) := Hc.out.2
      generalize hx : ys.getD k (.empty, 0) = x at q0 q1
      have Hx := Lib.hid hx
      have hbr : blk < wr.heap.size := Nat.lt_of_lt_of_le hw2 hfr.size
      have Hfr := Lib.hid hfr
      clear hx hfr Hc
      have Hk : Hid (k = 0 ∨ (0 < k ∧ wr.cell? ⟨blk, (k - 1) * 2, none⟩ = some (.string (ys.getD (k - 1) (.empty, 0)).1))) := by
        by_cases e : k = 0
        · exact .inl e
        · exact .inr ⟨by omega, (HC2.out wr Hfr.out (k - 1) (by rw [Hyl.out]; omega)).1⟩
      have x0 : (wr.alloc (.cells #[.string x.1, .int .i64 x.2] 29)).cell? ⟨wr.heap.size, 0, none⟩ = some (.string x.1) := cell_of (heap_alloc_new wr _) 0
      have x1 : (wr.alloc (.cells #[.string x.1, .int .i64 x.2] 29)).cell? ⟨wr.heap.size, 1, none⟩ = some (.int .i64 x.2) := cell_of (heap_alloc_new wr _) 1
      obtain ⟨xk, xa⟩ := x
      simp only at *
      by_cases t1 : xk.size = 0
      · have e1 : xk.toList.isEmpty = true := by rw [ByteArray.toList_eq]; have t1b : xk.data.size = 0 := t1; rw [List.isEmpty_iff]; exact List.eq_nil_of_length_eq_zero (by simpa using t1b)
        have e2 : xk.toList = [] := by simpa using e1
        · have HH := Lib.hid t1
          clear t1
          have hnv : Hid (¬ ValidP id xs) := not_valid_ok HP.out (by rw [Hyl.out]; exact hlt) (by rw [Hx.out]; exact fun h => h.1 HH.out)
          go_wp2_with fail
          go_quiet (fail)
          go_wp2_with fail
          go_ret2
          exact ⟨HF2.out.trans (Hfr.out.trans (by with_reducible repeat (first | exact Fr.refl _ _ | assumption | refine Fr.drew ?_ | refine Fr.drewN ?_ _ | refine Fr.alloc ?_ _))), .inr ⟨hnv.out, rfl⟩⟩
      · have e1 : xk.toList.isEmpty = false := by rw [ByteArray.toList_eq]; rw [Bool.eq_false_iff]; intro h; rw [List.isEmpty_iff] at h; apply t1; show xk.data.size = 0; rw [← Array.length_toList, h]; rfl
        have e2 : ¬ xk.toList = [] := fun h => by rw [h] at e1; cases e1
        have T1 := Lib.hid t1
        clear t1
        by_cases t2 : 16 ≤ xk.size
        · have t2' : decide ((16 : Int) ≤ ((xk.size : Nat) : Int)) = true := by rw [decide_eq_true_eq]; omega
          have hnv : Hid (¬ ValidP id xs) := not_valid_ok HP.out (by rw [Hyl.out]; exact hlt) (by rw [Hx.out]; exact fun h => by have := h.2.1; simp at this; omega)
          go_wp2_with fail
          go_quiet (fail)
          go_wp2_with fail
          go_ret2
          exact ⟨HF2.out.trans (Hfr.out.trans (by with_reducible repeat (first | exact Fr.refl _ _ | assumption | refine Fr.drew ?_ | refine Fr.drewN ?_ _ | refine Fr.alloc ?_ _))), .inr ⟨hnv.out, rfl⟩⟩
        · have t2' : decide ((16 : Int) ≤ ((xk.size : Nat) : Int)) = false := by rw [decide_eq_false_iff_not]; omega
          by_cases t3 : xa < -999999999
          · have t3' : decide (xa < -999999999) = true := by rw [decide_eq_true_eq]; exact t3
            have hnv : Hid (¬ ValidP id xs) := not_valid_ok HP.out (by rw [Hyl.out]; exact hlt) (by rw [Hx.out]; exact fun h => by have := h.2.2.1; simp at this; omega)
            go_wp2_with fail
            go_quiet (fail)
            go_wp2_with fail
            go_ret2
            exact ⟨HF2.out.trans (Hfr.out.trans (by with_reducible repeat (first | exact Fr.refl _ _ | assumption | refine Fr.drew ?_ | refine Fr.drewN ?_ _ | refine Fr.alloc ?_ _))), .inr ⟨hnv.out, rfl⟩⟩
          · have t3' : decide (xa < -999999999) = false := by rw [decide_eq_false_iff_not]; exact t3
            by_cases t4 : 999999999 < xa
            · have t4' : decide (999999999 < xa) = true := by rw [decide_eq_true_eq]; exact t4
              have hnv : Hid (¬ ValidP id xs) := not_valid_ok HP.out (by rw [Hyl.out]; exact hlt) (by rw [Hx.out]; exact fun h => by have := h.2.2.2; simp at this; omega)
              go_wp2_with fail
              go_quiet (fail)
              go_wp2_with fail
              go_ret2
              exact ⟨HF2.out.trans (Hfr.out.trans (by with_reducible repeat (first | exact Fr.refl _ _ | assumption | refine Fr.drew ?_ | refine Fr.drewN ?_ _ | refine Fr.alloc ?_ _))), .inr ⟨hnv.out, rfl⟩⟩
            · have t4' : decide (999999999 < xa) = false := by rw [decide_eq_false_iff_not]; exact t4
              have hok : Hid (OkP (ys.getD k (.empty, 0))) := by
                show OkP _
                rw [Hx.out]; exact ⟨T1.out, by simp; omega, by simp; omega, by simp; omega⟩
              rcases Hk.out with hk1 | ⟨hk1, q2⟩
              · have hk1' : decide ((0 : Int) < ((k : Nat) : Int)) = false := by rw [decide_eq_false_iff_not]; omega
                have Hnext : Hid (Checked ys (k + 1)) := fun i hi => by
                  have e : i = k := by omega
                  subst e; exact ⟨hok.out, fun h => absurd h (by omega)⟩
                have hk3 : decide (0 < k) = false := by rw [decide_eq_false_iff_not]; omega
                clear hk1
                go_wp2_with fail
                go_quiet (fail)
                go_wp2_with fail
                go_roundw
                case rel => exact ⟨k + 1, by omega, by go_num, Hfr.out.trans (by with_reducible repeat (first | exact Fr.refl _ _ | refine Fr.drew ?_ | refine Fr.drewN ?_ _ | refine Fr.alloc ?_ _)), Hnext⟩
                case measure => simp [intOf]; omega
              · have hk1' : decide ((0 : Int) < ((k : Nat) : Int)) = true := by rw [decide_eq_true_eq]; omega
                have hk2' : (0 : Int) < ((k : Nat) : Int) := by omega
                generalize hy : (ys.getD (k - 1) (.empty, 0)).1 = y at q2
                have Hy := Lib.hid hy
                clear hy
                by_cases t5 : y = xk
                · have hnv : Hid (¬ ValidP id xs) := not_valid_twice HP.out (by rw [Hyl.out]; exact hlt) hk1 (by rw [Hy.out, Hx.out]; exact t5)
                  have t5' : (y.toList == xk.toList) = true := by rw [t5]; simp
                  clear t5
                  go_wp2_with fail
                  go_quiet (fail)
                  go_wp2_with fail
                  go_ret2
                  exact ⟨HF2.out.trans (Hfr.out.trans (by with_reducible repeat (first | exact Fr.refl _ _ | assumption | refine Fr.drew ?_ | refine Fr.drewN ?_ _ | refine Fr.alloc ?_ _))), .inr ⟨hnv.out, rfl⟩⟩
                · have t5' : (y.toList == xk.toList) = false := by
                    rw [beq_bytes, decide_eq_false_iff_not]
                    intro e; apply t5; rw [e, ByteArray.toList_eq]
                  have Hnext : Hid (Checked ys (k + 1)) := fun i hi => by
                    by_cases e : i < k
                    · exact hch.out i e
                    · have e : i = k := by omega
                      subst e; exact ⟨hok.out, fun _ => by rw [Hy.out, Hx.out]; exact t5⟩
                  clear t5
                  go_wp2_with fail
                  go_quiet (fail)
                  go_wp2_with fail
                  go_roundw
                  case rel => exact ⟨k + 1, by omega, by go_num, Hfr.out.trans (by with_reducible repeat (first | exact Fr.refl _ _ | refine Fr.drew ?_ | refine Fr.drewN ?_ _ | refine Fr.alloc ?_ _)), Hnext⟩
                  case measure => simp [intOf]; omega
    · have hlt' : ¬ ((k : Nat) : Int) < ((xs.length : Nat) : Int) := by omega
      have hke : k = xs.length := by omega
      have HFr := Lib.hid hfr
      have Hke := Lib.hid hke
      clear hfr hke
      go_wp2_with fail
      go_ret2
      have hall : Checked ys ys.length := by rw [Hyl.out, ← Hke.out]; exact hch.out
      have hris := checked_rising HS.out hall
      have hval := valid_of (id := id) ⟨by omega, by omega⟩ ⟨h3, h4⟩ HP.out hall hris
      have hbr : blk < wr.heap.size := Nat.lt_of_lt_of_le hw2 HFr.out.size
      have hFN : Fr Non w2 (wr.alloc (.cells #[.int .i64 id, .slice (some ⟨blk, 0, none⟩) xs.length cap1, .int .i64 0, .int .i64 0, .slice none 0 0, .int .i64 0, .int .i64 0, .int .i64 0, .int .i64 0, .bool false, .int .i64 1] 59)) := HFr.out.alloc _
      have hwr : w.heap.size ≤ wr.heap.size := (HF2.out.trans HFr.out).size
      refine ⟨HF2.out.trans hFN, .inl ⟨hval, wr.heap.size, blk, cap1, ys, rfl, HP.out, hris, hwr, hbl, ?_⟩⟩
      refine ⟨?_, fun j hj => HC2.out _ hFN j hj, ⟨rfl, .inl ⟨rfl, rfl⟩⟩, start_wf hval HP.out, ⟨by omega, by omega, by simp; omega⟩, by omega, by simp [Value.ownBlock], by simp [Value.ownBlock]⟩
      rw [heap_alloc_new]
      show _ = some (Obj.cells #[.int .i64 id, .slice (some ⟨blk, 0, none⟩) ys.length cap1, _, _, _, _, _, _, _, _, _] _ _)
      rw [Hyl.out]; rfl
end Go.Proofs.YtbfahkpckhbajaaDoor
