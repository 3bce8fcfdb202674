/- quorateref's (*Txn).Answer: what the transaction does with a command's result, phase by phase. Conditions: the object is whole, the text read at most 2,000,000 bytes long. -/
import Derived.Test.YtbfahkpckhbajaaDoorQRon
import Derived.Deep.RegionHeld3
namespace Go.Proofs.YtbfahkpckhbajaaDoor
open Go.RowKit
set_option linter.unusedSimpArgs false
set_option linter.unusedVariables false

set_option maxRecDepth 100000 in
set_option maxHeartbeats 1000000 in
theorem rans_p0 {B : Nat} (w : World) (b pb pc : Nat) (ov : Value) (T : Tx) (dn : Bool) (k : Int) (v : ByteArray) (ver : Int) (kv : Value) (hs : v.size ≤ 2000000) (hT : IsRx B w b T pb pc ov dn) (hB : B ≤ w.heap.size) (hph : T.phase = 0) :
    Calls Tryd.prog 12 #[.pointer (some ⟨b, 0, none⟩), .agg #[.int .i64 k, .string v, .int .i64 ver, kv]] w (RxPost B w b (T.answer k v ver) pb pc ov) := by
  have hb := hT.word ⟨#[98, 101, 103, 105, 110]⟩ (by rw [hph]; rfl)
  have c2 : w.cell? ⟨b, 2, none⟩ = some (.string ⟨#[98, 101, 103, 105, 110]⟩) := cell_of hb 2
  have f2 := free_of hb 2
  have Hwf := Lib.hid (answer_wf hT.wf k v ver)
  have Hb := Lib.hid hb
  have HT := Lib.hid hT
  have Hph := Lib.hid hph
  have hlt := lt_of_heap hb
  have hne : b ≠ w.heap.size := by omega
  have c10 : w.cell? ⟨b, 10, none⟩ = some (.int .i64 T.state) := cell_of hb 10
  have f10 := free_of hb 10
  by_cases hk : k = 1
  · have h0 : (k == 1) = true := by rw [beq_iff_eq]; exact hk
    have hLe : Hid (T.answer k v ver = { T with phase := 1 }) := by
      show T.answer k v ver = _
      unfold Tx.answer; rw [if_pos Hph.out, if_pos hk]
    clear hb hT hph hk
    go_enter Tryd.func12, Tryd.ntmps12
    go_wp2
    go_end0
    exact ⟨rfl, ov, dn, HT.out.to (by with_reducible repeat (first | exact Fr.refl _ _ | refine Fr.drew ?_ | refine Fr.drewN ?_ _ | refine Fr.alloc ?_ _ | refine Fr.setOnly ?_ _ _)) (by rw [hLe.out]; show At _ b = _; simp [At_set_same, At_alloc, At_drew, At_drewN, At_iff Hb.out, hlt, upd_cells, wordOf_1]) (by rw [hLe.out]) (by rw [hLe.out]) Hwf.out (by rw [hLe.out]; simp), (by with_reducible repeat (first | exact Fr.refl _ _ | refine Fr.drew ?_ | refine Fr.drewN ?_ _ | refine Fr.alloc ?_ _ | refine Fr.setOnly ?_ _ _)), .inl rfl⟩
  · have h0 : (k == 1) = false := by rw [beq_eq_false_iff_ne]; exact hk
    have hLe : Hid (T.answer k v ver = { T with phase := 10, state := 3 }) := by
      show T.answer k v ver = _
      unfold Tx.answer; rw [if_pos Hph.out, if_neg hk]
    clear hb hT hph hk
    go_enter Tryd.func12, Tryd.ntmps12
    go_wp2
    go_end0
    exact ⟨rfl, ov, dn, HT.out.to (by with_reducible repeat (first | exact Fr.refl _ _ | refine Fr.drew ?_ | refine Fr.drewN ?_ _ | refine Fr.alloc ?_ _ | refine Fr.setOnly ?_ _ _)) (by rw [hLe.out]; show At _ b = _; simp [At_set_same, At_alloc, At_drew, At_drewN, At_iff Hb.out, hlt, upd_cells, wordOf_10]) (by rw [hLe.out]) (by rw [hLe.out]) Hwf.out (by rw [hLe.out]; simp), (by with_reducible repeat (first | exact Fr.refl _ _ | refine Fr.drew ?_ | refine Fr.drewN ?_ _ | refine Fr.alloc ?_ _ | refine Fr.setOnly ?_ _ _)), .inl rfl⟩

set_option maxRecDepth 100000 in
set_option maxHeartbeats 1000000 in
theorem rans_p3 {B : Nat} (w : World) (b pb pc : Nat) (ov : Value) (T : Tx) (dn : Bool) (k : Int) (v : ByteArray) (ver : Int) (kv : Value) (hs : v.size ≤ 2000000) (hT : IsRx B w b T pb pc ov dn) (hB : B ≤ w.heap.size) (hph : T.phase = 3) :
    Calls Tryd.prog 12 #[.pointer (some ⟨b, 0, none⟩), .agg #[.int .i64 k, .string v, .int .i64 ver, kv]] w (RxPost B w b (T.answer k v ver) pb pc ov) := by
  have hb := hT.word ⟨#[97, 115, 107]⟩ (by rw [hph]; rfl)
  have c2 : w.cell? ⟨b, 2, none⟩ = some (.string ⟨#[97, 115, 107]⟩) := cell_of hb 2
  have f2 := free_of hb 2
  have Hwf := Lib.hid (answer_wf hT.wf k v ver)
  have Hb := Lib.hid hb
  have HT := Lib.hid hT
  have Hph := Lib.hid hph
  have hlt := lt_of_heap hb
  have hne : b ≠ w.heap.size := by omega
  have c8 : w.cell? ⟨b, 8, none⟩ = some (.int .i64 T.version) := cell_of hb 8
  have c9 : w.cell? ⟨b, 9, none⟩ = some (.bool dn) := cell_of hb 9
  have f8 := free_of hb 8
  have f9 := free_of hb 9
  have hAns : T.answer k v ver = T.asked k v ver := by
    unfold Tx.answer; rw [if_neg (by omega), if_neg (by omega), if_neg (by omega), if_pos hph]
  by_cases hk : k = 1
  · have h0 : (k == 1) = true := by rw [beq_iff_eq]; exact hk
    by_cases hv : v = openB
    · have h1 : (v.toList == [111, 112, 101, 110]) = true := by rw [beq_bytes, decide_eq_true_eq]; exact hv
      have h2 : (v.toList == [100, 111, 110, 101]) = false := by rw [beq_bytes, decide_eq_false_iff_not, hv]; decide
      have hLe : Hid (T.answer k v ver = { T with phase := 4, version := ver }) := by
        show T.answer k v ver = _
        rw [hAns]; exact if_pos ⟨hk, hv⟩
      clear hb hT hph hk hv hAns
      go_enter Tryd.func12, Tryd.ntmps12
      go_wp2
      go_end0
      exact ⟨rfl, ov, false, HT.out.to (by with_reducible repeat (first | exact Fr.refl _ _ | refine Fr.drew ?_ | refine Fr.drewN ?_ _ | refine Fr.alloc ?_ _ | refine Fr.setOnly ?_ _ _)) (by rw [hLe.out]; show At _ b = _; simp [At_set_same, At_alloc, At_drew, At_drewN, At_iff Hb.out, hlt, upd_cells, wordOf_4]) (by rw [hLe.out]) (by rw [hLe.out]) Hwf.out (by rw [hLe.out]; simp), (by with_reducible repeat (first | exact Fr.refl _ _ | refine Fr.drew ?_ | refine Fr.drewN ?_ _ | refine Fr.alloc ?_ _ | refine Fr.setOnly ?_ _ _)), .inl rfl⟩
    · have h1 : (v.toList == [111, 112, 101, 110]) = false := by rw [beq_bytes, decide_eq_false_iff_not]; exact hv
      have hLe : Hid (T.answer k v ver = { T with phase := 5, will := decide (v = doneB) }) := by
        show T.answer k v ver = _
        rw [hAns]; unfold Tx.asked; rw [if_neg (fun h => hv h.2)]; simp [hk]
      have hd : (v.toList == [100, 111, 110, 101]) = decide (v = doneB) := beq_bytes v _
      generalize decide (v = doneB) = d at hLe hd
      clear hb hT hph hk hv hAns
      go_enter Tryd.func12, Tryd.ntmps12
      go_wp2
      go_end0
      exact ⟨rfl, ov, d, HT.out.to (by with_reducible repeat (first | exact Fr.refl _ _ | refine Fr.drew ?_ | refine Fr.drewN ?_ _ | refine Fr.alloc ?_ _ | refine Fr.setOnly ?_ _ _)) (by rw [hLe.out]; show At _ b = _; simp [At_set_same, At_alloc, At_drew, At_drewN, At_iff Hb.out, hlt, upd_cells, wordOf_5]) (by rw [hLe.out]) (by rw [hLe.out]) Hwf.out (by rw [hLe.out]; simp), (by with_reducible repeat (first | exact Fr.refl _ _ | refine Fr.drew ?_ | refine Fr.drewN ?_ _ | refine Fr.alloc ?_ _ | refine Fr.setOnly ?_ _ _)), .inl rfl⟩
  · have h0 : (k == 1) = false := by rw [beq_eq_false_iff_ne]; exact hk
    have hLe : Hid (T.answer k v ver = { T with phase := 5, will := false }) := by
      show T.answer k v ver = _
      rw [hAns]; unfold Tx.asked; rw [if_neg (fun h => hk h.1)]; simp [hk]
    clear hb hT hph hk hAns
    go_enter Tryd.func12, Tryd.ntmps12
    go_wp2
    go_end0
    exact ⟨rfl, ov, false, HT.out.to (by with_reducible repeat (first | exact Fr.refl _ _ | refine Fr.drew ?_ | refine Fr.drewN ?_ _ | refine Fr.alloc ?_ _ | refine Fr.setOnly ?_ _ _)) (by rw [hLe.out]; show At _ b = _; simp [At_set_same, At_alloc, At_drew, At_drewN, At_iff Hb.out, hlt, upd_cells, wordOf_5]) (by rw [hLe.out]) (by rw [hLe.out]) Hwf.out (by rw [hLe.out]; simp), (by with_reducible repeat (first | exact Fr.refl _ _ | refine Fr.drew ?_ | refine Fr.drewN ?_ _ | refine Fr.alloc ?_ _ | refine Fr.setOnly ?_ _ _)), .inl rfl⟩

set_option maxRecDepth 100000 in
set_option maxHeartbeats 1000000 in
theorem rans_p4 {B : Nat} (w : World) (b pb pc : Nat) (ov : Value) (T : Tx) (dn : Bool) (k : Int) (v : ByteArray) (ver : Int) (kv : Value) (hs : v.size ≤ 2000000) (hT : IsRx B w b T pb pc ov dn) (hB : B ≤ w.heap.size) (hph : T.phase = 4) :
    Calls Tryd.prog 12 #[.pointer (some ⟨b, 0, none⟩), .agg #[.int .i64 k, .string v, .int .i64 ver, kv]] w (RxPost B w b (T.answer k v ver) pb pc ov) := by
  have hb := hT.word ⟨#[101, 110, 100]⟩ (by rw [hph]; rfl)
  have c2 : w.cell? ⟨b, 2, none⟩ = some (.string ⟨#[101, 110, 100]⟩) := cell_of hb 2
  have f2 := free_of hb 2
  have Hwf := Lib.hid (answer_wf hT.wf k v ver)
  have Hb := Lib.hid hb
  have HT := Lib.hid hT
  have Hph := Lib.hid hph
  have hlt := lt_of_heap hb
  have hne : b ≠ w.heap.size := by omega
  have hLe : Hid (T.answer k v ver = { T with phase := 1 }) := by
    show T.answer k v ver = _
    unfold Tx.answer; rw [if_neg (by omega), if_neg (by omega), if_neg (by omega), if_neg (by omega), if_pos (by omega)]
  clear hb hT hph
  go_enter Tryd.func12, Tryd.ntmps12
  go_wp2
  go_end0
  exact ⟨rfl, ov, dn, HT.out.to (by with_reducible repeat (first | exact Fr.refl _ _ | refine Fr.drew ?_ | refine Fr.drewN ?_ _ | refine Fr.alloc ?_ _ | refine Fr.setOnly ?_ _ _)) (by rw [hLe.out]; show At _ b = _; simp [At_set_same, At_alloc, At_drew, At_drewN, At_iff Hb.out, hlt, upd_cells, wordOf_1]) (by rw [hLe.out]) (by rw [hLe.out]) Hwf.out (by rw [hLe.out]; simp), (by with_reducible repeat (first | exact Fr.refl _ _ | refine Fr.drew ?_ | refine Fr.drewN ?_ _ | refine Fr.alloc ?_ _ | refine Fr.setOnly ?_ _ _)), .inl rfl⟩

set_option maxRecDepth 100000 in
set_option maxHeartbeats 1000000 in
theorem rans_p5 {B : Nat} (w : World) (b pb pc : Nat) (ov : Value) (T : Tx) (dn : Bool) (k : Int) (v : ByteArray) (ver : Int) (kv : Value) (hs : v.size ≤ 2000000) (hT : IsRx B w b T pb pc ov dn) (hB : B ≤ w.heap.size) (hph : T.phase = 5) :
    Calls Tryd.prog 12 #[.pointer (some ⟨b, 0, none⟩), .agg #[.int .i64 k, .string v, .int .i64 ver, kv]] w (RxPost B w b (T.answer k v ver) pb pc ov) := by
  have hb := hT.word ⟨#[102, 114, 101, 101]⟩ (by rw [hph]; rfl)
  have c2 : w.cell? ⟨b, 2, none⟩ = some (.string ⟨#[102, 114, 101, 101]⟩) := cell_of hb 2
  have f2 := free_of hb 2
  have Hwf := Lib.hid (answer_wf hT.wf k v ver)
  have Hb := Lib.hid hb
  have HT := Lib.hid hT
  have Hph := Lib.hid hph
  have hlt := lt_of_heap hb
  have hne : b ≠ w.heap.size := by omega
  have hLe : Hid (T.answer k v ver = { T with phase := 1 }) := by
    show T.answer k v ver = _
    unfold Tx.answer; rw [if_neg (by omega), if_neg (by omega), if_neg (by omega), if_neg (by omega), if_pos (by omega)]
  clear hb hT hph
  go_enter Tryd.func12, Tryd.ntmps12
  go_wp2
  go_end0
  exact ⟨rfl, ov, dn, HT.out.to (by with_reducible repeat (first | exact Fr.refl _ _ | refine Fr.drew ?_ | refine Fr.drewN ?_ _ | refine Fr.alloc ?_ _ | refine Fr.setOnly ?_ _ _)) (by rw [hLe.out]; show At _ b = _; simp [At_set_same, At_alloc, At_drew, At_drewN, At_iff Hb.out, hlt, upd_cells, wordOf_1]) (by rw [hLe.out]) (by rw [hLe.out]) Hwf.out (by rw [hLe.out]; simp), (by with_reducible repeat (first | exact Fr.refl _ _ | refine Fr.drew ?_ | refine Fr.drewN ?_ _ | refine Fr.alloc ?_ _ | refine Fr.setOnly ?_ _ _)), .inl rfl⟩

set_option maxRecDepth 100000 in
set_option maxHeartbeats 1000000 in
theorem rans_p6 {B : Nat} (w : World) (b pb pc : Nat) (ov : Value) (T : Tx) (dn : Bool) (k : Int) (v : ByteArray) (ver : Int) (kv : Value) (hs : v.size ≤ 2000000) (hT : IsRx B w b T pb pc ov dn) (hB : B ≤ w.heap.size) (hph : T.phase = 6) :
    Calls Tryd.prog 12 #[.pointer (some ⟨b, 0, none⟩), .agg #[.int .i64 k, .string v, .int .i64 ver, kv]] w (RxPost B w b (T.answer k v ver) pb pc ov) := by
  have hb := hT.word ⟨#[99, 111, 109, 109, 105, 116]⟩ (by rw [hph]; rfl)
  have c2 : w.cell? ⟨b, 2, none⟩ = some (.string ⟨#[99, 111, 109, 109, 105, 116]⟩) := cell_of hb 2
  have f2 := free_of hb 2
  have Hwf := Lib.hid (answer_wf hT.wf k v ver)
  have Hb := Lib.hid hb
  have HT := Lib.hid hT
  have Hph := Lib.hid hph
  have hlt := lt_of_heap hb
  have hne : b ≠ w.heap.size := by omega
  have c3 : w.cell? ⟨b, 3, none⟩ = some (.int .i64 T.at_) := cell_of hb 3
  have f3 := free_of hb 3
  have c9 : w.cell? ⟨b, 9, none⟩ = some (.bool dn) := cell_of hb 9
  have f9 := free_of hb 9
  have c10 : w.cell? ⟨b, 10, none⟩ = some (.int .i64 T.state) := cell_of hb 10
  have f10 := free_of hb 10
  have hAns : T.answer k v ver = { T with phase := 8, at_ := 0, will := decide (k = 1 ∧ T.phase = 6), state := if k = 1 ∧ T.phase = 6 then 2 else 3 } := by
    unfold Tx.answer; rw [if_neg (by omega), if_neg (by omega), if_neg (by omega), if_neg (by omega), if_neg (by omega), if_pos (by omega)]
  by_cases hk : k = 1
  · have h0 : (k == 1) = true := by rw [beq_iff_eq]; exact hk
    have hLe : Hid (T.answer k v ver = { T with phase := 8, at_ := 0, will := true, state := 2 }) := by
      show T.answer k v ver = _
      rw [hAns]; simp [hk, hph]
    clear hb hT hph hk hAns
    go_enter Tryd.func12, Tryd.ntmps12
    go_wp2
    go_end0
    exact ⟨rfl, ov, true, HT.out.to (by with_reducible repeat (first | exact Fr.refl _ _ | refine Fr.drew ?_ | refine Fr.drewN ?_ _ | refine Fr.alloc ?_ _ | refine Fr.setOnly ?_ _ _)) (by rw [hLe.out]; show At _ b = _; simp [At_set_same, At_alloc, At_drew, At_drewN, At_iff Hb.out, hlt, upd_cells, wordOf_8]) (by rw [hLe.out]) (by rw [hLe.out]) Hwf.out (by rw [hLe.out]; simp), (by with_reducible repeat (first | exact Fr.refl _ _ | refine Fr.drew ?_ | refine Fr.drewN ?_ _ | refine Fr.alloc ?_ _ | refine Fr.setOnly ?_ _ _)), .inl rfl⟩
  · have h0 : (k == 1) = false := by rw [beq_eq_false_iff_ne]; exact hk
    have hLe : Hid (T.answer k v ver = { T with phase := 8, at_ := 0, will := false, state := 3 }) := by
      show T.answer k v ver = _
      rw [hAns]; simp [hk]
    clear hb hT hph hk hAns
    go_enter Tryd.func12, Tryd.ntmps12
    go_wp2
    go_end0
    exact ⟨rfl, ov, false, HT.out.to (by with_reducible repeat (first | exact Fr.refl _ _ | refine Fr.drew ?_ | refine Fr.drewN ?_ _ | refine Fr.alloc ?_ _ | refine Fr.setOnly ?_ _ _)) (by rw [hLe.out]; show At _ b = _; simp [At_set_same, At_alloc, At_drew, At_drewN, At_iff Hb.out, hlt, upd_cells, wordOf_8]) (by rw [hLe.out]) (by rw [hLe.out]) Hwf.out (by rw [hLe.out]; simp), (by with_reducible repeat (first | exact Fr.refl _ _ | refine Fr.drew ?_ | refine Fr.drewN ?_ _ | refine Fr.alloc ?_ _ | refine Fr.setOnly ?_ _ _)), .inl rfl⟩

set_option maxRecDepth 100000 in
set_option maxHeartbeats 1000000 in
theorem rans_p7 {B : Nat} (w : World) (b pb pc : Nat) (ov : Value) (T : Tx) (dn : Bool) (k : Int) (v : ByteArray) (ver : Int) (kv : Value) (hs : v.size ≤ 2000000) (hT : IsRx B w b T pb pc ov dn) (hB : B ≤ w.heap.size) (hph : T.phase = 7) :
    Calls Tryd.prog 12 #[.pointer (some ⟨b, 0, none⟩), .agg #[.int .i64 k, .string v, .int .i64 ver, kv]] w (RxPost B w b (T.answer k v ver) pb pc ov) := by
  have hb := hT.word ⟨#[97, 98, 111, 114, 116]⟩ (by rw [hph]; rfl)
  have c2 : w.cell? ⟨b, 2, none⟩ = some (.string ⟨#[97, 98, 111, 114, 116]⟩) := cell_of hb 2
  have f2 := free_of hb 2
  have Hwf := Lib.hid (answer_wf hT.wf k v ver)
  have Hb := Lib.hid hb
  have HT := Lib.hid hT
  have Hph := Lib.hid hph
  have hlt := lt_of_heap hb
  have hne : b ≠ w.heap.size := by omega
  have c3 : w.cell? ⟨b, 3, none⟩ = some (.int .i64 T.at_) := cell_of hb 3
  have f3 := free_of hb 3
  have c9 : w.cell? ⟨b, 9, none⟩ = some (.bool dn) := cell_of hb 9
  have f9 := free_of hb 9
  have c10 : w.cell? ⟨b, 10, none⟩ = some (.int .i64 T.state) := cell_of hb 10
  have f10 := free_of hb 10
  have hAns : T.answer k v ver = { T with phase := 8, at_ := 0, will := decide (k = 1 ∧ T.phase = 6), state := if k = 1 ∧ T.phase = 6 then 2 else 3 } := by
    unfold Tx.answer; rw [if_neg (by omega), if_neg (by omega), if_neg (by omega), if_neg (by omega), if_neg (by omega), if_pos (by omega)]
  by_cases hk : k = 1
  · have h0 : (k == 1) = true := by rw [beq_iff_eq]; exact hk
    have hLe : Hid (T.answer k v ver = { T with phase := 8, at_ := 0, will := false, state := 3 }) := by
      show T.answer k v ver = _
      rw [hAns]; simp [hk, hph]
    clear hb hT hph hk hAns
    go_enter Tryd.func12, Tryd.ntmps12
    go_wp2
    go_end0
    exact ⟨rfl, ov, false, HT.out.to (by with_reducible repeat (first | exact Fr.refl _ _ | refine Fr.drew ?_ | refine Fr.drewN ?_ _ | refine Fr.alloc ?_ _ | refine Fr.setOnly ?_ _ _)) (by rw [hLe.out]; show At _ b = _; simp [At_set_same, At_alloc, At_drew, At_drewN, At_iff Hb.out, hlt, upd_cells, wordOf_8]) (by rw [hLe.out]) (by rw [hLe.out]) Hwf.out (by rw [hLe.out]; simp), (by with_reducible repeat (first | exact Fr.refl _ _ | refine Fr.drew ?_ | refine Fr.drewN ?_ _ | refine Fr.alloc ?_ _ | refine Fr.setOnly ?_ _ _)), .inl rfl⟩
  · have h0 : (k == 1) = false := by rw [beq_eq_false_iff_ne]; exact hk
    have hLe : Hid (T.answer k v ver = { T with phase := 8, at_ := 0, will := false, state := 3 }) := by
      show T.answer k v ver = _
      rw [hAns]; simp [hk]
    clear hb hT hph hk hAns
    go_enter Tryd.func12, Tryd.ntmps12
    go_wp2
    go_end0
    exact ⟨rfl, ov, false, HT.out.to (by with_reducible repeat (first | exact Fr.refl _ _ | refine Fr.drew ?_ | refine Fr.drewN ?_ _ | refine Fr.alloc ?_ _ | refine Fr.setOnly ?_ _ _)) (by rw [hLe.out]; show At _ b = _; simp [At_set_same, At_alloc, At_drew, At_drewN, At_iff Hb.out, hlt, upd_cells, wordOf_8]) (by rw [hLe.out]) (by rw [hLe.out]) Hwf.out (by rw [hLe.out]; simp), (by with_reducible repeat (first | exact Fr.refl _ _ | refine Fr.drew ?_ | refine Fr.drewN ?_ _ | refine Fr.alloc ?_ _ | refine Fr.setOnly ?_ _ _)), .inl rfl⟩

set_option maxRecDepth 100000 in
set_option maxHeartbeats 1000000 in
theorem rans_p9 {B : Nat} (w : World) (b pb pc : Nat) (ov : Value) (T : Tx) (dn : Bool) (k : Int) (v : ByteArray) (ver : Int) (kv : Value) (hs : v.size ≤ 2000000) (hT : IsRx B w b T pb pc ov dn) (hB : B ≤ w.heap.size) (hph : T.phase = 9) :
    Calls Tryd.prog 12 #[.pointer (some ⟨b, 0, none⟩), .agg #[.int .i64 k, .string v, .int .i64 ver, kv]] w (RxPost B w b (T.answer k v ver) pb pc ov) := by
  have hb := hT.word ⟨#[103, 105, 118, 101]⟩ (by rw [hph]; rfl)
  have c2 : w.cell? ⟨b, 2, none⟩ = some (.string ⟨#[103, 105, 118, 101]⟩) := cell_of hb 2
  have f2 := free_of hb 2
  have Hwf := Lib.hid (answer_wf hT.wf k v ver)
  have Hb := Lib.hid hb
  have HT := Lib.hid hT
  have Hph := Lib.hid hph
  have hlt := lt_of_heap hb
  have hne : b ≠ w.heap.size := by omega
  have HL := Lib.hid (And.intro hT.wf.at_ hT.wf.len.2)
  have Hd := Lib.hid (hT.dn (by omega))
  have hLe : Hid (T.answer k v ver = ({ T with phase := 8 } : Tx).further 10) := by
    show T.answer k v ver = _
    unfold Tx.answer; rw [if_neg (by omega), if_neg (by omega), if_neg (by omega), if_neg (by omega), if_neg (by omega), if_neg (by omega), if_neg (by omega), if_pos (by omega)]
  clear hb hT hph
  go_enter Tryd.func12, Tryd.ntmps12
  go_wp2_with fail
  generalize hW : World.alloc _ _ = W
  have hBW : W.heap[b]? = some (.cells #[.int .i64 ({ T with phase := 8 } : Tx).id, .slice (some ⟨pb, 0, none⟩) ({ T with phase := 8 } : Tx).parts.length pc, .string ⟨#[99, 108, 101, 97, 114]⟩, .int .i64 ({ T with phase := 8 } : Tx).at_, ov, .int .i64 ({ T with phase := 8 } : Tx).num, .int .i64 ({ T with phase := 8 } : Tx).hol, .int .i64 ({ T with phase := 8 } : Tx).nxt, .int .i64 ({ T with phase := 8 } : Tx).version, .bool dn, .int .i64 ({ T with phase := 8 } : Tx).state] 45 (0, 0)) := by
    rw [← hW]; show At _ b = _; simp [At_set_same, At_alloc, At_drew, At_drewN, At_iff Hb.out, hlt, upd_cells]
  have HFW : Hid (Fr (Only b) w W) := by show Fr _ _ _; rw [← hW]; exact (by with_reducible repeat (first | exact Fr.refl _ _ | refine Fr.drew ?_ | refine Fr.drewN ?_ _ | refine Fr.alloc ?_ _ | refine Fr.setOnly ?_ _ _))
  clear hW
  refine (on_blk W b pb pc ov ({ T with phase := 8 } : Tx) dn 10 ⟨#[99, 108, 101, 97, 114]⟩ ⟨#[]⟩ rfl rfl hBW HL.out.1 HL.out.2).mono ?_
  rintro e w2 ⟨rfl, hf2, hB2⟩
  have HF2 := Lib.hid (HFW.out.trans hf2)
  have HB2 := Lib.hid hB2
  clear hf2 hB2 hBW
  go_wp2_with fail
  go_end0
  have hfp := Tx.further_parts ({ T with phase := 8 } : Tx) 10
  have hfw : (({ T with phase := 8 } : Tx).further 10).will = T.will := by unfold Tx.further; split <;> rfl
  exact ⟨rfl, ov, dn, HT.out.to HF2.out (by rw [hLe.out]; exact HB2.out) (by rw [hLe.out]; exact hfp.1) (by rw [hLe.out]; exact hfp.2) Hwf.out (fun _ => by rw [hLe.out, hfw]; exact Hd.out), HF2.out, .inl rfl⟩

set_option maxRecDepth 100000 in
set_option maxHeartbeats 1000000 in
theorem rans_p10 {B : Nat} (w : World) (b pb pc : Nat) (ov : Value) (T : Tx) (dn : Bool) (k : Int) (v : ByteArray) (ver : Int) (kv : Value) (hs : v.size ≤ 2000000) (hT : IsRx B w b T pb pc ov dn) (hB : B ≤ w.heap.size) (hph : T.phase = 10) :
    Calls Tryd.prog 12 #[.pointer (some ⟨b, 0, none⟩), .agg #[.int .i64 k, .string v, .int .i64 ver, kv]] w (RxPost B w b (T.answer k v ver) pb pc ov) := by
  have hb := hT.word ⟨#[]⟩ (by rw [hph]; rfl)
  have c2 : w.cell? ⟨b, 2, none⟩ = some (.string ⟨#[]⟩) := cell_of hb 2
  have f2 := free_of hb 2
  have Hwf := Lib.hid (answer_wf hT.wf k v ver)
  have Hb := Lib.hid hb
  have HT := Lib.hid hT
  have Hph := Lib.hid hph
  have hlt := lt_of_heap hb
  have hne : b ≠ w.heap.size := by omega
  have hLe : Hid (T.answer k v ver = T) := by
    show T.answer k v ver = _
    unfold Tx.answer; rw [if_neg (by omega), if_neg (by omega), if_neg (by omega), if_neg (by omega), if_neg (by omega), if_neg (by omega), if_neg (by omega), if_neg (by omega)]
  clear hb hT hph
  go_enter Tryd.func12, Tryd.ntmps12
  go_wp2
  go_end0
  exact ⟨rfl, ov, dn, HT.out.to (by with_reducible repeat (first | exact Fr.refl _ _ | refine Fr.drew ?_ | refine Fr.drewN ?_ _ | refine Fr.alloc ?_ _ | refine Fr.setOnly ?_ _ _)) (by rw [hLe.out, Hph.out]; show At _ b = _; simp [At_set_same, At_alloc, At_drew, At_drewN, At_iff Hb.out, hlt, upd_cells, wordOf_10]) (by rw [hLe.out]) (by rw [hLe.out]) Hwf.out (by rw [hLe.out]; exact HT.out.dn), (by with_reducible repeat (first | exact Fr.refl _ _ | refine Fr.drew ?_ | refine Fr.drewN ?_ _ | refine Fr.alloc ?_ _ | refine Fr.setOnly ?_ _ _)), .inl rfl⟩

set_option maxRecDepth 100000 in
set_option maxHeartbeats 2000000 in
theorem rans_p8 {B : Nat} (w : World) (b pb pc : Nat) (ov : Value) (T : Tx) (dn : Bool) (k : Int) (v : ByteArray) (ver : Int) (kv : Value) (hs : v.size ≤ 2000000) (hT : IsRx B w b T pb pc ov dn) (hB : B ≤ w.heap.size) (hph : T.phase = 8) :
    Calls Tryd.prog 12 #[.pointer (some ⟨b, 0, none⟩), .agg #[.int .i64 k, .string v, .int .i64 ver, kv]] w (RxPost B w b (T.answer k v ver) pb pc ov) := by
  have hb := hT.word ⟨#[99, 108, 101, 97, 114]⟩ (by rw [hph]; rfl)
  have c2 : w.cell? ⟨b, 2, none⟩ = some (.string ⟨#[99, 108, 101, 97, 114]⟩) := cell_of hb 2
  have f2 := free_of hb 2
  have Hwf := Lib.hid (answer_wf hT.wf k v ver)
  have Hb := Lib.hid hb
  have HT := Lib.hid hT
  have Hph := Lib.hid hph
  have hlt := lt_of_heap hb
  have hne : b ≠ w.heap.size := by omega
  have Hd := Lib.hid (hT.dn (by omega))
  have HL := Lib.hid (And.intro hT.wf.at_ hT.wf.len.2)
  have hEq : Hid (T.answer k v ver = if k ≠ 1 ∨ (readB v).2.1 ≠ T.id then ({ T with num := (readB v).1, hol := (readB v).2.1, nxt := (readB v).2.2, version := ver } : Tx).further 10 else ({ T with num := (readB v).1, hol := (readB v).2.1, nxt := (readB v).2.2, version := ver, phase := 9 } : Tx)) := by
    show T.answer k v ver = _
    unfold Tx.answer; rw [if_neg (by omega), if_neg (by omega), if_neg (by omega), if_neg (by omega), if_neg (by omega), if_neg (by omega), if_pos Hph.out]
  have Hk : Hid (((k == 1) = true ∧ k = 1) ∨ ((k == 1) = false ∧ k ≠ 1)) := by
    by_cases hk : k = 1
    · exact .inl ⟨by rw [beq_iff_eq]; exact hk, hk⟩
    · exact .inr ⟨by rw [beq_eq_false_iff_ne]; exact hk, hk⟩
  clear hb hT hph
  go_enter Tryd.func12, Tryd.ntmps12
  go_wp2_with fail
  obtain ⟨W, hW⟩ : ∃ W, W = w.alloc (.cells #[.int .i64 k, .string v, .int .i64 ver, kv] 50) := ⟨_, rfl⟩
  have hF0 : Fr Non w W := by rw [hW]; exact (Fr.refl _ _).alloc _
  have hX0 : W.heap[w.heap.size]? = some (.cells #[.int .i64 k, .string v, .int .i64 ver, kv] 50 (0, 0)) := by rw [hW]; exact heap_alloc_new _ _
  rw [← hW]
  have HX0 := Lib.hid hX0
  have HF0 := Lib.hid hF0
  clear hW hX0 hF0 c2 f2
  refine (heldOf_any v W hs).mono ?_
  rintro e w2 ⟨rfl, hf⟩
  rw [held_read]
  have hX2 := hf.blk HX0.out (fun h => h)
  have x1 : w2.cell? ⟨w.heap.size, 1, none⟩ = some (.string v) := cell_of hX2 1
  have x2 : w2.cell? ⟨w.heap.size, 2, none⟩ = some (.int .i64 ver) := cell_of hX2 2
  have hB2 := (HF0.out.trans hf).blk Hb.out (fun h => h)
  have c5 : w2.cell? ⟨b, 5, none⟩ = some (.int .i64 T.num) := cell_of hB2 5
  have c6 : w2.cell? ⟨b, 6, none⟩ = some (.int .i64 T.hol) := cell_of hB2 6
  have c7 : w2.cell? ⟨b, 7, none⟩ = some (.int .i64 T.nxt) := cell_of hB2 7
  have c8 : w2.cell? ⟨b, 8, none⟩ = some (.int .i64 T.version) := cell_of hB2 8
  have f5 := free_of hB2 5
  have f6 := free_of hB2 6
  have f7 := free_of hB2 7
  have f8 := free_of hB2 8
  have hl2 := lt_of_heap hB2
  have HB2 := Lib.hid hB2
  have HF2 := Lib.hid (HF0.out.trans hf)
  clear hX2 hB2 hf
  generalize hr : readB v = r
  obtain ⟨r0, r1, r2⟩ := r
  have Hr := Lib.hid hr
  clear hr
  rw [Hr.out] at hEq
  go_wp2_with fail
  obtain ⟨w3, hw3⟩ : ∃ w3, w3 = (((w2.setCell ⟨b, 5, none⟩ (.int .i64 r0)).setCell ⟨b, 6, none⟩ (.int .i64 r1)).setCell ⟨b, 7, none⟩ (.int .i64 r2)).setCell ⟨b, 8, none⟩ (.int .i64 ver) := ⟨_, rfl⟩
  have hB3 : w3.heap[b]? = some (.cells #[.int .i64 ({ T with num := r0, hol := r1, nxt := r2, version := ver } : Tx).id, .slice (some ⟨pb, 0, none⟩) ({ T with num := r0, hol := r1, nxt := r2, version := ver } : Tx).parts.length pc, .string ⟨#[99, 108, 101, 97, 114]⟩, .int .i64 ({ T with num := r0, hol := r1, nxt := r2, version := ver } : Tx).at_, ov, .int .i64 ({ T with num := r0, hol := r1, nxt := r2, version := ver } : Tx).num, .int .i64 ({ T with num := r0, hol := r1, nxt := r2, version := ver } : Tx).hol, .int .i64 ({ T with num := r0, hol := r1, nxt := r2, version := ver } : Tx).nxt, .int .i64 ({ T with num := r0, hol := r1, nxt := r2, version := ver } : Tx).version, .bool dn, .int .i64 ({ T with num := r0, hol := r1, nxt := r2, version := ver } : Tx).state] 45 (0, 0)) := by
    show At w3 b = _
    rw [hw3]; simp [At_set_same, At_iff HB2.out, upd_cells]
  have hF3 : Fr (Only b) w w3 := by
    rw [hw3]
    exact HF2.out.lift.trans (by with_reducible repeat (first | exact Fr.refl _ _ | refine Fr.drew ?_ | refine Fr.drewN ?_ _ | refine Fr.alloc ?_ _ | refine Fr.setOnly ?_ _ _))
  rw [← hw3]
  have HB3 := Lib.hid hB3
  have HF3 := Lib.hid hF3
  have k0 : w3.cell? ⟨b, 0, none⟩ = some (.int .i64 T.id) := cell_of hB3 0
  have k2 : w3.cell? ⟨b, 2, none⟩ = some (.string ⟨#[99, 108, 101, 97, 114]⟩) := cell_of hB3 2
  have k6 : w3.cell? ⟨b, 6, none⟩ = some (.int .i64 r1) := cell_of hB3 6
  have q2 := free_of hB3 2
  have hlt3 := lt_of_heap hB3
  clear hw3 hB3 hF3 x1 x2 c5 c6 c7 c8 f5 f6 f7 f8
  by_cases hg : k ≠ 1 ∨ r1 ≠ T.id
  · have hLe : Hid (T.answer k v ver = ({ T with num := r0, hol := r1, nxt := r2, version := ver } : Tx).further 10) := by
      show T.answer k v ver = _
      rw [hEq.out, if_pos hg]
    have hgo : (k == 1) = false ∨ ((k == 1) = true ∧ (r1 == T.id) = false) := by
      rcases Hk.out with ⟨h1, h2⟩ | ⟨h1, h2⟩
      · right
        refine ⟨h1, ?_⟩
        rw [beq_eq_false_iff_ne]
        exact hg.resolve_left (fun h => h h2)
      · exact .inl h1
    clear hg
    rcases hgo with hgo | ⟨hgo, hgo2⟩
    all_goals
      go_wp2_with fail
      go_quiet (fail)
      go_wp2_with fail
      generalize hwd : World.drewN _ _ = wd
      have hFd : Fr (Only b) w3 wd := by rw [← hwd]; exact (Fr.refl _ _).drewN _
      have hBd := (show Fr Non w3 wd by rw [← hwd]; exact (Fr.refl _ _).drewN _).blk HB3.out (fun h => h)
      clear hwd
      refine (on_blk wd b pb pc ov ({ T with num := r0, hol := r1, nxt := r2, version := ver } : Tx) dn 10 ⟨#[99, 108, 101, 97, 114]⟩ ⟨#[]⟩ (by show wordOf T.phase = _; rw [Hph.out]; rfl) rfl hBd HL.out.1 HL.out.2).mono ?_
      rintro e w4 ⟨rfl, h1, h2⟩
      have H1 := Lib.hid ((HF3.out.trans hFd).trans h1)
      have H2 := Lib.hid h2
      clear h1 h2 hFd hBd
      go_wp2_with fail
      go_end0
      have hfp := Tx.further_parts ({ T with num := r0, hol := r1, nxt := r2, version := ver } : Tx) 10
      have hfw : (({ T with num := r0, hol := r1, nxt := r2, version := ver } : Tx).further 10).will = T.will := by unfold Tx.further; split <;> rfl
      exact ⟨rfl, ov, dn, HT.out.to H1.out (by rw [hLe.out]; exact H2.out) (by rw [hLe.out]; exact hfp.1) (by rw [hLe.out]; exact hfp.2) Hwf.out (fun _ => by rw [hLe.out, hfw]; exact Hd.out), H1.out, .inl rfl⟩
  · have hLe : Hid (T.answer k v ver = ({ T with num := r0, hol := r1, nxt := r2, version := ver, phase := 9 } : Tx)) := by
      show T.answer k v ver = _
      rw [hEq.out, if_neg hg]
    have hgo : (k == 1) = true ∧ (r1 == T.id) = true := by
      rcases Hk.out with ⟨h1, h2⟩ | ⟨h1, h2⟩
      · refine ⟨h1, ?_⟩
        rw [beq_iff_eq]
        exact Classical.byContradiction (fun h => hg (.inr h))
      · exact absurd (.inl h2) hg
    obtain ⟨hgo, hgo2⟩ := hgo
    clear hg
    go_wp2_with fail
    go_quiet (fail)
    go_wp2_with fail
    go_end0
    generalize hwd : World.drewN _ _ = wd
    have hFd : Fr (Only b) w3 (wd.setCell ⟨b, 2, none⟩ (.string ⟨#[103, 105, 118, 101]⟩)) := by rw [← hwd]; exact ((Fr.refl _ _).drewN _).setOnly 2 _
    have hBd := (show Fr Non w3 wd by rw [← hwd]; exact (Fr.refl _ _).drewN _).blk HB3.out (fun h => h)
    have hfr := HF3.out.trans hFd
    exact ⟨rfl, ov, dn, HT.out.to hfr (by rw [hLe.out]; show At _ b = _; simp [At_set_same, At_iff hBd, upd_cells, wordOf_9]) (by rw [hLe.out]) (by rw [hLe.out]) Hwf.out (fun _ => by rw [hLe.out]; exact Hd.out), hfr, .inl rfl⟩

end Go.Proofs.YtbfahkpckhbajaaDoor
