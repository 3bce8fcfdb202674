/- (*Txn).Answer: what the transaction does with a command's result, phase by phase. Conditions: the object is whole, the text read at most 2,000,000 bytes long. -/
import Derived.Test.YtbfahkpckhbajaaDoorQLook
namespace Go.Proofs.YtbfahkpckhbajaaDoor
open Go.RowKit
set_option linter.unusedSimpArgs false
set_option linter.unusedVariables false

theorem Tx.Wf.grow {T : Tx} (h : T.Wf) (ph : Int) (hl : T.old.length = T.at_) (ha : T.phase = 1) : ({ T with old := T.old ++ [T.num] } : Tx).further 6 |>.Wf := by
  have hlen := h.len
  have hat := h.at_
  unfold Tx.further
  split
  · exact ⟨h.id, h.len, by simp; omega, h.keys, by simp, h.num, h.hol, h.nxt, ⟨by simp; omega, by simp⟩, by simp⟩
  · rename_i h2
    have h2 : ¬ T.at_ + 1 = T.parts.length := h2
    exact ⟨h.id, h.len, by simp; omega, h.keys, h.phase, h.num, h.hol, h.nxt, ⟨by simp; omega, by intro _; simp; omega⟩, by simp; omega⟩

theorem answer_wf {T : Tx} (h : T.Wf) (k : Int) (v : ByteArray) (ver : Int) : (T.answer k v ver).Wf := by
  have hb := readB_bd v
  have hlen := h.len
  have hat := h.at_
  have hp := h.phase
  have ho := h.old
  unfold Tx.answer
  by_cases h0 : T.phase = 0
  · rw [if_pos h0]
    split
    · exact ⟨h.id, h.len, h.at_, h.keys, by simp, h.num, h.hol, h.nxt, ⟨ho.1, fun _ => ho.2 (by omega)⟩, by simp⟩
    · exact ⟨h.id, h.len, h.at_, h.keys, by simp, h.num, h.hol, h.nxt, ⟨ho.1, by simp⟩, by simp⟩
  rw [if_neg h0]
  by_cases h1 : T.phase = 1
  · rw [if_pos h1]; exact looked_wf h h1 k v ver
  rw [if_neg h1]
  by_cases h2 : T.phase = 2
  · rw [if_pos h2]
    split
    · have := Tx.Wf.grow (T := { T with phase := 1 }) ⟨h.id, h.len, h.at_, h.keys, by simp, h.num, h.hol, h.nxt, ⟨ho.1, fun _ => ho.2 (by omega)⟩, by simp⟩ 6 (ho.2 (by omega)) rfl
      exact this
    · exact ⟨h.id, h.len, h.at_, h.keys, by simp, h.num, h.hol, h.nxt, ⟨ho.1, fun _ => ho.2 (by omega)⟩, by simp⟩
  rw [if_neg h2]
  by_cases h3 : T.phase = 3
  · rw [if_pos h3]
    unfold Tx.asked
    split
    · exact ⟨h.id, h.len, h.at_, h.keys, by simp, h.num, h.hol, h.nxt, ⟨ho.1, fun _ => ho.2 (by omega)⟩, by simp⟩
    · exact ⟨h.id, h.len, h.at_, h.keys, by simp, h.num, h.hol, h.nxt, ⟨ho.1, fun _ => ho.2 (by omega)⟩, by simp⟩
  rw [if_neg h3]
  by_cases h4 : T.phase = 4 ∨ T.phase = 5
  · rw [if_pos h4]
    exact ⟨h.id, h.len, h.at_, h.keys, by simp, h.num, h.hol, h.nxt, ⟨ho.1, fun _ => ho.2 (by omega)⟩, by simp⟩
  rw [if_neg h4]
  by_cases h6 : T.phase = 6 ∨ T.phase = 7
  · rw [if_pos h6]
    exact ⟨h.id, h.len, by simp; omega, h.keys, by simp, h.num, h.hol, h.nxt, ⟨ho.1, by simp⟩, by simp⟩
  rw [if_neg h6]
  by_cases h8 : T.phase = 8
  · rw [if_pos h8]
    have hw : ({ T with num := (readB v).1, hol := (readB v).2.1, nxt := (readB v).2.2, version := ver } : Tx).Wf :=
      ⟨h.id, h.len, h.at_, h.keys, h.phase, hb.1, hb.2.1, hb.2.2, h.old, by intro e; have : T.phase = 2 := e; omega⟩
    simp only
    split
    · exact further_wf hw 10 (by omega) (Or.inl (by show 6 ≤ T.phase; omega)) ho.1
    · exact ⟨h.id, h.len, h.at_, h.keys, by simp, hb.1, hb.2.1, hb.2.2, ⟨ho.1, by simp⟩, by simp⟩
  rw [if_neg h8]
  by_cases h9 : T.phase = 9
  · rw [if_pos h9]
    exact further_wf (T := { T with phase := 8 }) ⟨h.id, h.len, h.at_, h.keys, by simp, h.num, h.hol, h.nxt, ⟨ho.1, by simp⟩, by simp⟩ 10 (by omega) (Or.inl (by simp)) ho.1
  rw [if_neg h9]
  exact h

set_option maxRecDepth 100000 in
set_option maxHeartbeats 400000 in
theorem answer_p0 {B : Nat} (w : World) (b pb pc : Nat) (ov : Value) (T : Tx) (k : Int) (v : ByteArray) (ver : Int) (kv : Value) (hs : v.size ≤ 2000000) (hT : IsTx B w b T pb pc ov) (ht : Gl B w) (hph : T.phase = 0) :
    Calls Tryd.prog 11 #[.pointer (some ⟨b, 0, none⟩), .agg #[.int .i64 k, .string v, .int .i64 ver, kv]] w (TxPost B w b (T.answer k v ver) pb pc ov) := by
  have hb := hT.blk
  have c2 : w.cell? ⟨b, 2, none⟩ = some (.int .i64 0) := by rw [← hph]; exact cell_of hb 2
  have f2 := free_of hb 2
  have Hwf := Lib.hid (answer_wf hT.wf k v ver)
  have Hb := Lib.hid hb
  have HT := Lib.hid hT
  have Hph := Lib.hid hph
  have hlt := lt_of_heap hb
  have hne : b ≠ w.heap.size := by omega
  have c10 : w.cell? ⟨b, 10, none⟩ = some (.int .i64 T.state) := cell_of hb 10
  have f10 := free_of hb 10
  by_cases hk : k = 1
  · have h0 : (k == 1) = true := by rw [beq_iff_eq]; exact hk
    have hLe : Hid (T.answer k v ver = { T with phase := 1 }) := by
      show T.answer k v ver = _
      unfold Tx.answer; rw [if_pos Hph.out, if_pos hk]
    clear hb hT hph hk
    go_enter Tryd.func11, Tryd.ntmps11
    go_wp2
    go_end0
    refine ⟨rfl, ov, HT.out.to (by with_reducible repeat (first | exact Fr.refl _ _ | refine Fr.drew ?_ | refine Fr.drewN ?_ _ | refine Fr.alloc ?_ _ | refine Fr.setOnly ?_ _ _)) ?_ (by rw [hLe.out]) (by rw [hLe.out]) Hwf.out, (Fr.mono (S := Only b) (by with_reducible repeat (first | exact Fr.refl _ _ | refine Fr.drew ?_ | refine Fr.drewN ?_ _ | refine Fr.alloc ?_ _ | refine Fr.setOnly ?_ _ _)) (fun _ _ e => Or.inl e)), .inl rfl⟩
    rw [hLe.out]; show At _ b = _; simp [At_set_same, At_alloc, At_drew, At_drewN, At_iff Hb.out, hlt, upd_cells]
  · have h0 : (k == 1) = false := by rw [beq_eq_false_iff_ne]; exact hk
    have hLe : Hid (T.answer k v ver = { T with phase := 10, state := 3 }) := by
      show T.answer k v ver = _
      unfold Tx.answer; rw [if_pos Hph.out, if_neg hk]
    clear hb hT hph hk
    go_enter Tryd.func11, Tryd.ntmps11
    go_wp2
    go_end0
    refine ⟨rfl, ov, HT.out.to (by with_reducible repeat (first | exact Fr.refl _ _ | refine Fr.drew ?_ | refine Fr.drewN ?_ _ | refine Fr.alloc ?_ _ | refine Fr.setOnly ?_ _ _)) ?_ (by rw [hLe.out]) (by rw [hLe.out]) Hwf.out, (Fr.mono (S := Only b) (by with_reducible repeat (first | exact Fr.refl _ _ | refine Fr.drew ?_ | refine Fr.drewN ?_ _ | refine Fr.alloc ?_ _ | refine Fr.setOnly ?_ _ _)) (fun _ _ e => Or.inl e)), .inl rfl⟩
    rw [hLe.out]; show At _ b = _; simp [At_set_same, At_alloc, At_drew, At_drewN, At_iff Hb.out, hlt, upd_cells]

set_option maxRecDepth 100000 in
set_option maxHeartbeats 400000 in
theorem answer_p1 {B : Nat} (w : World) (b pb pc : Nat) (ov : Value) (T : Tx) (k : Int) (v : ByteArray) (ver : Int) (kv : Value) (hs : v.size ≤ 2000000) (hT : IsTx B w b T pb pc ov) (ht : Gl B w) (hph : T.phase = 1) :
    Calls Tryd.prog 11 #[.pointer (some ⟨b, 0, none⟩), .agg #[.int .i64 k, .string v, .int .i64 ver, kv]] w (TxPost B w b (T.answer k v ver) pb pc ov) := by
  have hb := hT.blk
  have c2 : w.cell? ⟨b, 2, none⟩ = some (.int .i64 1) := by rw [← hph]; exact cell_of hb 2
  have f2 := free_of hb 2
  have Hwf := Lib.hid (answer_wf hT.wf k v ver)
  have Hb := Lib.hid hb
  have HT := Lib.hid hT
  have Hph := Lib.hid hph
  have hlt := lt_of_heap hb
  have hne : b ≠ w.heap.size := by omega
  have hLe : Hid (T.answer k v ver = T.looked k v ver) := by
    show T.answer k v ver = _
    unfold Tx.answer; rw [if_neg (by omega), if_pos Hph.out]
  clear hb hT hph
  go_enter Tryd.func11, Tryd.ntmps11
  go_wp2_with fail
  have hF : Fr Non w (w.alloc (.cells #[.int .i64 k, .string v, .int .i64 ver, kv] 50)) := (Fr.refl _ _).alloc _
  refine (looked_any (B := B) _ b pb pc ov T k v ver kv hs (HT.out.non hF) Hph.out (ht.non hF)).mono ?_
  rintro e w1 ⟨rfl, ov', h1, h2, h3⟩
  have H1 := Lib.hid h1
  have H2 := Lib.hid h2
  have H3 := Lib.hid h3
  clear h1 h2 h3
  go_wp2_with fail
  go_end0
  refine ⟨rfl, ov', by rw [hLe.out]; exact H1.out, (hF.lift).trans H2.out, ?_⟩
  rcases H3.out with h | ⟨g, h, hl⟩
  · exact .inl h
  · exact .inr ⟨g, h, by have := hF.size; omega⟩

set_option maxRecDepth 100000 in
set_option maxHeartbeats 400000 in
theorem answer_p3 {B : Nat} (w : World) (b pb pc : Nat) (ov : Value) (T : Tx) (k : Int) (v : ByteArray) (ver : Int) (kv : Value) (hs : v.size ≤ 2000000) (hT : IsTx B w b T pb pc ov) (ht : Gl B w) (hph : T.phase = 3) :
    Calls Tryd.prog 11 #[.pointer (some ⟨b, 0, none⟩), .agg #[.int .i64 k, .string v, .int .i64 ver, kv]] w (TxPost B w b (T.answer k v ver) pb pc ov) := by
  have hb := hT.blk
  have c2 : w.cell? ⟨b, 2, none⟩ = some (.int .i64 3) := by rw [← hph]; exact cell_of hb 2
  have f2 := free_of hb 2
  have Hwf := Lib.hid (answer_wf hT.wf k v ver)
  have Hb := Lib.hid hb
  have HT := Lib.hid hT
  have Hph := Lib.hid hph
  have hlt := lt_of_heap hb
  have hne : b ≠ w.heap.size := by omega
  have hLe : Hid (T.answer k v ver = T.asked k v ver) := by
    show T.answer k v ver = _
    unfold Tx.answer; rw [if_neg (by omega), if_neg (by omega), if_neg (by omega), if_pos Hph.out]
  have hAp : Hid ((T.asked k v ver).parts = T.parts ∧ (T.asked k v ver).old = T.old) := by
    show _ ∧ _
    unfold Tx.asked; split <;> exact ⟨rfl, rfl⟩
  clear hb hT hph
  go_enter Tryd.func11, Tryd.ntmps11
  go_wp2_with fail
  have hF : Fr Non w (w.alloc (.cells #[.int .i64 k, .string v, .int .i64 ver, kv] 50)) := (Fr.refl _ _).alloc _
  refine (asked_blk _ b pb pc ov T k v ver kv (hF.blk Hb.out (fun f => f))).mono ?_
  rintro e w1 ⟨rfl, h1, h2⟩
  have H1 := Lib.hid h1
  have H2 := Lib.hid h2
  clear h1 h2
  go_wp2_with fail
  go_end0
  have hfr : Fr (Only b) w w1 := (hF.lift).trans H1.out
  exact ⟨rfl, ov, HT.out.to hfr (by rw [hLe.out]; exact H2.out) (by rw [hLe.out]; exact hAp.out.1) (by rw [hLe.out]; exact hAp.out.2) Hwf.out, hfr.mono (fun _ _ e => Or.inl e), .inl rfl⟩

set_option maxRecDepth 100000 in
set_option maxHeartbeats 400000 in
theorem answer_p4 {B : Nat} (w : World) (b pb pc : Nat) (ov : Value) (T : Tx) (k : Int) (v : ByteArray) (ver : Int) (kv : Value) (hs : v.size ≤ 2000000) (hT : IsTx B w b T pb pc ov) (ht : Gl B w) (hph : T.phase = 4) :
    Calls Tryd.prog 11 #[.pointer (some ⟨b, 0, none⟩), .agg #[.int .i64 k, .string v, .int .i64 ver, kv]] w (TxPost B w b (T.answer k v ver) pb pc ov) := by
  have hb := hT.blk
  have c2 : w.cell? ⟨b, 2, none⟩ = some (.int .i64 4) := by rw [← hph]; exact cell_of hb 2
  have f2 := free_of hb 2
  have Hwf := Lib.hid (answer_wf hT.wf k v ver)
  have Hb := Lib.hid hb
  have HT := Lib.hid hT
  have Hph := Lib.hid hph
  have hlt := lt_of_heap hb
  have hne : b ≠ w.heap.size := by omega
  have hLe : Hid (T.answer k v ver = { T with phase := 1 }) := by
    show T.answer k v ver = _
    unfold Tx.answer; rw [if_neg (by omega), if_neg (by omega), if_neg (by omega), if_neg (by omega), if_pos (by omega)]
  clear hb hT hph
  go_enter Tryd.func11, Tryd.ntmps11
  go_wp2
  go_end0
  refine ⟨rfl, ov, HT.out.to (by with_reducible repeat (first | exact Fr.refl _ _ | refine Fr.drew ?_ | refine Fr.drewN ?_ _ | refine Fr.alloc ?_ _ | refine Fr.setOnly ?_ _ _)) ?_ (by rw [hLe.out]) (by rw [hLe.out]) Hwf.out, (Fr.mono (S := Only b) (by with_reducible repeat (first | exact Fr.refl _ _ | refine Fr.drew ?_ | refine Fr.drewN ?_ _ | refine Fr.alloc ?_ _ | refine Fr.setOnly ?_ _ _)) (fun _ _ e => Or.inl e)), .inl rfl⟩
  rw [hLe.out]; show At _ b = _; simp [At_set_same, At_alloc, At_drew, At_drewN, At_iff Hb.out, hlt, upd_cells]

set_option maxRecDepth 100000 in
set_option maxHeartbeats 400000 in
theorem answer_p5 {B : Nat} (w : World) (b pb pc : Nat) (ov : Value) (T : Tx) (k : Int) (v : ByteArray) (ver : Int) (kv : Value) (hs : v.size ≤ 2000000) (hT : IsTx B w b T pb pc ov) (ht : Gl B w) (hph : T.phase = 5) :
    Calls Tryd.prog 11 #[.pointer (some ⟨b, 0, none⟩), .agg #[.int .i64 k, .string v, .int .i64 ver, kv]] w (TxPost B w b (T.answer k v ver) pb pc ov) := by
  have hb := hT.blk
  have c2 : w.cell? ⟨b, 2, none⟩ = some (.int .i64 5) := by rw [← hph]; exact cell_of hb 2
  have f2 := free_of hb 2
  have Hwf := Lib.hid (answer_wf hT.wf k v ver)
  have Hb := Lib.hid hb
  have HT := Lib.hid hT
  have Hph := Lib.hid hph
  have hlt := lt_of_heap hb
  have hne : b ≠ w.heap.size := by omega
  have hLe : Hid (T.answer k v ver = { T with phase := 1 }) := by
    show T.answer k v ver = _
    unfold Tx.answer; rw [if_neg (by omega), if_neg (by omega), if_neg (by omega), if_neg (by omega), if_pos (by omega)]
  clear hb hT hph
  go_enter Tryd.func11, Tryd.ntmps11
  go_wp2
  go_end0
  refine ⟨rfl, ov, HT.out.to (by with_reducible repeat (first | exact Fr.refl _ _ | refine Fr.drew ?_ | refine Fr.drewN ?_ _ | refine Fr.alloc ?_ _ | refine Fr.setOnly ?_ _ _)) ?_ (by rw [hLe.out]) (by rw [hLe.out]) Hwf.out, (Fr.mono (S := Only b) (by with_reducible repeat (first | exact Fr.refl _ _ | refine Fr.drew ?_ | refine Fr.drewN ?_ _ | refine Fr.alloc ?_ _ | refine Fr.setOnly ?_ _ _)) (fun _ _ e => Or.inl e)), .inl rfl⟩
  rw [hLe.out]; show At _ b = _; simp [At_set_same, At_alloc, At_drew, At_drewN, At_iff Hb.out, hlt, upd_cells]

set_option maxRecDepth 100000 in
set_option maxHeartbeats 400000 in
theorem answer_p6 {B : Nat} (w : World) (b pb pc : Nat) (ov : Value) (T : Tx) (k : Int) (v : ByteArray) (ver : Int) (kv : Value) (hs : v.size ≤ 2000000) (hT : IsTx B w b T pb pc ov) (ht : Gl B w) (hph : T.phase = 6) :
    Calls Tryd.prog 11 #[.pointer (some ⟨b, 0, none⟩), .agg #[.int .i64 k, .string v, .int .i64 ver, kv]] w (TxPost B w b (T.answer k v ver) pb pc ov) := by
  have hb := hT.blk
  have c2 : w.cell? ⟨b, 2, none⟩ = some (.int .i64 6) := by rw [← hph]; exact cell_of hb 2
  have f2 := free_of hb 2
  have Hwf := Lib.hid (answer_wf hT.wf k v ver)
  have Hb := Lib.hid hb
  have HT := Lib.hid hT
  have Hph := Lib.hid hph
  have hlt := lt_of_heap hb
  have hne : b ≠ w.heap.size := by omega
  have c3 : w.cell? ⟨b, 3, none⟩ = some (.int .i64 T.at_) := cell_of hb 3
  have f3 := free_of hb 3
  have c9 : w.cell? ⟨b, 9, none⟩ = some (.bool T.will) := cell_of hb 9
  have f9 := free_of hb 9
  have c10 : w.cell? ⟨b, 10, none⟩ = some (.int .i64 T.state) := cell_of hb 10
  have f10 := free_of hb 10
  by_cases hk : k = 1
  · have h0 : (k == 1) = true := by rw [beq_iff_eq]; exact hk
    have hLe : Hid (T.answer k v ver = { T with phase := 8, at_ := 0, will := true, state := 2 }) := by
      show T.answer k v ver = _
      unfold Tx.answer; rw [if_neg (by omega), if_neg (by omega), if_neg (by omega), if_neg (by omega), if_neg (by omega), if_pos (by omega)]
      simp [hk, Hph.out]
    clear hb hT hph hk
    go_enter Tryd.func11, Tryd.ntmps11
    go_wp2
    go_end0
    refine ⟨rfl, ov, HT.out.to (by with_reducible repeat (first | exact Fr.refl _ _ | refine Fr.drew ?_ | refine Fr.drewN ?_ _ | refine Fr.alloc ?_ _ | refine Fr.setOnly ?_ _ _)) ?_ (by rw [hLe.out]) (by rw [hLe.out]) Hwf.out, (Fr.mono (S := Only b) (by with_reducible repeat (first | exact Fr.refl _ _ | refine Fr.drew ?_ | refine Fr.drewN ?_ _ | refine Fr.alloc ?_ _ | refine Fr.setOnly ?_ _ _)) (fun _ _ e => Or.inl e)), .inl rfl⟩
    rw [hLe.out]; show At _ b = _; simp [At_set_same, At_alloc, At_drew, At_drewN, At_iff Hb.out, hlt, upd_cells]
  · have h0 : (k == 1) = false := by rw [beq_eq_false_iff_ne]; exact hk
    have hLe : Hid (T.answer k v ver = { T with phase := 8, at_ := 0, will := false, state := 3 }) := by
      show T.answer k v ver = _
      unfold Tx.answer; rw [if_neg (by omega), if_neg (by omega), if_neg (by omega), if_neg (by omega), if_neg (by omega), if_pos (by omega)]
      simp [hk, Hph.out]
    clear hb hT hph hk
    go_enter Tryd.func11, Tryd.ntmps11
    go_wp2
    go_end0
    refine ⟨rfl, ov, HT.out.to (by with_reducible repeat (first | exact Fr.refl _ _ | refine Fr.drew ?_ | refine Fr.drewN ?_ _ | refine Fr.alloc ?_ _ | refine Fr.setOnly ?_ _ _)) ?_ (by rw [hLe.out]) (by rw [hLe.out]) Hwf.out, (Fr.mono (S := Only b) (by with_reducible repeat (first | exact Fr.refl _ _ | refine Fr.drew ?_ | refine Fr.drewN ?_ _ | refine Fr.alloc ?_ _ | refine Fr.setOnly ?_ _ _)) (fun _ _ e => Or.inl e)), .inl rfl⟩
    rw [hLe.out]; show At _ b = _; simp [At_set_same, At_alloc, At_drew, At_drewN, At_iff Hb.out, hlt, upd_cells]

set_option maxRecDepth 100000 in
set_option maxHeartbeats 400000 in
theorem answer_p7 {B : Nat} (w : World) (b pb pc : Nat) (ov : Value) (T : Tx) (k : Int) (v : ByteArray) (ver : Int) (kv : Value) (hs : v.size ≤ 2000000) (hT : IsTx B w b T pb pc ov) (ht : Gl B w) (hph : T.phase = 7) :
    Calls Tryd.prog 11 #[.pointer (some ⟨b, 0, none⟩), .agg #[.int .i64 k, .string v, .int .i64 ver, kv]] w (TxPost B w b (T.answer k v ver) pb pc ov) := by
  have hb := hT.blk
  have c2 : w.cell? ⟨b, 2, none⟩ = some (.int .i64 7) := by rw [← hph]; exact cell_of hb 2
  have f2 := free_of hb 2
  have Hwf := Lib.hid (answer_wf hT.wf k v ver)
  have Hb := Lib.hid hb
  have HT := Lib.hid hT
  have Hph := Lib.hid hph
  have hlt := lt_of_heap hb
  have hne : b ≠ w.heap.size := by omega
  have c3 : w.cell? ⟨b, 3, none⟩ = some (.int .i64 T.at_) := cell_of hb 3
  have f3 := free_of hb 3
  have c9 : w.cell? ⟨b, 9, none⟩ = some (.bool T.will) := cell_of hb 9
  have f9 := free_of hb 9
  have c10 : w.cell? ⟨b, 10, none⟩ = some (.int .i64 T.state) := cell_of hb 10
  have f10 := free_of hb 10
  by_cases hk : k = 1
  · have h0 : (k == 1) = true := by rw [beq_iff_eq]; exact hk
    have hLe : Hid (T.answer k v ver = { T with phase := 8, at_ := 0, will := false, state := 3 }) := by
      show T.answer k v ver = _
      unfold Tx.answer; rw [if_neg (by omega), if_neg (by omega), if_neg (by omega), if_neg (by omega), if_neg (by omega), if_pos (by omega)]
      simp [hk, Hph.out]
    clear hb hT hph hk
    go_enter Tryd.func11, Tryd.ntmps11
    go_wp2
    go_end0
    refine ⟨rfl, ov, HT.out.to (by with_reducible repeat (first | exact Fr.refl _ _ | refine Fr.drew ?_ | refine Fr.drewN ?_ _ | refine Fr.alloc ?_ _ | refine Fr.setOnly ?_ _ _)) ?_ (by rw [hLe.out]) (by rw [hLe.out]) Hwf.out, (Fr.mono (S := Only b) (by with_reducible repeat (first | exact Fr.refl _ _ | refine Fr.drew ?_ | refine Fr.drewN ?_ _ | refine Fr.alloc ?_ _ | refine Fr.setOnly ?_ _ _)) (fun _ _ e => Or.inl e)), .inl rfl⟩
    rw [hLe.out]; show At _ b = _; simp [At_set_same, At_alloc, At_drew, At_drewN, At_iff Hb.out, hlt, upd_cells]
  · have h0 : (k == 1) = false := by rw [beq_eq_false_iff_ne]; exact hk
    have hLe : Hid (T.answer k v ver = { T with phase := 8, at_ := 0, will := false, state := 3 }) := by
      show T.answer k v ver = _
      unfold Tx.answer; rw [if_neg (by omega), if_neg (by omega), if_neg (by omega), if_neg (by omega), if_neg (by omega), if_pos (by omega)]
      simp [hk, Hph.out]
    clear hb hT hph hk
    go_enter Tryd.func11, Tryd.ntmps11
    go_wp2
    go_end0
    refine ⟨rfl, ov, HT.out.to (by with_reducible repeat (first | exact Fr.refl _ _ | refine Fr.drew ?_ | refine Fr.drewN ?_ _ | refine Fr.alloc ?_ _ | refine Fr.setOnly ?_ _ _)) ?_ (by rw [hLe.out]) (by rw [hLe.out]) Hwf.out, (Fr.mono (S := Only b) (by with_reducible repeat (first | exact Fr.refl _ _ | refine Fr.drew ?_ | refine Fr.drewN ?_ _ | refine Fr.alloc ?_ _ | refine Fr.setOnly ?_ _ _)) (fun _ _ e => Or.inl e)), .inl rfl⟩
    rw [hLe.out]; show At _ b = _; simp [At_set_same, At_alloc, At_drew, At_drewN, At_iff Hb.out, hlt, upd_cells]

set_option maxRecDepth 100000 in
set_option maxHeartbeats 400000 in
theorem answer_p9 {B : Nat} (w : World) (b pb pc : Nat) (ov : Value) (T : Tx) (k : Int) (v : ByteArray) (ver : Int) (kv : Value) (hs : v.size ≤ 2000000) (hT : IsTx B w b T pb pc ov) (ht : Gl B w) (hph : T.phase = 9) :
    Calls Tryd.prog 11 #[.pointer (some ⟨b, 0, none⟩), .agg #[.int .i64 k, .string v, .int .i64 ver, kv]] w (TxPost B w b (T.answer k v ver) pb pc ov) := by
  have hb := hT.blk
  have c2 : w.cell? ⟨b, 2, none⟩ = some (.int .i64 9) := by rw [← hph]; exact cell_of hb 2
  have f2 := free_of hb 2
  have Hwf := Lib.hid (answer_wf hT.wf k v ver)
  have Hb := Lib.hid hb
  have HT := Lib.hid hT
  have Hph := Lib.hid hph
  have hlt := lt_of_heap hb
  have hne : b ≠ w.heap.size := by omega
  have hLe : Hid (T.answer k v ver = ({ T with phase := 8 } : Tx).further 10) := by
    show T.answer k v ver = _
    unfold Tx.answer; rw [if_neg (by omega), if_neg (by omega), if_neg (by omega), if_neg (by omega), if_neg (by omega), if_neg (by omega), if_neg (by omega), if_pos Hph.out]
  clear hb hT hph
  go_enter Tryd.func11, Tryd.ntmps11
  go_wp2_with fail
  obtain ⟨W, hW⟩ : ∃ W, W = (w.setCell ⟨b, 2, none⟩ (.int .i64 8)).alloc (.cells #[.int .i64 k, .string v, .int .i64 ver, kv] 50) := ⟨_, rfl⟩
  have hF : Fr (Only b) w W := by rw [hW]; exact ((Fr.refl _ _).setOnly 2 _).alloc _
  have hB : W.heap[b]? = some (.cells #[.int .i64 ({ T with phase := 8 } : Tx).id, .slice (some ⟨pb, 0, none⟩) ({ T with phase := 8 } : Tx).parts.length pc, .int .i64 ({ T with phase := 8 } : Tx).phase, .int .i64 ({ T with phase := 8 } : Tx).at_, ov, .int .i64 ({ T with phase := 8 } : Tx).num, .int .i64 ({ T with phase := 8 } : Tx).hol, .int .i64 ({ T with phase := 8 } : Tx).nxt, .int .i64 ({ T with phase := 8 } : Tx).version, .bool ({ T with phase := 8 } : Tx).will, .int .i64 ({ T with phase := 8 } : Tx).state] 59 (0, 0)) := by
    show At W b = _
    rw [hW]; simp [At_set_same, At_alloc, At_iff Hb.out, hlt, upd_cells]
  rw [← hW]
  clear hW
  refine (further_blk W b pb pc ov ({ T with phase := 8 } : Tx) 10 hB HT.out.wf.at_ HT.out.wf.len.2).mono ?_
  rintro e w1 ⟨rfl, h1, h2⟩
  have H1 := Lib.hid h1
  have H2 := Lib.hid h2
  clear h1 h2 hB
  go_wp2_with fail
  go_end0
  have hfr : Fr (Only b) w w1 := hF.trans H1.out
  have hfp := Tx.further_parts ({ T with phase := 8 } : Tx) 10
  exact ⟨rfl, ov, HT.out.to hfr (by rw [hLe.out]; exact H2.out) (by rw [hLe.out]; exact hfp.1) (by rw [hLe.out]; exact hfp.2) Hwf.out, hfr.mono (fun _ _ e => Or.inl e), .inl rfl⟩

set_option maxRecDepth 100000 in
set_option maxHeartbeats 400000 in
theorem answer_p10 {B : Nat} (w : World) (b pb pc : Nat) (ov : Value) (T : Tx) (k : Int) (v : ByteArray) (ver : Int) (kv : Value) (hs : v.size ≤ 2000000) (hT : IsTx B w b T pb pc ov) (ht : Gl B w) (hph : T.phase = 10) :
    Calls Tryd.prog 11 #[.pointer (some ⟨b, 0, none⟩), .agg #[.int .i64 k, .string v, .int .i64 ver, kv]] w (TxPost B w b (T.answer k v ver) pb pc ov) := by
  have hb := hT.blk
  have c2 : w.cell? ⟨b, 2, none⟩ = some (.int .i64 10) := by rw [← hph]; exact cell_of hb 2
  have f2 := free_of hb 2
  have Hwf := Lib.hid (answer_wf hT.wf k v ver)
  have Hb := Lib.hid hb
  have HT := Lib.hid hT
  have Hph := Lib.hid hph
  have hlt := lt_of_heap hb
  have hne : b ≠ w.heap.size := by omega
  have hLe : Hid (T.answer k v ver = T) := by
    show T.answer k v ver = _
    unfold Tx.answer; rw [if_neg (by omega), if_neg (by omega), if_neg (by omega), if_neg (by omega), if_neg (by omega), if_neg (by omega), if_neg (by omega), if_neg (by omega)]
  clear hb hT hph
  go_enter Tryd.func11, Tryd.ntmps11
  go_wp2
  go_end0
  refine ⟨rfl, ov, HT.out.to (by with_reducible repeat (first | exact Fr.refl _ _ | refine Fr.drew ?_ | refine Fr.drewN ?_ _ | refine Fr.alloc ?_ _ | refine Fr.setOnly ?_ _ _)) ?_ (by rw [hLe.out]) (by rw [hLe.out]) Hwf.out, (Fr.mono (S := Only b) (by with_reducible repeat (first | exact Fr.refl _ _ | refine Fr.drew ?_ | refine Fr.drewN ?_ _ | refine Fr.alloc ?_ _ | refine Fr.setOnly ?_ _ _)) (fun _ _ e => Or.inl e)), .inl rfl⟩
  rw [hLe.out]; show At _ b = _; simp [At_set_same, At_alloc, At_drew, At_drewN, At_iff Hb.out, hlt, upd_cells]

end Go.Proofs.YtbfahkpckhbajaaDoor
