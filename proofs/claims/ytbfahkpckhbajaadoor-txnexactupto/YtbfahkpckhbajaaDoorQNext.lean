/- (*Txn).Next: the command that a transaction has done next. Condition: the object is whole. -/
import Derived.Test.YtbfahkpckhbajaaDoorQTxn
import Derived.Test.YtbfahkpckhbajaaDoorQText
namespace Go.Proofs.YtbfahkpckhbajaaDoor
open Go.RowKit
set_option linter.unusedSimpArgs false
set_option linter.unusedVariables false

/-- The next command: its kind, key, value and version; false: there is none any more. -/
def Tx.next (T : Tx) : (Int × ByteArray × ByteArray × Int) × Bool :=
  if T.phase = 0 then ((4, recordB T.id, openB, 0), true)
  else if T.phase = 1 ∨ T.phase = 8 then ((2, dataB T.part.1, ⟨#[]⟩, 0), true)
  else if T.phase = 2 then ((4, dataB T.part.1, textB T.num T.id (T.num + T.part.2), T.version), true)
  else if T.phase = 3 then ((2, recordB T.hol, ⟨#[]⟩, 0), true)
  else if T.phase = 4 then ((4, recordB T.hol, offB, T.version), true)
  else if T.phase = 5 ∨ T.phase = 9 then ((4, dataB T.part.1, textB (if T.will then T.nxt else T.num) 0 0, T.version), true)
  else if T.phase = 6 then ((4, recordB T.id, doneB, 1), true)
  else if T.phase = 7 then ((4, recordB T.id, offB, 1), true)
  else ((0, ⟨#[]⟩, ⟨#[]⟩, 0), false)
theorem next_eq (T : Tx) : T.next = T.next := rfl
abbrev cmdOf (c : Int × ByteArray × ByteArray × Int) : Value := cmdV c.1 c.2.1 c.2.2.1 c.2.2.2
def NextPost (w : World) (T : Tx) (e : Ending) (w' : World) : Prop := e = .returned (.tuple #[cmdOf T.next.1, .bool T.next.2]) ∧ Fr Non w w'

set_option maxRecDepth 100000 in
set_option maxHeartbeats 1000000 in
theorem next_p1 {B : Nat} (w : World) (b pb pc : Nat) (ov : Value) (T : Tx) (hT : IsTx B w b T pb pc ov) (ht : Gl B w) (hph : T.phase = 1) :
    Calls Tryd.prog 5 #[.pointer (some ⟨b, 0, none⟩)] w (NextPost w T) := by
  have hb := hT.blk
  have c2 : w.cell? ⟨b, 2, none⟩ = some (.int .i64 1) := by rw [← hph]; exact cell_of hb 2
  have c0 : w.cell? ⟨b, 0, none⟩ = some (.int .i64 T.id) := cell_of hb 0
  have c1 : w.cell? ⟨b, 1, none⟩ = some (.slice (some ⟨pb, 0, none⟩) T.parts.length pc) := cell_of hb 1
  have c3 : w.cell? ⟨b, 3, none⟩ = some (.int .i64 T.at_) := cell_of hb 3
  have c5 : w.cell? ⟨b, 5, none⟩ = some (.int .i64 T.num) := cell_of hb 5
  have c6 : w.cell? ⟨b, 6, none⟩ = some (.int .i64 T.hol) := cell_of hb 6
  have c7 : w.cell? ⟨b, 7, none⟩ = some (.int .i64 T.nxt) := cell_of hb 7
  have c8 : w.cell? ⟨b, 8, none⟩ = some (.int .i64 T.version) := cell_of hb 8
  have c9 : w.cell? ⟨b, 9, none⟩ = some (.bool T.will) := cell_of hb 9
  have hwf := hT.wf
  have hat := hwf.at_
  have hlen := hwf.len.2
  have hpart := hwf.part
  have hbase := hT.base.2.2
  have Hpart := Lib.hid (hT.parts T.at_ hat)
  have p0 : w.cell? ⟨pb, T.at_ * 2, none⟩ = some (.string T.part.1) := Hpart.out.1
  have p1 : w.cell? ⟨pb, T.at_ * 2 + 1, none⟩ = some (.int .i64 T.part.2) := Hpart.out.2
  have hq1 : (0 : Int) ≤ ((T.at_ : Nat) : Int) := by omega
  have hq2 : ((T.at_ : Nat) : Int) < ((T.parts.length : Nat) : Int) := by omega
  have Hb := Lib.hid hb
  have HT := Lib.hid hT
  have Hph := Lib.hid hph
  have hlt := lt_of_heap hb
  have hne : b ≠ w.heap.size := by omega
  have hid1 := hwf.id
  have hnum := hwf.num
  have hhol := hwf.hol
  have hnxt := hwf.nxt
  have HE := Lib.hid (next_eq T)
  have hE : Hid (T.next = ((2, dataB T.part.1, ⟨#[]⟩, 0), true)) := by
    show T.next = _
    unfold Tx.next; rw [if_neg (by omega), if_pos (by omega)]
  generalize hy : T.part.1 = y at *
  generalize hz : T.part.2 = z at *
  have Hy := Lib.hid hy
  have Hz := Lib.hid hz
  obtain ⟨hp1, hp2, hp3⟩ := hpart
  have hyb : y.size ≤ 2000000 := by omega
  clear hy hz hb hT hph hwf
  go_enter Tryd.func5, Tryd.ntmps5
  go_wp2_with fail
  go_quiet (fail)
  go_wp2_with fail
  go_quiet ((go_at_call 17; exact quiet_add_same (data_any _ _ hyb)))
  go_wp2_with fail
  have HR : Hid (∀ w', Fr Non (w.alloc (.cells #[.int .i64 0, .string ⟨#[]⟩, .string ⟨#[]⟩, .int .i64 0] 31)) w' → w'.heap[w.heap.size]? = some (.cells #[.int .i64 0, .string ⟨#[]⟩, .string ⟨#[]⟩, .int .i64 0] 31 (0, 0))) := fun w' hf => hf.blk (heap_alloc_new w _) (fun f => f)
  have HZ : Hid (Fr Non w (w.alloc (.cells #[.int .i64 0, .string ⟨#[]⟩, .string ⟨#[]⟩, .int .i64 0] 31))) := (Fr.refl _ _).alloc _
  refine bodyPost_ret (v := .tuple #[cmdV 2 (dataB y) ⟨#[]⟩ 0, .bool true]) (by simp [results, Tryd.results5, go_sem]) rfl ⟨by rw [hE.out], ?_⟩
  exact Fr.then (S := Non) (T := Only w.heap.size) HZ.out (by with_reducible repeat (first | exact Fr.refl _ _ | refine Fr.setOnly ?_ _ _ | refine Fr.drew ?_ | refine Fr.drewN ?_ _)) (fun i hi e => absurd hi (by rw [e]; omega))

set_option maxRecDepth 100000 in
set_option maxHeartbeats 1000000 in
theorem next_p8 {B : Nat} (w : World) (b pb pc : Nat) (ov : Value) (T : Tx) (hT : IsTx B w b T pb pc ov) (ht : Gl B w) (hph : T.phase = 8) :
    Calls Tryd.prog 5 #[.pointer (some ⟨b, 0, none⟩)] w (NextPost w T) := by
  have hb := hT.blk
  have c2 : w.cell? ⟨b, 2, none⟩ = some (.int .i64 8) := by rw [← hph]; exact cell_of hb 2
  have c0 : w.cell? ⟨b, 0, none⟩ = some (.int .i64 T.id) := cell_of hb 0
  have c1 : w.cell? ⟨b, 1, none⟩ = some (.slice (some ⟨pb, 0, none⟩) T.parts.length pc) := cell_of hb 1
  have c3 : w.cell? ⟨b, 3, none⟩ = some (.int .i64 T.at_) := cell_of hb 3
  have c5 : w.cell? ⟨b, 5, none⟩ = some (.int .i64 T.num) := cell_of hb 5
  have c6 : w.cell? ⟨b, 6, none⟩ = some (.int .i64 T.hol) := cell_of hb 6
  have c7 : w.cell? ⟨b, 7, none⟩ = some (.int .i64 T.nxt) := cell_of hb 7
  have c8 : w.cell? ⟨b, 8, none⟩ = some (.int .i64 T.version) := cell_of hb 8
  have c9 : w.cell? ⟨b, 9, none⟩ = some (.bool T.will) := cell_of hb 9
  have hwf := hT.wf
  have hat := hwf.at_
  have hlen := hwf.len.2
  have hpart := hwf.part
  have hbase := hT.base.2.2
  have Hpart := Lib.hid (hT.parts T.at_ hat)
  have p0 : w.cell? ⟨pb, T.at_ * 2, none⟩ = some (.string T.part.1) := Hpart.out.1
  have p1 : w.cell? ⟨pb, T.at_ * 2 + 1, none⟩ = some (.int .i64 T.part.2) := Hpart.out.2
  have hq1 : (0 : Int) ≤ ((T.at_ : Nat) : Int) := by omega
  have hq2 : ((T.at_ : Nat) : Int) < ((T.parts.length : Nat) : Int) := by omega
  have Hb := Lib.hid hb
  have HT := Lib.hid hT
  have Hph := Lib.hid hph
  have hlt := lt_of_heap hb
  have hne : b ≠ w.heap.size := by omega
  have hid1 := hwf.id
  have hnum := hwf.num
  have hhol := hwf.hol
  have hnxt := hwf.nxt
  have HE := Lib.hid (next_eq T)
  have hE : Hid (T.next = ((2, dataB T.part.1, ⟨#[]⟩, 0), true)) := by
    show T.next = _
    unfold Tx.next; rw [if_neg (by omega), if_pos (by omega)]
  generalize hy : T.part.1 = y at *
  generalize hz : T.part.2 = z at *
  have Hy := Lib.hid hy
  have Hz := Lib.hid hz
  obtain ⟨hp1, hp2, hp3⟩ := hpart
  have hyb : y.size ≤ 2000000 := by omega
  clear hy hz hb hT hph hwf
  go_enter Tryd.func5, Tryd.ntmps5
  go_wp2_with fail
  go_quiet (fail)
  go_wp2_with fail
  go_quiet ((go_at_call 17; exact quiet_add_same (data_any _ _ hyb)))
  go_wp2_with fail
  have HR : Hid (∀ w', Fr Non (w.alloc (.cells #[.int .i64 0, .string ⟨#[]⟩, .string ⟨#[]⟩, .int .i64 0] 31)) w' → w'.heap[w.heap.size]? = some (.cells #[.int .i64 0, .string ⟨#[]⟩, .string ⟨#[]⟩, .int .i64 0] 31 (0, 0))) := fun w' hf => hf.blk (heap_alloc_new w _) (fun f => f)
  have HZ : Hid (Fr Non w (w.alloc (.cells #[.int .i64 0, .string ⟨#[]⟩, .string ⟨#[]⟩, .int .i64 0] 31))) := (Fr.refl _ _).alloc _
  refine bodyPost_ret (v := .tuple #[cmdV 2 (dataB y) ⟨#[]⟩ 0, .bool true]) (by simp [results, Tryd.results5, go_sem]) rfl ⟨by rw [hE.out], ?_⟩
  exact Fr.then (S := Non) (T := Only w.heap.size) HZ.out (by with_reducible repeat (first | exact Fr.refl _ _ | refine Fr.setOnly ?_ _ _ | refine Fr.drew ?_ | refine Fr.drewN ?_ _)) (fun i hi e => absurd hi (by rw [e]; omega))

set_option maxRecDepth 100000 in
set_option maxHeartbeats 1000000 in
theorem next_p0 {B : Nat} (w : World) (b pb pc : Nat) (ov : Value) (T : Tx) (hT : IsTx B w b T pb pc ov) (ht : Gl B w) (hph : T.phase = 0) :
    Calls Tryd.prog 5 #[.pointer (some ⟨b, 0, none⟩)] w (NextPost w T) := by
  have hb := hT.blk
  have c2 : w.cell? ⟨b, 2, none⟩ = some (.int .i64 0) := by rw [← hph]; exact cell_of hb 2
  have c0 : w.cell? ⟨b, 0, none⟩ = some (.int .i64 T.id) := cell_of hb 0
  have c1 : w.cell? ⟨b, 1, none⟩ = some (.slice (some ⟨pb, 0, none⟩) T.parts.length pc) := cell_of hb 1
  have c3 : w.cell? ⟨b, 3, none⟩ = some (.int .i64 T.at_) := cell_of hb 3
  have c5 : w.cell? ⟨b, 5, none⟩ = some (.int .i64 T.num) := cell_of hb 5
  have c6 : w.cell? ⟨b, 6, none⟩ = some (.int .i64 T.hol) := cell_of hb 6
  have c7 : w.cell? ⟨b, 7, none⟩ = some (.int .i64 T.nxt) := cell_of hb 7
  have c8 : w.cell? ⟨b, 8, none⟩ = some (.int .i64 T.version) := cell_of hb 8
  have c9 : w.cell? ⟨b, 9, none⟩ = some (.bool T.will) := cell_of hb 9
  have hwf := hT.wf
  have hat := hwf.at_
  have hlen := hwf.len.2
  have hpart := hwf.part
  have hbase := hT.base.2.2
  have Hpart := Lib.hid (hT.parts T.at_ hat)
  have p0 : w.cell? ⟨pb, T.at_ * 2, none⟩ = some (.string T.part.1) := Hpart.out.1
  have p1 : w.cell? ⟨pb, T.at_ * 2 + 1, none⟩ = some (.int .i64 T.part.2) := Hpart.out.2
  have hq1 : (0 : Int) ≤ ((T.at_ : Nat) : Int) := by omega
  have hq2 : ((T.at_ : Nat) : Int) < ((T.parts.length : Nat) : Int) := by omega
  have Hb := Lib.hid hb
  have HT := Lib.hid hT
  have Hph := Lib.hid hph
  have hlt := lt_of_heap hb
  have hne : b ≠ w.heap.size := by omega
  have hid1 := hwf.id
  have hnum := hwf.num
  have hhol := hwf.hol
  have hnxt := hwf.nxt
  have HE := Lib.hid (next_eq T)
  have hE : Hid (T.next = ((4, recordB T.id, openB, 0), true)) := by
    show T.next = _
    unfold Tx.next; rw [if_pos Hph.out]
  generalize hy : T.part.1 = y at *
  generalize hz : T.part.2 = z at *
  have Hy := Lib.hid hy
  have Hz := Lib.hid hz
  obtain ⟨hp1, hp2, hp3⟩ := hpart
  have hyb : y.size ≤ 2000000 := by omega
  clear hy hz hb hT hph hwf
  go_enter Tryd.func5, Tryd.ntmps5
  go_wp2_with fail
  go_quiet (fail)
  go_wp2_with fail
  go_quiet ((go_at_call 17; exact quiet_add_same (data_any _ _ hyb)))
  go_wp2_with fail
  have HR : Hid (∀ w', Fr Non (w.alloc (.cells #[.int .i64 0, .string ⟨#[]⟩, .string ⟨#[]⟩, .int .i64 0] 31)) w' → w'.heap[w.heap.size]? = some (.cells #[.int .i64 0, .string ⟨#[]⟩, .string ⟨#[]⟩, .int .i64 0] 31 (0, 0))) := fun w' hf => hf.blk (heap_alloc_new w _) (fun f => f)
  have HZ : Hid (Fr Non w (w.alloc (.cells #[.int .i64 0, .string ⟨#[]⟩, .string ⟨#[]⟩, .int .i64 0] 31))) := (Fr.refl _ _).alloc _
  refine (record_any (B := B) T.id _ (by omega) (by omega) (ht.non (HZ.out.trans (by with_reducible repeat (first | exact Fr.refl _ _ | refine Fr.drew ?_ | refine Fr.drewN ?_ _ | refine Fr.alloc ?_ _))))).mono ?_
  rintro e w1 ⟨rfl, hf⟩
  have Hf_w1 : Hid (Fr Non (w.alloc (.cells #[.int .i64 0, .string ⟨#[]⟩, .string ⟨#[]⟩, .int .i64 0] 31)) w1) := Fr.trans (by with_reducible repeat (first | exact Fr.refl _ _ | refine Fr.drew ?_ | refine Fr.drewN ?_ _ | refine Fr.alloc ?_ _)) hf
  clear hf
  go_wp2_with fail
  refine (swap_any _ _ _ _).mono ?_
  rintro e w2 ⟨rfl, hf⟩
  have Hf_w2 : Hid (Fr Non (w.alloc (.cells #[.int .i64 0, .string ⟨#[]⟩, .string ⟨#[]⟩, .int .i64 0] 31)) w2) := Fr.trans Hf_w1.out hf
  clear hf
  have hr_w2 := HR.out _ Hf_w2.out
  have r0 : w2.cell? ⟨w.heap.size, 0, none⟩ = some (.int .i64 0) := cell_of hr_w2 0
  have r1 : w2.cell? ⟨w.heap.size, 1, none⟩ = some (.string ⟨#[]⟩) := cell_of hr_w2 1
  have r2 : w2.cell? ⟨w.heap.size, 2, none⟩ = some (.string ⟨#[]⟩) := cell_of hr_w2 2
  have r3 : w2.cell? ⟨w.heap.size, 3, none⟩ = some (.int .i64 0) := cell_of hr_w2 3
  have r4 := free_of hr_w2 0
  have r5 := free_of hr_w2 1
  have r6 := free_of hr_w2 2
  have r7 := free_of hr_w2 3
  have hrl := lt_of_heap hr_w2
  clear hr_w2
  go_wp2_with fail
  refine bodyPost_ret (v := .tuple #[cmdV 4 (recordB T.id) openB 0, .bool true]) (by simp [results, Tryd.results5, go_sem, r0, r1, r2, r3, openB]) rfl ⟨by rw [hE.out], ?_⟩
  exact (HZ.out.trans Hf_w2.out).then (T := Only w.heap.size) (by with_reducible repeat (first | exact Fr.refl _ _ | refine Fr.setOnly ?_ _ _ | refine Fr.drew ?_ | refine Fr.drewN ?_ _)) (fun i hi e => absurd hi (by rw [e]; omega))

set_option maxRecDepth 100000 in
set_option maxHeartbeats 1000000 in
theorem next_p6 {B : Nat} (w : World) (b pb pc : Nat) (ov : Value) (T : Tx) (hT : IsTx B w b T pb pc ov) (ht : Gl B w) (hph : T.phase = 6) :
    Calls Tryd.prog 5 #[.pointer (some ⟨b, 0, none⟩)] w (NextPost w T) := by
  have hb := hT.blk
  have c2 : w.cell? ⟨b, 2, none⟩ = some (.int .i64 6) := by rw [← hph]; exact cell_of hb 2
  have c0 : w.cell? ⟨b, 0, none⟩ = some (.int .i64 T.id) := cell_of hb 0
  have c1 : w.cell? ⟨b, 1, none⟩ = some (.slice (some ⟨pb, 0, none⟩) T.parts.length pc) := cell_of hb 1
  have c3 : w.cell? ⟨b, 3, none⟩ = some (.int .i64 T.at_) := cell_of hb 3
  have c5 : w.cell? ⟨b, 5, none⟩ = some (.int .i64 T.num) := cell_of hb 5
  have c6 : w.cell? ⟨b, 6, none⟩ = some (.int .i64 T.hol) := cell_of hb 6
  have c7 : w.cell? ⟨b, 7, none⟩ = some (.int .i64 T.nxt) := cell_of hb 7
  have c8 : w.cell? ⟨b, 8, none⟩ = some (.int .i64 T.version) := cell_of hb 8
  have c9 : w.cell? ⟨b, 9, none⟩ = some (.bool T.will) := cell_of hb 9
  have hwf := hT.wf
  have hat := hwf.at_
  have hlen := hwf.len.2
  have hpart := hwf.part
  have hbase := hT.base.2.2
  have Hpart := Lib.hid (hT.parts T.at_ hat)
  have p0 : w.cell? ⟨pb, T.at_ * 2, none⟩ = some (.string T.part.1) := Hpart.out.1
  have p1 : w.cell? ⟨pb, T.at_ * 2 + 1, none⟩ = some (.int .i64 T.part.2) := Hpart.out.2
  have hq1 : (0 : Int) ≤ ((T.at_ : Nat) : Int) := by omega
  have hq2 : ((T.at_ : Nat) : Int) < ((T.parts.length : Nat) : Int) := by omega
  have Hb := Lib.hid hb
  have HT := Lib.hid hT
  have Hph := Lib.hid hph
  have hlt := lt_of_heap hb
  have hne : b ≠ w.heap.size := by omega
  have hid1 := hwf.id
  have hnum := hwf.num
  have hhol := hwf.hol
  have hnxt := hwf.nxt
  have HE := Lib.hid (next_eq T)
  have hE : Hid (T.next = ((4, recordB T.id, doneB, 1), true)) := by
    show T.next = _
    unfold Tx.next; rw [if_neg (by omega), if_neg (by omega), if_neg (by omega), if_neg (by omega), if_neg (by omega), if_neg (by omega), if_pos (by omega)]
  generalize hy : T.part.1 = y at *
  generalize hz : T.part.2 = z at *
  have Hy := Lib.hid hy
  have Hz := Lib.hid hz
  obtain ⟨hp1, hp2, hp3⟩ := hpart
  have hyb : y.size ≤ 2000000 := by omega
  clear hy hz hb hT hph hwf
  go_enter Tryd.func5, Tryd.ntmps5
  go_wp2_with fail
  go_quiet (fail)
  go_wp2_with fail
  go_quiet ((go_at_call 17; exact quiet_add_same (data_any _ _ hyb)))
  go_wp2_with fail
  have HR : Hid (∀ w', Fr Non (w.alloc (.cells #[.int .i64 0, .string ⟨#[]⟩, .string ⟨#[]⟩, .int .i64 0] 31)) w' → w'.heap[w.heap.size]? = some (.cells #[.int .i64 0, .string ⟨#[]⟩, .string ⟨#[]⟩, .int .i64 0] 31 (0, 0))) := fun w' hf => hf.blk (heap_alloc_new w _) (fun f => f)
  have HZ : Hid (Fr Non w (w.alloc (.cells #[.int .i64 0, .string ⟨#[]⟩, .string ⟨#[]⟩, .int .i64 0] 31))) := (Fr.refl _ _).alloc _
  refine (record_any (B := B) T.id _ (by omega) (by omega) (ht.non (HZ.out.trans (by with_reducible repeat (first | exact Fr.refl _ _ | refine Fr.drew ?_ | refine Fr.drewN ?_ _ | refine Fr.alloc ?_ _))))).mono ?_
  rintro e w1 ⟨rfl, hf⟩
  have Hf_w1 : Hid (Fr Non (w.alloc (.cells #[.int .i64 0, .string ⟨#[]⟩, .string ⟨#[]⟩, .int .i64 0] 31)) w1) := Fr.trans (by with_reducible repeat (first | exact Fr.refl _ _ | refine Fr.drew ?_ | refine Fr.drewN ?_ _ | refine Fr.alloc ?_ _)) hf
  clear hf
  go_wp2_with fail
  refine (swap_any _ _ _ _).mono ?_
  rintro e w2 ⟨rfl, hf⟩
  have Hf_w2 : Hid (Fr Non (w.alloc (.cells #[.int .i64 0, .string ⟨#[]⟩, .string ⟨#[]⟩, .int .i64 0] 31)) w2) := Fr.trans Hf_w1.out hf
  clear hf
  have hr_w2 := HR.out _ Hf_w2.out
  have r0 : w2.cell? ⟨w.heap.size, 0, none⟩ = some (.int .i64 0) := cell_of hr_w2 0
  have r1 : w2.cell? ⟨w.heap.size, 1, none⟩ = some (.string ⟨#[]⟩) := cell_of hr_w2 1
  have r2 : w2.cell? ⟨w.heap.size, 2, none⟩ = some (.string ⟨#[]⟩) := cell_of hr_w2 2
  have r3 : w2.cell? ⟨w.heap.size, 3, none⟩ = some (.int .i64 0) := cell_of hr_w2 3
  have r4 := free_of hr_w2 0
  have r5 := free_of hr_w2 1
  have r6 := free_of hr_w2 2
  have r7 := free_of hr_w2 3
  have hrl := lt_of_heap hr_w2
  clear hr_w2
  go_wp2_with fail
  refine bodyPost_ret (v := .tuple #[cmdV 4 (recordB T.id) doneB 1, .bool true]) (by simp [results, Tryd.results5, go_sem, r0, r1, r2, r3, doneB]) rfl ⟨by rw [hE.out], ?_⟩
  exact (HZ.out.trans Hf_w2.out).then (T := Only w.heap.size) (by with_reducible repeat (first | exact Fr.refl _ _ | refine Fr.setOnly ?_ _ _ | refine Fr.drew ?_ | refine Fr.drewN ?_ _)) (fun i hi e => absurd hi (by rw [e]; omega))

set_option maxRecDepth 100000 in
set_option maxHeartbeats 1000000 in
theorem next_p7 {B : Nat} (w : World) (b pb pc : Nat) (ov : Value) (T : Tx) (hT : IsTx B w b T pb pc ov) (ht : Gl B w) (hph : T.phase = 7) :
    Calls Tryd.prog 5 #[.pointer (some ⟨b, 0, none⟩)] w (NextPost w T) := by
  have hb := hT.blk
  have c2 : w.cell? ⟨b, 2, none⟩ = some (.int .i64 7) := by rw [← hph]; exact cell_of hb 2
  have c0 : w.cell? ⟨b, 0, none⟩ = some (.int .i64 T.id) := cell_of hb 0
  have c1 : w.cell? ⟨b, 1, none⟩ = some (.slice (some ⟨pb, 0, none⟩) T.parts.length pc) := cell_of hb 1
  have c3 : w.cell? ⟨b, 3, none⟩ = some (.int .i64 T.at_) := cell_of hb 3
  have c5 : w.cell? ⟨b, 5, none⟩ = some (.int .i64 T.num) := cell_of hb 5
  have c6 : w.cell? ⟨b, 6, none⟩ = some (.int .i64 T.hol) := cell_of hb 6
  have c7 : w.cell? ⟨b, 7, none⟩ = some (.int .i64 T.nxt) := cell_of hb 7
  have c8 : w.cell? ⟨b, 8, none⟩ = some (.int .i64 T.version) := cell_of hb 8
  have c9 : w.cell? ⟨b, 9, none⟩ = some (.bool T.will) := cell_of hb 9
  have hwf := hT.wf
  have hat := hwf.at_
  have hlen := hwf.len.2
  have hpart := hwf.part
  have hbase := hT.base.2.2
  have Hpart := Lib.hid (hT.parts T.at_ hat)
  have p0 : w.cell? ⟨pb, T.at_ * 2, none⟩ = some (.string T.part.1) := Hpart.out.1
  have p1 : w.cell? ⟨pb, T.at_ * 2 + 1, none⟩ = some (.int .i64 T.part.2) := Hpart.out.2
  have hq1 : (0 : Int) ≤ ((T.at_ : Nat) : Int) := by omega
  have hq2 : ((T.at_ : Nat) : Int) < ((T.parts.length : Nat) : Int) := by omega
  have Hb := Lib.hid hb
  have HT := Lib.hid hT
  have Hph := Lib.hid hph
  have hlt := lt_of_heap hb
  have hne : b ≠ w.heap.size := by omega
  have hid1 := hwf.id
  have hnum := hwf.num
  have hhol := hwf.hol
  have hnxt := hwf.nxt
  have HE := Lib.hid (next_eq T)
  have hE : Hid (T.next = ((4, recordB T.id, offB, 1), true)) := by
    show T.next = _
    unfold Tx.next; rw [if_neg (by omega), if_neg (by omega), if_neg (by omega), if_neg (by omega), if_neg (by omega), if_neg (by omega), if_neg (by omega), if_pos (by omega)]
  generalize hy : T.part.1 = y at *
  generalize hz : T.part.2 = z at *
  have Hy := Lib.hid hy
  have Hz := Lib.hid hz
  obtain ⟨hp1, hp2, hp3⟩ := hpart
  have hyb : y.size ≤ 2000000 := by omega
  clear hy hz hb hT hph hwf
  go_enter Tryd.func5, Tryd.ntmps5
  go_wp2_with fail
  go_quiet (fail)
  go_wp2_with fail
  go_quiet ((go_at_call 17; exact quiet_add_same (data_any _ _ hyb)))
  go_wp2_with fail
  have HR : Hid (∀ w', Fr Non (w.alloc (.cells #[.int .i64 0, .string ⟨#[]⟩, .string ⟨#[]⟩, .int .i64 0] 31)) w' → w'.heap[w.heap.size]? = some (.cells #[.int .i64 0, .string ⟨#[]⟩, .string ⟨#[]⟩, .int .i64 0] 31 (0, 0))) := fun w' hf => hf.blk (heap_alloc_new w _) (fun f => f)
  have HZ : Hid (Fr Non w (w.alloc (.cells #[.int .i64 0, .string ⟨#[]⟩, .string ⟨#[]⟩, .int .i64 0] 31))) := (Fr.refl _ _).alloc _
  refine (record_any (B := B) T.id _ (by omega) (by omega) (ht.non (HZ.out.trans (by with_reducible repeat (first | exact Fr.refl _ _ | refine Fr.drew ?_ | refine Fr.drewN ?_ _ | refine Fr.alloc ?_ _))))).mono ?_
  rintro e w1 ⟨rfl, hf⟩
  have Hf_w1 : Hid (Fr Non (w.alloc (.cells #[.int .i64 0, .string ⟨#[]⟩, .string ⟨#[]⟩, .int .i64 0] 31)) w1) := Fr.trans (by with_reducible repeat (first | exact Fr.refl _ _ | refine Fr.drew ?_ | refine Fr.drewN ?_ _ | refine Fr.alloc ?_ _)) hf
  clear hf
  go_wp2_with fail
  refine (swap_any _ _ _ _).mono ?_
  rintro e w2 ⟨rfl, hf⟩
  have Hf_w2 : Hid (Fr Non (w.alloc (.cells #[.int .i64 0, .string ⟨#[]⟩, .string ⟨#[]⟩, .int .i64 0] 31)) w2) := Fr.trans Hf_w1.out hf
  clear hf
  have hr_w2 := HR.out _ Hf_w2.out
  have r0 : w2.cell? ⟨w.heap.size, 0, none⟩ = some (.int .i64 0) := cell_of hr_w2 0
  have r1 : w2.cell? ⟨w.heap.size, 1, none⟩ = some (.string ⟨#[]⟩) := cell_of hr_w2 1
  have r2 : w2.cell? ⟨w.heap.size, 2, none⟩ = some (.string ⟨#[]⟩) := cell_of hr_w2 2
  have r3 : w2.cell? ⟨w.heap.size, 3, none⟩ = some (.int .i64 0) := cell_of hr_w2 3
  have r4 := free_of hr_w2 0
  have r5 := free_of hr_w2 1
  have r6 := free_of hr_w2 2
  have r7 := free_of hr_w2 3
  have hrl := lt_of_heap hr_w2
  clear hr_w2
  go_wp2_with fail
  refine bodyPost_ret (v := .tuple #[cmdV 4 (recordB T.id) offB 1, .bool true]) (by simp [results, Tryd.results5, go_sem, r0, r1, r2, r3, offB]) rfl ⟨by rw [hE.out], ?_⟩
  exact (HZ.out.trans Hf_w2.out).then (T := Only w.heap.size) (by with_reducible repeat (first | exact Fr.refl _ _ | refine Fr.setOnly ?_ _ _ | refine Fr.drew ?_ | refine Fr.drewN ?_ _)) (fun i hi e => absurd hi (by rw [e]; omega))

set_option maxRecDepth 100000 in
set_option maxHeartbeats 1000000 in
theorem next_p3 {B : Nat} (w : World) (b pb pc : Nat) (ov : Value) (T : Tx) (hT : IsTx B w b T pb pc ov) (ht : Gl B w) (hph : T.phase = 3) :
    Calls Tryd.prog 5 #[.pointer (some ⟨b, 0, none⟩)] w (NextPost w T) := by
  have hb := hT.blk
  have c2 : w.cell? ⟨b, 2, none⟩ = some (.int .i64 3) := by rw [← hph]; exact cell_of hb 2
  have c0 : w.cell? ⟨b, 0, none⟩ = some (.int .i64 T.id) := cell_of hb 0
  have c1 : w.cell? ⟨b, 1, none⟩ = some (.slice (some ⟨pb, 0, none⟩) T.parts.length pc) := cell_of hb 1
  have c3 : w.cell? ⟨b, 3, none⟩ = some (.int .i64 T.at_) := cell_of hb 3
  have c5 : w.cell? ⟨b, 5, none⟩ = some (.int .i64 T.num) := cell_of hb 5
  have c6 : w.cell? ⟨b, 6, none⟩ = some (.int .i64 T.hol) := cell_of hb 6
  have c7 : w.cell? ⟨b, 7, none⟩ = some (.int .i64 T.nxt) := cell_of hb 7
  have c8 : w.cell? ⟨b, 8, none⟩ = some (.int .i64 T.version) := cell_of hb 8
  have c9 : w.cell? ⟨b, 9, none⟩ = some (.bool T.will) := cell_of hb 9
  have hwf := hT.wf
  have hat := hwf.at_
  have hlen := hwf.len.2
  have hpart := hwf.part
  have hbase := hT.base.2.2
  have Hpart := Lib.hid (hT.parts T.at_ hat)
  have p0 : w.cell? ⟨pb, T.at_ * 2, none⟩ = some (.string T.part.1) := Hpart.out.1
  have p1 : w.cell? ⟨pb, T.at_ * 2 + 1, none⟩ = some (.int .i64 T.part.2) := Hpart.out.2
  have hq1 : (0 : Int) ≤ ((T.at_ : Nat) : Int) := by omega
  have hq2 : ((T.at_ : Nat) : Int) < ((T.parts.length : Nat) : Int) := by omega
  have Hb := Lib.hid hb
  have HT := Lib.hid hT
  have Hph := Lib.hid hph
  have hlt := lt_of_heap hb
  have hne : b ≠ w.heap.size := by omega
  have hid1 := hwf.id
  have hnum := hwf.num
  have hhol := hwf.hol
  have hnxt := hwf.nxt
  have HE := Lib.hid (next_eq T)
  have hE : Hid (T.next = ((2, recordB T.hol, ⟨#[]⟩, 0), true)) := by
    show T.next = _
    unfold Tx.next; rw [if_neg (by omega), if_neg (by omega), if_neg (by omega), if_pos (by omega)]
  generalize hy : T.part.1 = y at *
  generalize hz : T.part.2 = z at *
  have Hy := Lib.hid hy
  have Hz := Lib.hid hz
  obtain ⟨hp1, hp2, hp3⟩ := hpart
  have hyb : y.size ≤ 2000000 := by omega
  clear hy hz hb hT hph hwf
  go_enter Tryd.func5, Tryd.ntmps5
  go_wp2_with fail
  go_quiet (fail)
  go_wp2_with fail
  go_quiet ((go_at_call 17; exact quiet_add_same (data_any _ _ hyb)))
  go_wp2_with fail
  have HR : Hid (∀ w', Fr Non (w.alloc (.cells #[.int .i64 0, .string ⟨#[]⟩, .string ⟨#[]⟩, .int .i64 0] 31)) w' → w'.heap[w.heap.size]? = some (.cells #[.int .i64 0, .string ⟨#[]⟩, .string ⟨#[]⟩, .int .i64 0] 31 (0, 0))) := fun w' hf => hf.blk (heap_alloc_new w _) (fun f => f)
  have HZ : Hid (Fr Non w (w.alloc (.cells #[.int .i64 0, .string ⟨#[]⟩, .string ⟨#[]⟩, .int .i64 0] 31))) := (Fr.refl _ _).alloc _
  refine (record_any (B := B) T.hol _ (by omega) (by omega) (ht.non (HZ.out.trans (by with_reducible repeat (first | exact Fr.refl _ _ | refine Fr.drew ?_ | refine Fr.drewN ?_ _ | refine Fr.alloc ?_ _))))).mono ?_
  rintro e w2 ⟨rfl, hf⟩
  have Hf_w2 : Hid (Fr Non (w.alloc (.cells #[.int .i64 0, .string ⟨#[]⟩, .string ⟨#[]⟩, .int .i64 0] 31)) w2) := Fr.trans (by with_reducible repeat (first | exact Fr.refl _ _ | refine Fr.drew ?_ | refine Fr.drewN ?_ _ | refine Fr.alloc ?_ _)) hf
  clear hf
  have hr_w2 := HR.out _ Hf_w2.out
  have r0 : w2.cell? ⟨w.heap.size, 0, none⟩ = some (.int .i64 0) := cell_of hr_w2 0
  have r1 : w2.cell? ⟨w.heap.size, 1, none⟩ = some (.string ⟨#[]⟩) := cell_of hr_w2 1
  have r2 : w2.cell? ⟨w.heap.size, 2, none⟩ = some (.string ⟨#[]⟩) := cell_of hr_w2 2
  have r3 : w2.cell? ⟨w.heap.size, 3, none⟩ = some (.int .i64 0) := cell_of hr_w2 3
  have r4 := free_of hr_w2 0
  have r5 := free_of hr_w2 1
  have r6 := free_of hr_w2 2
  have r7 := free_of hr_w2 3
  have hrl := lt_of_heap hr_w2
  clear hr_w2
  go_wp2_with fail
  refine bodyPost_ret (v := .tuple #[cmdV 2 (recordB T.hol) ⟨#[]⟩ 0, .bool true]) (by simp [results, Tryd.results5, go_sem, r0, r1, r2, r3]) rfl ⟨by rw [hE.out], ?_⟩
  exact (HZ.out.trans Hf_w2.out).then (T := Only w.heap.size) (by with_reducible repeat (first | exact Fr.refl _ _ | refine Fr.setOnly ?_ _ _ | refine Fr.drew ?_ | refine Fr.drewN ?_ _)) (fun i hi e => absurd hi (by rw [e]; omega))

set_option maxRecDepth 100000 in
set_option maxHeartbeats 1000000 in
theorem next_p4 {B : Nat} (w : World) (b pb pc : Nat) (ov : Value) (T : Tx) (hT : IsTx B w b T pb pc ov) (ht : Gl B w) (hph : T.phase = 4) :
    Calls Tryd.prog 5 #[.pointer (some ⟨b, 0, none⟩)] w (NextPost w T) := by
  have hb := hT.blk
  have c2 : w.cell? ⟨b, 2, none⟩ = some (.int .i64 4) := by rw [← hph]; exact cell_of hb 2
  have c0 : w.cell? ⟨b, 0, none⟩ = some (.int .i64 T.id) := cell_of hb 0
  have c1 : w.cell? ⟨b, 1, none⟩ = some (.slice (some ⟨pb, 0, none⟩) T.parts.length pc) := cell_of hb 1
  have c3 : w.cell? ⟨b, 3, none⟩ = some (.int .i64 T.at_) := cell_of hb 3
  have c5 : w.cell? ⟨b, 5, none⟩ = some (.int .i64 T.num) := cell_of hb 5
  have c6 : w.cell? ⟨b, 6, none⟩ = some (.int .i64 T.hol) := cell_of hb 6
  have c7 : w.cell? ⟨b, 7, none⟩ = some (.int .i64 T.nxt) := cell_of hb 7
  have c8 : w.cell? ⟨b, 8, none⟩ = some (.int .i64 T.version) := cell_of hb 8
  have c9 : w.cell? ⟨b, 9, none⟩ = some (.bool T.will) := cell_of hb 9
  have hwf := hT.wf
  have hat := hwf.at_
  have hlen := hwf.len.2
  have hpart := hwf.part
  have hbase := hT.base.2.2
  have Hpart := Lib.hid (hT.parts T.at_ hat)
  have p0 : w.cell? ⟨pb, T.at_ * 2, none⟩ = some (.string T.part.1) := Hpart.out.1
  have p1 : w.cell? ⟨pb, T.at_ * 2 + 1, none⟩ = some (.int .i64 T.part.2) := Hpart.out.2
  have hq1 : (0 : Int) ≤ ((T.at_ : Nat) : Int) := by omega
  have hq2 : ((T.at_ : Nat) : Int) < ((T.parts.length : Nat) : Int) := by omega
  have Hb := Lib.hid hb
  have HT := Lib.hid hT
  have Hph := Lib.hid hph
  have hlt := lt_of_heap hb
  have hne : b ≠ w.heap.size := by omega
  have hid1 := hwf.id
  have hnum := hwf.num
  have hhol := hwf.hol
  have hnxt := hwf.nxt
  have HE := Lib.hid (next_eq T)
  have hE : Hid (T.next = ((4, recordB T.hol, offB, T.version), true)) := by
    show T.next = _
    unfold Tx.next; rw [if_neg (by omega), if_neg (by omega), if_neg (by omega), if_neg (by omega), if_pos (by omega)]
  generalize hy : T.part.1 = y at *
  generalize hz : T.part.2 = z at *
  have Hy := Lib.hid hy
  have Hz := Lib.hid hz
  obtain ⟨hp1, hp2, hp3⟩ := hpart
  have hyb : y.size ≤ 2000000 := by omega
  clear hy hz hb hT hph hwf
  go_enter Tryd.func5, Tryd.ntmps5
  go_wp2_with fail
  go_quiet (fail)
  go_wp2_with fail
  go_quiet ((go_at_call 17; exact quiet_add_same (data_any _ _ hyb)))
  go_wp2_with fail
  have HR : Hid (∀ w', Fr Non (w.alloc (.cells #[.int .i64 0, .string ⟨#[]⟩, .string ⟨#[]⟩, .int .i64 0] 31)) w' → w'.heap[w.heap.size]? = some (.cells #[.int .i64 0, .string ⟨#[]⟩, .string ⟨#[]⟩, .int .i64 0] 31 (0, 0))) := fun w' hf => hf.blk (heap_alloc_new w _) (fun f => f)
  have HZ : Hid (Fr Non w (w.alloc (.cells #[.int .i64 0, .string ⟨#[]⟩, .string ⟨#[]⟩, .int .i64 0] 31))) := (Fr.refl _ _).alloc _
  generalize hWd : World.drewN _ _ = W
  have hF0 : Fr Non (w.alloc (.cells #[.int .i64 0, .string ⟨#[]⟩, .string ⟨#[]⟩, .int .i64 0] 31)) W := by rw [← hWd]; exact (by with_reducible repeat (first | exact Fr.refl _ _ | refine Fr.drew ?_ | refine Fr.drewN ?_ _ | refine Fr.alloc ?_ _))
  have HF0 := Lib.hid hF0
  have hWl : w.heap.size < W.heap.size := by have := hF0.size; simp at this; omega
  have hblt : b < (w.alloc (.cells #[.int .i64 0, .string ⟨#[]⟩, .string ⟨#[]⟩, .int .i64 0] 31)).heap.size := by simp; omega
  have k6 : W.cell? ⟨b, 6, none⟩ = some (.int .i64 T.hol) := (hF0.cell hblt (fun f => f)).trans ((World.cell?_alloc_lt _ _ _ hlt).trans c6)
  have k8 : W.cell? ⟨b, 8, none⟩ = some (.int .i64 T.version) := (hF0.cell hblt (fun f => f)).trans ((World.cell?_alloc_lt _ _ _ hlt).trans c8)
  have hGW : Gl B W := ht.non (HZ.out.trans hF0)
  have hbW : b < W.heap.size := by omega
  clear hWd hF0 c0 c1 c2 c3 c5 c6 c7 c8 c9 p0 p1
  have keep : ∀ w', Fr (Only w.heap.size) W w' → (Fr (Only w.heap.size) W w' ∧ w'.cell? ⟨b, 6, none⟩ = some (.int .i64 T.hol) ∧ w'.cell? ⟨b, 8, none⟩ = some (.int .i64 T.version)) :=
    fun w' hf => ⟨hf, (hf.cell hbW hne).trans k6, (hf.cell hbW hne).trans k8⟩
  have HRb : Hid (∀ w', Fr Non W w' → w'.heap[w.heap.size]? = some (.cells #[.int .i64 0, .string ⟨#[]⟩, .string ⟨#[]⟩, .int .i64 0] 31 (0, 0))) := fun w' hf => HR.out _ (HF0.out.trans hf)
  go_region_held3 (fun w' => Fr (Only w.heap.size) W w' ∧ w'.cell? ⟨b, 6, none⟩ = some (.int .i64 T.hol) ∧ w'.cell? ⟨b, 8, none⟩ = some (.int .i64 T.version))
    ((refine keep _ ?_; with_reducible repeat (first | assumption | exact Fr.refl _ _ | apply Fr.drew | apply Fr.setOnly)))
    (first | (go_at_call 19; refine (record_any (B := B) T.hol _ (by omega) (by omega) (hGW.non (Fr.refl _ _).drew)).mono ?_; rintro e w1 ⟨rfl, hf⟩; have hA : Fr Non W w1 := Fr.trans (Fr.refl _ _).drew hf; have hA2 : Fr (Only w.heap.size) W w1 := hA.lift; have HA := Lib.hid hA; clear hf hA) | (go_at_call 18; refine (swap_any _ _ _ _).mono ?_; rintro e w2 ⟨rfl, hf⟩; have hA3 : Fr Non W w2 := Fr.trans HA.out hf; have hA4 : Fr (Only w.heap.size) W w2 := hA3.lift; have hrb := HRb.out _ hA3; have r0 := cell_of hrb 0; have r1 := cell_of hrb 1; have r2 := cell_of hrb 2; have r3 := cell_of hrb 3; have r4 := free_of hrb 0; have r5 := free_of hrb 1; have r6 := free_of hrb 2; have r7 := free_of hrb 3; simp only [List.getElem?_toArray, List.getElem?_cons_zero, List.getElem?_cons_succ] at r0 r1 r2 r3; have HB3 := Lib.hid hA3; clear hf hA3 hrb))
  go_wp2_with fail
  refine bodyPost_ret (v := .tuple #[cmdV 4 (recordB T.hol) offB T.version, .bool true]) (by simp [results, Tryd.results5, go_sem, r0, r1, r2, r3, offB]) rfl ⟨by rw [hE.out], ?_⟩
  exact Fr.then (S := Non) (T := Only w.heap.size) ((HZ.out.trans HF0.out).trans HB3.out) (by with_reducible repeat (first | exact Fr.refl _ _ | refine Fr.setOnly ?_ _ _ | refine Fr.drew ?_ | refine Fr.drewN ?_ _)) (fun i hi e => absurd hi (by rw [e]; omega))

set_option maxRecDepth 100000 in
set_option maxHeartbeats 1000000 in
theorem next_p5 {B : Nat} (w : World) (b pb pc : Nat) (ov : Value) (T : Tx) (hT : IsTx B w b T pb pc ov) (ht : Gl B w) (hph : T.phase = 5) :
    Calls Tryd.prog 5 #[.pointer (some ⟨b, 0, none⟩)] w (NextPost w T) := by
  have hb := hT.blk
  have c2 : w.cell? ⟨b, 2, none⟩ = some (.int .i64 5) := by rw [← hph]; exact cell_of hb 2
  have c0 : w.cell? ⟨b, 0, none⟩ = some (.int .i64 T.id) := cell_of hb 0
  have c1 : w.cell? ⟨b, 1, none⟩ = some (.slice (some ⟨pb, 0, none⟩) T.parts.length pc) := cell_of hb 1
  have c3 : w.cell? ⟨b, 3, none⟩ = some (.int .i64 T.at_) := cell_of hb 3
  have c5 : w.cell? ⟨b, 5, none⟩ = some (.int .i64 T.num) := cell_of hb 5
  have c6 : w.cell? ⟨b, 6, none⟩ = some (.int .i64 T.hol) := cell_of hb 6
  have c7 : w.cell? ⟨b, 7, none⟩ = some (.int .i64 T.nxt) := cell_of hb 7
  have c8 : w.cell? ⟨b, 8, none⟩ = some (.int .i64 T.version) := cell_of hb 8
  have c9 : w.cell? ⟨b, 9, none⟩ = some (.bool T.will) := cell_of hb 9
  have hwf := hT.wf
  have hat := hwf.at_
  have hlen := hwf.len.2
  have hpart := hwf.part
  have hbase := hT.base.2.2
  have Hpart := Lib.hid (hT.parts T.at_ hat)
  have p0 : w.cell? ⟨pb, T.at_ * 2, none⟩ = some (.string T.part.1) := Hpart.out.1
  have p1 : w.cell? ⟨pb, T.at_ * 2 + 1, none⟩ = some (.int .i64 T.part.2) := Hpart.out.2
  have hq1 : (0 : Int) ≤ ((T.at_ : Nat) : Int) := by omega
  have hq2 : ((T.at_ : Nat) : Int) < ((T.parts.length : Nat) : Int) := by omega
  have Hb := Lib.hid hb
  have HT := Lib.hid hT
  have Hph := Lib.hid hph
  have hlt := lt_of_heap hb
  have hne : b ≠ w.heap.size := by omega
  have hid1 := hwf.id
  have hnum := hwf.num
  have hhol := hwf.hol
  have hnxt := hwf.nxt
  have HE := Lib.hid (next_eq T)
  cases hw : T.will with
  | true =>
    have hE : Hid (T.next = ((4, dataB T.part.1, textB T.nxt 0 0, T.version), true)) := by
      show T.next = _
      unfold Tx.next; rw [if_neg (by omega), if_neg (by omega), if_neg (by omega), if_neg (by omega), if_neg (by omega), if_pos (by omega), hw]; rfl
    rw [hw] at c9
    clear hw
    generalize hy : T.part.1 = y at *
    generalize hz : T.part.2 = z at *
    have Hy := Lib.hid hy
    have Hz := Lib.hid hz
    obtain ⟨hp1, hp2, hp3⟩ := hpart
    have hyb : y.size ≤ 2000000 := by omega
    clear hy hz hb hT hph hwf
    go_enter Tryd.func5, Tryd.ntmps5
    go_wp2_with fail
    go_quiet (fail)
    go_wp2_with fail
    go_quiet ((go_at_call 17; exact quiet_add_same (data_any _ _ hyb)))
    go_wp2_with fail
    have HR : Hid (∀ w', Fr Non (w.alloc (.cells #[.int .i64 0, .string ⟨#[]⟩, .string ⟨#[]⟩, .int .i64 0] 31)) w' → w'.heap[w.heap.size]? = some (.cells #[.int .i64 0, .string ⟨#[]⟩, .string ⟨#[]⟩, .int .i64 0] 31 (0, 0))) := fun w' hf => hf.blk (heap_alloc_new w _) (fun f => f)
    have HZ : Hid (Fr Non w (w.alloc (.cells #[.int .i64 0, .string ⟨#[]⟩, .string ⟨#[]⟩, .int .i64 0] 31))) := (Fr.refl _ _).alloc _
    generalize hWd : World.drewN _ _ = W
    have hF0 : Fr Non (w.alloc (.cells #[.int .i64 0, .string ⟨#[]⟩, .string ⟨#[]⟩, .int .i64 0] 31)) W := by rw [← hWd]; exact (by with_reducible repeat (first | exact Fr.refl _ _ | refine Fr.drew ?_ | refine Fr.drewN ?_ _ | refine Fr.alloc ?_ _))
    have HF0 := Lib.hid hF0
    have hWl : w.heap.size < W.heap.size := by have := hF0.size; simp at this; omega
    have hblt : b < (w.alloc (.cells #[.int .i64 0, .string ⟨#[]⟩, .string ⟨#[]⟩, .int .i64 0] 31)).heap.size := by simp; omega
    have k8 : W.cell? ⟨b, 8, none⟩ = some (.int .i64 T.version) := (hF0.cell hblt (fun f => f)).trans ((World.cell?_alloc_lt _ _ _ hlt).trans c8)
    have hGW : Gl B W := ht.non (HZ.out.trans hF0)
    have hbW : b < W.heap.size := by omega
    clear hWd hF0 c0 c1 c2 c3 c5 c6 c7 c8 c9 p0 p1
    have HRb : Hid (∀ w', Fr Non W w' → w'.heap[w.heap.size]? = some (.cells #[.int .i64 0, .string ⟨#[]⟩, .string ⟨#[]⟩, .int .i64 0] 31 (0, 0))) := fun w' hf => HR.out _ (HF0.out.trans hf)
    have keep : ∀ w', Fr (Only w.heap.size) W w' → (Fr (Only w.heap.size) W w' ∧ w'.cell? ⟨b, 8, none⟩ = some (.int .i64 T.version)) :=
      fun w' hf => ⟨hf, (hf.cell hbW hne).trans k8⟩
    go_region_held3 (fun w' => Fr (Only w.heap.size) W w' ∧ w'.cell? ⟨b, 8, none⟩ = some (.int .i64 T.version))
      ((refine keep _ ?_; with_reducible repeat (first | assumption | exact Fr.refl _ _ | apply Fr.drew | apply Fr.setOnly)))
      (first | (go_at_call 20; refine (text_any (B := B) T.nxt 0 0 _ (by omega) (by omega) (by omega) (by omega) (by omega) (by omega) (hGW.non (Fr.refl _ _).drew)).mono ?_; rintro e w1 ⟨rfl, hf⟩; have hA : Fr Non W w1 := Fr.trans (Fr.refl _ _).drew hf; have hA2 : Fr (Only w.heap.size) W w1 := hA.lift; have HA := Lib.hid hA; clear hf hA) | (go_at_call 18; refine (swap_any _ _ _ _).mono ?_; rintro e w2 ⟨rfl, hf⟩; have hA3 : Fr Non W w2 := Fr.trans HA.out hf; have hA4 : Fr (Only w.heap.size) W w2 := hA3.lift; have hrb := HRb.out _ hA3; have r0 := cell_of hrb 0; have r1 := cell_of hrb 1; have r2 := cell_of hrb 2; have r3 := cell_of hrb 3; have r4 := free_of hrb 0; have r5 := free_of hrb 1; have r6 := free_of hrb 2; have r7 := free_of hrb 3; simp only [List.getElem?_toArray, List.getElem?_cons_zero, List.getElem?_cons_succ] at r0 r1 r2 r3; have HB3 := Lib.hid hA3; clear hf hA3 hrb))
    go_wp2_with fail
    refine bodyPost_ret (v := .tuple #[cmdV 4 (dataB y) (textB T.nxt 0 0) T.version, .bool true]) (by simp [results, Tryd.results5, go_sem, r0, r1, r2, r3]) rfl ⟨by rw [hE.out], ?_⟩
    exact Fr.then (S := Non) (T := Only w.heap.size) ((HZ.out.trans HF0.out).trans HB3.out) (by with_reducible repeat (first | exact Fr.refl _ _ | refine Fr.setOnly ?_ _ _ | refine Fr.drew ?_ | refine Fr.drewN ?_ _)) (fun i hi e => absurd hi (by rw [e]; omega))
  | false =>
    have hE : Hid (T.next = ((4, dataB T.part.1, textB T.num 0 0, T.version), true)) := by
      show T.next = _
      unfold Tx.next; rw [if_neg (by omega), if_neg (by omega), if_neg (by omega), if_neg (by omega), if_neg (by omega), if_pos (by omega), hw]; rfl
    rw [hw] at c9
    clear hw
    generalize hy : T.part.1 = y at *
    generalize hz : T.part.2 = z at *
    have Hy := Lib.hid hy
    have Hz := Lib.hid hz
    obtain ⟨hp1, hp2, hp3⟩ := hpart
    have hyb : y.size ≤ 2000000 := by omega
    clear hy hz hb hT hph hwf
    go_enter Tryd.func5, Tryd.ntmps5
    go_wp2_with fail
    go_quiet (fail)
    go_wp2_with fail
    go_quiet ((go_at_call 17; exact quiet_add_same (data_any _ _ hyb)))
    go_wp2_with fail
    have HR : Hid (∀ w', Fr Non (w.alloc (.cells #[.int .i64 0, .string ⟨#[]⟩, .string ⟨#[]⟩, .int .i64 0] 31)) w' → w'.heap[w.heap.size]? = some (.cells #[.int .i64 0, .string ⟨#[]⟩, .string ⟨#[]⟩, .int .i64 0] 31 (0, 0))) := fun w' hf => hf.blk (heap_alloc_new w _) (fun f => f)
    have HZ : Hid (Fr Non w (w.alloc (.cells #[.int .i64 0, .string ⟨#[]⟩, .string ⟨#[]⟩, .int .i64 0] 31))) := (Fr.refl _ _).alloc _
    generalize hWd : World.drewN _ _ = W
    have hF0 : Fr Non (w.alloc (.cells #[.int .i64 0, .string ⟨#[]⟩, .string ⟨#[]⟩, .int .i64 0] 31)) W := by rw [← hWd]; exact (by with_reducible repeat (first | exact Fr.refl _ _ | refine Fr.drew ?_ | refine Fr.drewN ?_ _ | refine Fr.alloc ?_ _))
    have HF0 := Lib.hid hF0
    have hWl : w.heap.size < W.heap.size := by have := hF0.size; simp at this; omega
    have hblt : b < (w.alloc (.cells #[.int .i64 0, .string ⟨#[]⟩, .string ⟨#[]⟩, .int .i64 0] 31)).heap.size := by simp; omega
    have k8 : W.cell? ⟨b, 8, none⟩ = some (.int .i64 T.version) := (hF0.cell hblt (fun f => f)).trans ((World.cell?_alloc_lt _ _ _ hlt).trans c8)
    have hGW : Gl B W := ht.non (HZ.out.trans hF0)
    have hbW : b < W.heap.size := by omega
    clear hWd hF0 c0 c1 c2 c3 c5 c6 c7 c8 c9 p0 p1
    have HRb : Hid (∀ w', Fr Non W w' → w'.heap[w.heap.size]? = some (.cells #[.int .i64 0, .string ⟨#[]⟩, .string ⟨#[]⟩, .int .i64 0] 31 (0, 0))) := fun w' hf => HR.out _ (HF0.out.trans hf)
    have keep : ∀ w', Fr (Only w.heap.size) W w' → (Fr (Only w.heap.size) W w' ∧ w'.cell? ⟨b, 8, none⟩ = some (.int .i64 T.version)) :=
      fun w' hf => ⟨hf, (hf.cell hbW hne).trans k8⟩
    go_region_held3 (fun w' => Fr (Only w.heap.size) W w' ∧ w'.cell? ⟨b, 8, none⟩ = some (.int .i64 T.version))
      ((refine keep _ ?_; with_reducible repeat (first | assumption | exact Fr.refl _ _ | apply Fr.drew | apply Fr.setOnly)))
      (first | (go_at_call 20; refine (text_any (B := B) T.num 0 0 _ (by omega) (by omega) (by omega) (by omega) (by omega) (by omega) (hGW.non (Fr.refl _ _).drew)).mono ?_; rintro e w1 ⟨rfl, hf⟩; have hA : Fr Non W w1 := Fr.trans (Fr.refl _ _).drew hf; have hA2 : Fr (Only w.heap.size) W w1 := hA.lift; have HA := Lib.hid hA; clear hf hA) | (go_at_call 18; refine (swap_any _ _ _ _).mono ?_; rintro e w2 ⟨rfl, hf⟩; have hA3 : Fr Non W w2 := Fr.trans HA.out hf; have hA4 : Fr (Only w.heap.size) W w2 := hA3.lift; have hrb := HRb.out _ hA3; have r0 := cell_of hrb 0; have r1 := cell_of hrb 1; have r2 := cell_of hrb 2; have r3 := cell_of hrb 3; have r4 := free_of hrb 0; have r5 := free_of hrb 1; have r6 := free_of hrb 2; have r7 := free_of hrb 3; simp only [List.getElem?_toArray, List.getElem?_cons_zero, List.getElem?_cons_succ] at r0 r1 r2 r3; have HB3 := Lib.hid hA3; clear hf hA3 hrb))
    go_wp2_with fail
    refine bodyPost_ret (v := .tuple #[cmdV 4 (dataB y) (textB T.num 0 0) T.version, .bool true]) (by simp [results, Tryd.results5, go_sem, r0, r1, r2, r3]) rfl ⟨by rw [hE.out], ?_⟩
    exact Fr.then (S := Non) (T := Only w.heap.size) ((HZ.out.trans HF0.out).trans HB3.out) (by with_reducible repeat (first | exact Fr.refl _ _ | refine Fr.setOnly ?_ _ _ | refine Fr.drew ?_ | refine Fr.drewN ?_ _)) (fun i hi e => absurd hi (by rw [e]; omega))

set_option maxRecDepth 100000 in
set_option maxHeartbeats 1000000 in
theorem next_p9 {B : Nat} (w : World) (b pb pc : Nat) (ov : Value) (T : Tx) (hT : IsTx B w b T pb pc ov) (ht : Gl B w) (hph : T.phase = 9) :
    Calls Tryd.prog 5 #[.pointer (some ⟨b, 0, none⟩)] w (NextPost w T) := by
  have hb := hT.blk
  have c2 : w.cell? ⟨b, 2, none⟩ = some (.int .i64 9) := by rw [← hph]; exact cell_of hb 2
  have c0 : w.cell? ⟨b, 0, none⟩ = some (.int .i64 T.id) := cell_of hb 0
  have c1 : w.cell? ⟨b, 1, none⟩ = some (.slice (some ⟨pb, 0, none⟩) T.parts.length pc) := cell_of hb 1
  have c3 : w.cell? ⟨b, 3, none⟩ = some (.int .i64 T.at_) := cell_of hb 3
  have c5 : w.cell? ⟨b, 5, none⟩ = some (.int .i64 T.num) := cell_of hb 5
  have c6 : w.cell? ⟨b, 6, none⟩ = some (.int .i64 T.hol) := cell_of hb 6
  have c7 : w.cell? ⟨b, 7, none⟩ = some (.int .i64 T.nxt) := cell_of hb 7
  have c8 : w.cell? ⟨b, 8, none⟩ = some (.int .i64 T.version) := cell_of hb 8
  have c9 : w.cell? ⟨b, 9, none⟩ = some (.bool T.will) := cell_of hb 9
  have hwf := hT.wf
  have hat := hwf.at_
  have hlen := hwf.len.2
  have hpart := hwf.part
  have hbase := hT.base.2.2
  have Hpart := Lib.hid (hT.parts T.at_ hat)
  have p0 : w.cell? ⟨pb, T.at_ * 2, none⟩ = some (.string T.part.1) := Hpart.out.1
  have p1 : w.cell? ⟨pb, T.at_ * 2 + 1, none⟩ = some (.int .i64 T.part.2) := Hpart.out.2
  have hq1 : (0 : Int) ≤ ((T.at_ : Nat) : Int) := by omega
  have hq2 : ((T.at_ : Nat) : Int) < ((T.parts.length : Nat) : Int) := by omega
  have Hb := Lib.hid hb
  have HT := Lib.hid hT
  have Hph := Lib.hid hph
  have hlt := lt_of_heap hb
  have hne : b ≠ w.heap.size := by omega
  have hid1 := hwf.id
  have hnum := hwf.num
  have hhol := hwf.hol
  have hnxt := hwf.nxt
  have HE := Lib.hid (next_eq T)
  cases hw : T.will with
  | true =>
    have hE : Hid (T.next = ((4, dataB T.part.1, textB T.nxt 0 0, T.version), true)) := by
      show T.next = _
      unfold Tx.next; rw [if_neg (by omega), if_neg (by omega), if_neg (by omega), if_neg (by omega), if_neg (by omega), if_pos (by omega), hw]; rfl
    rw [hw] at c9
    clear hw
    generalize hy : T.part.1 = y at *
    generalize hz : T.part.2 = z at *
    have Hy := Lib.hid hy
    have Hz := Lib.hid hz
    obtain ⟨hp1, hp2, hp3⟩ := hpart
    have hyb : y.size ≤ 2000000 := by omega
    clear hy hz hb hT hph hwf
    go_enter Tryd.func5, Tryd.ntmps5
    go_wp2_with fail
    go_quiet (fail)
    go_wp2_with fail
    go_quiet ((go_at_call 17; exact quiet_add_same (data_any _ _ hyb)))
    go_wp2_with fail
    have HR : Hid (∀ w', Fr Non (w.alloc (.cells #[.int .i64 0, .string ⟨#[]⟩, .string ⟨#[]⟩, .int .i64 0] 31)) w' → w'.heap[w.heap.size]? = some (.cells #[.int .i64 0, .string ⟨#[]⟩, .string ⟨#[]⟩, .int .i64 0] 31 (0, 0))) := fun w' hf => hf.blk (heap_alloc_new w _) (fun f => f)
    have HZ : Hid (Fr Non w (w.alloc (.cells #[.int .i64 0, .string ⟨#[]⟩, .string ⟨#[]⟩, .int .i64 0] 31))) := (Fr.refl _ _).alloc _
    generalize hWd : World.drewN _ _ = W
    have hF0 : Fr Non (w.alloc (.cells #[.int .i64 0, .string ⟨#[]⟩, .string ⟨#[]⟩, .int .i64 0] 31)) W := by rw [← hWd]; exact (by with_reducible repeat (first | exact Fr.refl _ _ | refine Fr.drew ?_ | refine Fr.drewN ?_ _ | refine Fr.alloc ?_ _))
    have HF0 := Lib.hid hF0
    have hWl : w.heap.size < W.heap.size := by have := hF0.size; simp at this; omega
    have hblt : b < (w.alloc (.cells #[.int .i64 0, .string ⟨#[]⟩, .string ⟨#[]⟩, .int .i64 0] 31)).heap.size := by simp; omega
    have k8 : W.cell? ⟨b, 8, none⟩ = some (.int .i64 T.version) := (hF0.cell hblt (fun f => f)).trans ((World.cell?_alloc_lt _ _ _ hlt).trans c8)
    have hGW : Gl B W := ht.non (HZ.out.trans hF0)
    have hbW : b < W.heap.size := by omega
    clear hWd hF0 c0 c1 c2 c3 c5 c6 c7 c8 c9 p0 p1
    have HRb : Hid (∀ w', Fr Non W w' → w'.heap[w.heap.size]? = some (.cells #[.int .i64 0, .string ⟨#[]⟩, .string ⟨#[]⟩, .int .i64 0] 31 (0, 0))) := fun w' hf => HR.out _ (HF0.out.trans hf)
    have keep : ∀ w', Fr (Only w.heap.size) W w' → (Fr (Only w.heap.size) W w' ∧ w'.cell? ⟨b, 8, none⟩ = some (.int .i64 T.version)) :=
      fun w' hf => ⟨hf, (hf.cell hbW hne).trans k8⟩
    go_region_held3 (fun w' => Fr (Only w.heap.size) W w' ∧ w'.cell? ⟨b, 8, none⟩ = some (.int .i64 T.version))
      ((refine keep _ ?_; with_reducible repeat (first | assumption | exact Fr.refl _ _ | apply Fr.drew | apply Fr.setOnly)))
      (first | (go_at_call 20; refine (text_any (B := B) T.nxt 0 0 _ (by omega) (by omega) (by omega) (by omega) (by omega) (by omega) (hGW.non (Fr.refl _ _).drew)).mono ?_; rintro e w1 ⟨rfl, hf⟩; have hA : Fr Non W w1 := Fr.trans (Fr.refl _ _).drew hf; have hA2 : Fr (Only w.heap.size) W w1 := hA.lift; have HA := Lib.hid hA; clear hf hA) | (go_at_call 18; refine (swap_any _ _ _ _).mono ?_; rintro e w2 ⟨rfl, hf⟩; have hA3 : Fr Non W w2 := Fr.trans HA.out hf; have hA4 : Fr (Only w.heap.size) W w2 := hA3.lift; have hrb := HRb.out _ hA3; have r0 := cell_of hrb 0; have r1 := cell_of hrb 1; have r2 := cell_of hrb 2; have r3 := cell_of hrb 3; have r4 := free_of hrb 0; have r5 := free_of hrb 1; have r6 := free_of hrb 2; have r7 := free_of hrb 3; simp only [List.getElem?_toArray, List.getElem?_cons_zero, List.getElem?_cons_succ] at r0 r1 r2 r3; have HB3 := Lib.hid hA3; clear hf hA3 hrb))
    go_wp2_with fail
    refine bodyPost_ret (v := .tuple #[cmdV 4 (dataB y) (textB T.nxt 0 0) T.version, .bool true]) (by simp [results, Tryd.results5, go_sem, r0, r1, r2, r3]) rfl ⟨by rw [hE.out], ?_⟩
    exact Fr.then (S := Non) (T := Only w.heap.size) ((HZ.out.trans HF0.out).trans HB3.out) (by with_reducible repeat (first | exact Fr.refl _ _ | refine Fr.setOnly ?_ _ _ | refine Fr.drew ?_ | refine Fr.drewN ?_ _)) (fun i hi e => absurd hi (by rw [e]; omega))
  | false =>
    have hE : Hid (T.next = ((4, dataB T.part.1, textB T.num 0 0, T.version), true)) := by
      show T.next = _
      unfold Tx.next; rw [if_neg (by omega), if_neg (by omega), if_neg (by omega), if_neg (by omega), if_neg (by omega), if_pos (by omega), hw]; rfl
    rw [hw] at c9
    clear hw
    generalize hy : T.part.1 = y at *
    generalize hz : T.part.2 = z at *
    have Hy := Lib.hid hy
    have Hz := Lib.hid hz
    obtain ⟨hp1, hp2, hp3⟩ := hpart
    have hyb : y.size ≤ 2000000 := by omega
    clear hy hz hb hT hph hwf
    go_enter Tryd.func5, Tryd.ntmps5
    go_wp2_with fail
    go_quiet (fail)
    go_wp2_with fail
    go_quiet ((go_at_call 17; exact quiet_add_same (data_any _ _ hyb)))
    go_wp2_with fail
    have HR : Hid (∀ w', Fr Non (w.alloc (.cells #[.int .i64 0, .string ⟨#[]⟩, .string ⟨#[]⟩, .int .i64 0] 31)) w' → w'.heap[w.heap.size]? = some (.cells #[.int .i64 0, .string ⟨#[]⟩, .string ⟨#[]⟩, .int .i64 0] 31 (0, 0))) := fun w' hf => hf.blk (heap_alloc_new w _) (fun f => f)
    have HZ : Hid (Fr Non w (w.alloc (.cells #[.int .i64 0, .string ⟨#[]⟩, .string ⟨#[]⟩, .int .i64 0] 31))) := (Fr.refl _ _).alloc _
    generalize hWd : World.drewN _ _ = W
    have hF0 : Fr Non (w.alloc (.cells #[.int .i64 0, .string ⟨#[]⟩, .string ⟨#[]⟩, .int .i64 0] 31)) W := by rw [← hWd]; exact (by with_reducible repeat (first | exact Fr.refl _ _ | refine Fr.drew ?_ | refine Fr.drewN ?_ _ | refine Fr.alloc ?_ _))
    have HF0 := Lib.hid hF0
    have hWl : w.heap.size < W.heap.size := by have := hF0.size; simp at this; omega
    have hblt : b < (w.alloc (.cells #[.int .i64 0, .string ⟨#[]⟩, .string ⟨#[]⟩, .int .i64 0] 31)).heap.size := by simp; omega
    have k8 : W.cell? ⟨b, 8, none⟩ = some (.int .i64 T.version) := (hF0.cell hblt (fun f => f)).trans ((World.cell?_alloc_lt _ _ _ hlt).trans c8)
    have hGW : Gl B W := ht.non (HZ.out.trans hF0)
    have hbW : b < W.heap.size := by omega
    clear hWd hF0 c0 c1 c2 c3 c5 c6 c7 c8 c9 p0 p1
    have HRb : Hid (∀ w', Fr Non W w' → w'.heap[w.heap.size]? = some (.cells #[.int .i64 0, .string ⟨#[]⟩, .string ⟨#[]⟩, .int .i64 0] 31 (0, 0))) := fun w' hf => HR.out _ (HF0.out.trans hf)
    have keep : ∀ w', Fr (Only w.heap.size) W w' → (Fr (Only w.heap.size) W w' ∧ w'.cell? ⟨b, 8, none⟩ = some (.int .i64 T.version)) :=
      fun w' hf => ⟨hf, (hf.cell hbW hne).trans k8⟩
    go_region_held3 (fun w' => Fr (Only w.heap.size) W w' ∧ w'.cell? ⟨b, 8, none⟩ = some (.int .i64 T.version))
      ((refine keep _ ?_; with_reducible repeat (first | assumption | exact Fr.refl _ _ | apply Fr.drew | apply Fr.setOnly)))
      (first | (go_at_call 20; refine (text_any (B := B) T.num 0 0 _ (by omega) (by omega) (by omega) (by omega) (by omega) (by omega) (hGW.non (Fr.refl _ _).drew)).mono ?_; rintro e w1 ⟨rfl, hf⟩; have hA : Fr Non W w1 := Fr.trans (Fr.refl _ _).drew hf; have hA2 : Fr (Only w.heap.size) W w1 := hA.lift; have HA := Lib.hid hA; clear hf hA) | (go_at_call 18; refine (swap_any _ _ _ _).mono ?_; rintro e w2 ⟨rfl, hf⟩; have hA3 : Fr Non W w2 := Fr.trans HA.out hf; have hA4 : Fr (Only w.heap.size) W w2 := hA3.lift; have hrb := HRb.out _ hA3; have r0 := cell_of hrb 0; have r1 := cell_of hrb 1; have r2 := cell_of hrb 2; have r3 := cell_of hrb 3; have r4 := free_of hrb 0; have r5 := free_of hrb 1; have r6 := free_of hrb 2; have r7 := free_of hrb 3; simp only [List.getElem?_toArray, List.getElem?_cons_zero, List.getElem?_cons_succ] at r0 r1 r2 r3; have HB3 := Lib.hid hA3; clear hf hA3 hrb))
    go_wp2_with fail
    refine bodyPost_ret (v := .tuple #[cmdV 4 (dataB y) (textB T.num 0 0) T.version, .bool true]) (by simp [results, Tryd.results5, go_sem, r0, r1, r2, r3]) rfl ⟨by rw [hE.out], ?_⟩
    exact Fr.then (S := Non) (T := Only w.heap.size) ((HZ.out.trans HF0.out).trans HB3.out) (by with_reducible repeat (first | exact Fr.refl _ _ | refine Fr.setOnly ?_ _ _ | refine Fr.drew ?_ | refine Fr.drewN ?_ _)) (fun i hi e => absurd hi (by rw [e]; omega))

set_option maxRecDepth 100000 in
set_option maxHeartbeats 4000000 in
theorem next_p2 {B : Nat} (w : World) (b pb pc : Nat) (ov : Value) (T : Tx) (hT : IsTx B w b T pb pc ov) (ht : Gl B w) (hph : T.phase = 2) :
    Calls Tryd.prog 5 #[.pointer (some ⟨b, 0, none⟩)] w (NextPost w T) := by
  have hb := hT.blk
  have c2 : w.cell? ⟨b, 2, none⟩ = some (.int .i64 2) := by rw [← hph]; exact cell_of hb 2
  have c0 : w.cell? ⟨b, 0, none⟩ = some (.int .i64 T.id) := cell_of hb 0
  have c1 : w.cell? ⟨b, 1, none⟩ = some (.slice (some ⟨pb, 0, none⟩) T.parts.length pc) := cell_of hb 1
  have c3 : w.cell? ⟨b, 3, none⟩ = some (.int .i64 T.at_) := cell_of hb 3
  have c5 : w.cell? ⟨b, 5, none⟩ = some (.int .i64 T.num) := cell_of hb 5
  have c6 : w.cell? ⟨b, 6, none⟩ = some (.int .i64 T.hol) := cell_of hb 6
  have c7 : w.cell? ⟨b, 7, none⟩ = some (.int .i64 T.nxt) := cell_of hb 7
  have c8 : w.cell? ⟨b, 8, none⟩ = some (.int .i64 T.version) := cell_of hb 8
  have c9 : w.cell? ⟨b, 9, none⟩ = some (.bool T.will) := cell_of hb 9
  have hwf := hT.wf
  have hat := hwf.at_
  have hlen := hwf.len.2
  have hpart := hwf.part
  have hbase := hT.base.2.2
  have Hpart := Lib.hid (hT.parts T.at_ hat)
  have p0 : w.cell? ⟨pb, T.at_ * 2, none⟩ = some (.string T.part.1) := Hpart.out.1
  have p1 : w.cell? ⟨pb, T.at_ * 2 + 1, none⟩ = some (.int .i64 T.part.2) := Hpart.out.2
  have hq1 : (0 : Int) ≤ ((T.at_ : Nat) : Int) := by omega
  have hq2 : ((T.at_ : Nat) : Int) < ((T.parts.length : Nat) : Int) := by omega
  have Hb := Lib.hid hb
  have HT := Lib.hid hT
  have Hph := Lib.hid hph
  have hlt := lt_of_heap hb
  have hne : b ≠ w.heap.size := by omega
  have hid1 := hwf.id
  have hnum := hwf.num
  have hhol := hwf.hol
  have hnxt := hwf.nxt
  have HE := Lib.hid (next_eq T)
  have hE : Hid (T.next = ((4, dataB T.part.1, textB T.num T.id (T.num + T.part.2), T.version), true)) := by
    show T.next = _
    unfold Tx.next; rw [if_neg (by omega), if_neg (by omega), if_pos (by omega)]
  have hhold := hwf.hold hph
  generalize hy : T.part.1 = y at *
  generalize hz : T.part.2 = z at *
  have Hy := Lib.hid hy
  have Hz := Lib.hid hz
  obtain ⟨hp1, hp2, hp3⟩ := hpart
  have hyb : y.size ≤ 2000000 := by omega
  clear hy hz hb hT hph hwf
  go_enter Tryd.func5, Tryd.ntmps5
  go_wp2_with fail
  go_quiet (fail)
  go_wp2_with fail
  go_quiet ((go_at_call 17; exact quiet_add_same (data_any _ _ hyb)))
  go_wp2_with fail
  have HR : Hid (∀ w', Fr Non (w.alloc (.cells #[.int .i64 0, .string ⟨#[]⟩, .string ⟨#[]⟩, .int .i64 0] 31)) w' → w'.heap[w.heap.size]? = some (.cells #[.int .i64 0, .string ⟨#[]⟩, .string ⟨#[]⟩, .int .i64 0] 31 (0, 0))) := fun w' hf => hf.blk (heap_alloc_new w _) (fun f => f)
  have HZ : Hid (Fr Non w (w.alloc (.cells #[.int .i64 0, .string ⟨#[]⟩, .string ⟨#[]⟩, .int .i64 0] 31))) := (Fr.refl _ _).alloc _
  generalize hWd : World.drewN _ _ = W
  have hF0 : Fr Non (w.alloc (.cells #[.int .i64 0, .string ⟨#[]⟩, .string ⟨#[]⟩, .int .i64 0] 31)) W := by rw [← hWd]; exact (by with_reducible repeat (first | exact Fr.refl _ _ | refine Fr.drew ?_ | refine Fr.drewN ?_ _ | refine Fr.alloc ?_ _))
  have HF0 := Lib.hid hF0
  have hWl : w.heap.size < W.heap.size := by have := hF0.size; simp at this; omega
  have hblt : b < (w.alloc (.cells #[.int .i64 0, .string ⟨#[]⟩, .string ⟨#[]⟩, .int .i64 0] 31)).heap.size := by simp; omega
  have hplt : pb < (w.alloc (.cells #[.int .i64 0, .string ⟨#[]⟩, .string ⟨#[]⟩, .int .i64 0] 31)).heap.size := by simp; omega
  have k0 : W.cell? ⟨b, 0, none⟩ = some (.int .i64 T.id) := (hF0.cell hblt (fun f => f)).trans ((World.cell?_alloc_lt _ _ _ hlt).trans c0)
  have k1 : W.cell? ⟨b, 1, none⟩ = some (.slice (some ⟨pb, 0, none⟩) T.parts.length pc) := (hF0.cell hblt (fun f => f)).trans ((World.cell?_alloc_lt _ _ _ hlt).trans c1)
  have k3 : W.cell? ⟨b, 3, none⟩ = some (.int .i64 T.at_) := (hF0.cell hblt (fun f => f)).trans ((World.cell?_alloc_lt _ _ _ hlt).trans c3)
  have k5 : W.cell? ⟨b, 5, none⟩ = some (.int .i64 T.num) := (hF0.cell hblt (fun f => f)).trans ((World.cell?_alloc_lt _ _ _ hlt).trans c5)
  have k8 : W.cell? ⟨b, 8, none⟩ = some (.int .i64 T.version) := (hF0.cell hblt (fun f => f)).trans ((World.cell?_alloc_lt _ _ _ hlt).trans c8)
  have kp : W.cell? ⟨pb, T.at_ * 2 + 1, none⟩ = some (.int .i64 z) := (hF0.cell (p := ⟨pb, T.at_ * 2 + 1, none⟩) hplt (fun f => f)).trans ((World.cell?_alloc_lt _ _ _ hbase).trans p1)
  have hGW : Gl B W := ht.non (HZ.out.trans hF0)
  have hbW : b < W.heap.size := by omega
  have hpW : pb < W.heap.size := by omega
  obtain ⟨hn1, hn2⟩ := hnum
  clear hWd hF0 c0 c1 c2 c3 c5 c6 c7 c8 c9 p0 p1
  have HRb : Hid (∀ w', Fr Non W w' → w'.heap[w.heap.size]? = some (.cells #[.int .i64 0, .string ⟨#[]⟩, .string ⟨#[]⟩, .int .i64 0] 31 (0, 0))) := fun w' hf => HR.out _ (HF0.out.trans hf)
  go_region
  go_wp2_with fail
  obtain ⟨V, hV⟩ : ∃ V, V = (W.alloc (.cells #[.int .i64 T.num, .int .i64 T.id, .int .i64 (T.num + z)] 57)).drew := ⟨_, rfl⟩
  have hFV : Fr Non W V := by rw [hV]; exact ((Fr.refl _ _).alloc _).drew
  have hvb : V.heap[W.heap.size]? = some (.cells #[.int .i64 T.num, .int .i64 T.id, .int .i64 (T.num + z)] 57 (0, 0)) := by rw [hV]; exact heap_alloc_new W _
  have HFV := Lib.hid hFV
  rw [← hV]
  have v0 : V.cell? ⟨W.heap.size, 0, none⟩ = some (.int .i64 T.num) := cell_of hvb 0
  have v1 : V.cell? ⟨W.heap.size, 1, none⟩ = some (.int .i64 T.id) := cell_of hvb 1
  have v2 : V.cell? ⟨W.heap.size, 2, none⟩ = some (.int .i64 (T.num + z)) := cell_of hvb 2
  have hvl := lt_of_heap hvb
  have m8 : V.cell? ⟨b, 8, none⟩ = some (.int .i64 T.version) := (hFV.cell hbW (fun f => f)).trans k8
  have hbV : b < V.heap.size := by have := hFV.size; omega
  have hGV : Gl B V := hGW.non hFV
  have hhold2 : 0 ≤ T.num + z ∧ T.num + z ≤ 999999999 := hhold
  obtain ⟨hh1, hh2⟩ := hhold2
  have HRV : Hid (∀ w', Fr Non V w' → w'.heap[w.heap.size]? = some (.cells #[.int .i64 0, .string ⟨#[]⟩, .string ⟨#[]⟩, .int .i64 0] 31 (0, 0))) := fun w' hf => HRb.out _ (HFV.out.trans hf)
  clear hV hFV hvb k0 k1 k3 k5 k8 kp hhold
  have keep : ∀ w', Fr (Only w.heap.size) V w' → (Fr (Only w.heap.size) V w' ∧ w'.cell? ⟨b, 8, none⟩ = some (.int .i64 T.version) ∧ w'.cell? ⟨W.heap.size, 0, none⟩ = some (.int .i64 T.num) ∧ w'.cell? ⟨W.heap.size, 1, none⟩ = some (.int .i64 T.id) ∧ w'.cell? ⟨W.heap.size, 2, none⟩ = some (.int .i64 (T.num + z))) :=
    fun w' hf => ⟨hf, (hf.cell hbV hne).trans m8, (hf.cell hvl (by simp; omega)).trans v0, (hf.cell hvl (by simp; omega)).trans v1, (hf.cell hvl (by simp; omega)).trans v2⟩
  go_region_held3 (fun w' => Fr (Only w.heap.size) V w' ∧ w'.cell? ⟨b, 8, none⟩ = some (.int .i64 T.version) ∧ w'.cell? ⟨W.heap.size, 0, none⟩ = some (.int .i64 T.num) ∧ w'.cell? ⟨W.heap.size, 1, none⟩ = some (.int .i64 T.id) ∧ w'.cell? ⟨W.heap.size, 2, none⟩ = some (.int .i64 (T.num + z)))
    ((refine keep _ ?_; with_reducible repeat (first | assumption | exact Fr.refl _ _ | apply Fr.drew | apply Fr.setOnly)))
    (first | (go_at_call 20; refine (text_any (B := B) T.num T.id (T.num + z) _ (by omega) (by omega) (by omega) (by omega) (by omega) (by omega) (hGV.non (Fr.refl _ _).drew)).mono ?_; rintro e w1 ⟨rfl, hf⟩; have hA : Fr Non V w1 := Fr.trans (Fr.refl _ _).drew hf; have hA2 : Fr (Only w.heap.size) V w1 := hA.lift; have HA := Lib.hid hA; clear hf hA) | (go_at_call 18; refine (swap_any _ _ _ _).mono ?_; rintro e w2 ⟨rfl, hf⟩; have hA3 : Fr Non V w2 := Fr.trans HA.out hf; have hA4 : Fr (Only w.heap.size) V w2 := hA3.lift; have hrb := HRV.out _ hA3; have r0 := cell_of hrb 0; have r1 := cell_of hrb 1; have r2 := cell_of hrb 2; have r3 := cell_of hrb 3; have r4 := free_of hrb 0; have r5 := free_of hrb 1; have r6 := free_of hrb 2; have r7 := free_of hrb 3; simp only [List.getElem?_toArray, List.getElem?_cons_zero, List.getElem?_cons_succ] at r0 r1 r2 r3; have HB3 := Lib.hid hA3; clear hf hA3 hrb))
  go_wp2_with fail
  refine bodyPost_ret (v := .tuple #[cmdV 4 (dataB y) (textB T.num T.id (T.num + z)) T.version, .bool true]) (by simp [results, Tryd.results5, go_sem, r0, r1, r2, r3]) rfl ⟨by rw [hE.out], ?_⟩
  exact Fr.then (S := Non) (T := Only w.heap.size) (((HZ.out.trans HF0.out).trans HFV.out).trans HB3.out) (by with_reducible repeat (first | exact Fr.refl _ _ | refine Fr.setOnly ?_ _ _ | refine Fr.drew ?_ | refine Fr.drewN ?_ _)) (fun i hi e => absurd hi (by rw [e]; omega))

set_option maxRecDepth 100000 in
set_option maxHeartbeats 1000000 in
theorem next_p10 {B : Nat} (w : World) (b pb pc : Nat) (ov : Value) (T : Tx) (hT : IsTx B w b T pb pc ov) (ht : Gl B w) (hph : T.phase = 10) :
    Calls Tryd.prog 5 #[.pointer (some ⟨b, 0, none⟩)] w (NextPost w T) := by
  have hb := hT.blk
  have c2 : w.cell? ⟨b, 2, none⟩ = some (.int .i64 10) := by rw [← hph]; exact cell_of hb 2
  have c0 : w.cell? ⟨b, 0, none⟩ = some (.int .i64 T.id) := cell_of hb 0
  have c1 : w.cell? ⟨b, 1, none⟩ = some (.slice (some ⟨pb, 0, none⟩) T.parts.length pc) := cell_of hb 1
  have c3 : w.cell? ⟨b, 3, none⟩ = some (.int .i64 T.at_) := cell_of hb 3
  have c5 : w.cell? ⟨b, 5, none⟩ = some (.int .i64 T.num) := cell_of hb 5
  have c6 : w.cell? ⟨b, 6, none⟩ = some (.int .i64 T.hol) := cell_of hb 6
  have c7 : w.cell? ⟨b, 7, none⟩ = some (.int .i64 T.nxt) := cell_of hb 7
  have c8 : w.cell? ⟨b, 8, none⟩ = some (.int .i64 T.version) := cell_of hb 8
  have c9 : w.cell? ⟨b, 9, none⟩ = some (.bool T.will) := cell_of hb 9
  have hwf := hT.wf
  have hat := hwf.at_
  have hlen := hwf.len.2
  have hpart := hwf.part
  have hbase := hT.base.2.2
  have Hpart := Lib.hid (hT.parts T.at_ hat)
  have p0 : w.cell? ⟨pb, T.at_ * 2, none⟩ = some (.string T.part.1) := Hpart.out.1
  have p1 : w.cell? ⟨pb, T.at_ * 2 + 1, none⟩ = some (.int .i64 T.part.2) := Hpart.out.2
  have hq1 : (0 : Int) ≤ ((T.at_ : Nat) : Int) := by omega
  have hq2 : ((T.at_ : Nat) : Int) < ((T.parts.length : Nat) : Int) := by omega
  have Hb := Lib.hid hb
  have HT := Lib.hid hT
  have Hph := Lib.hid hph
  have hlt := lt_of_heap hb
  have hne : b ≠ w.heap.size := by omega
  have hid1 := hwf.id
  have hnum := hwf.num
  have hhol := hwf.hol
  have hnxt := hwf.nxt
  have HE := Lib.hid (next_eq T)
  have hE : Hid (T.next = ((0, ⟨#[]⟩, ⟨#[]⟩, 0), false)) := by
    show T.next = _
    unfold Tx.next; rw [if_neg (by omega), if_neg (by omega), if_neg (by omega), if_neg (by omega), if_neg (by omega), if_neg (by omega), if_neg (by omega), if_neg (by omega)]
  generalize hy : T.part.1 = y at *
  generalize hz : T.part.2 = z at *
  have Hy := Lib.hid hy
  have Hz := Lib.hid hz
  obtain ⟨hp1, hp2, hp3⟩ := hpart
  have hyb : y.size ≤ 2000000 := by omega
  clear hy hz hb hT hph hwf
  go_enter Tryd.func5, Tryd.ntmps5
  go_wp2_with fail
  go_quiet (fail)
  go_wp2_with fail
  go_quiet ((go_at_call 17; exact quiet_add_same (data_any _ _ hyb)))
  go_wp2_with fail
  have HR : Hid (∀ w', Fr Non (w.alloc (.cells #[.int .i64 0, .string ⟨#[]⟩, .string ⟨#[]⟩, .int .i64 0] 31)) w' → w'.heap[w.heap.size]? = some (.cells #[.int .i64 0, .string ⟨#[]⟩, .string ⟨#[]⟩, .int .i64 0] 31 (0, 0))) := fun w' hf => hf.blk (heap_alloc_new w _) (fun f => f)
  have HZ : Hid (Fr Non w (w.alloc (.cells #[.int .i64 0, .string ⟨#[]⟩, .string ⟨#[]⟩, .int .i64 0] 31))) := (Fr.refl _ _).alloc _
  refine bodyPost_ret (v := .tuple #[cmdV 0 ⟨#[]⟩ ⟨#[]⟩ 0, .bool false]) (by simp [results, Tryd.results5, go_sem]) rfl ⟨by rw [hE.out], ?_⟩
  exact Fr.then (S := Non) (T := Only w.heap.size) HZ.out (by with_reducible repeat (first | exact Fr.refl _ _ | refine Fr.setOnly ?_ _ _ | refine Fr.drew ?_ | refine Fr.drewN ?_ _)) (fun i hi e => absurd hi (by rw [e]; omega))

/-- (*Txn).Next, whatever the phase. -/
theorem next_any {B : Nat} (w : World) (b pb pc : Nat) (ov : Value) (T : Tx) (hT : IsTx B w b T pb pc ov) (ht : Gl B w) :
    Calls Tryd.prog 5 #[.pointer (some ⟨b, 0, none⟩)] w (NextPost w T) := by
  have hp := hT.wf.phase
  have h : T.phase = 0 ∨ T.phase = 1 ∨ T.phase = 2 ∨ T.phase = 3 ∨ T.phase = 4 ∨ T.phase = 5 ∨ T.phase = 6 ∨ T.phase = 7 ∨ T.phase = 8 ∨ T.phase = 9 ∨ T.phase = 10 := by omega
  rcases h with h | h | h | h | h | h | h | h | h | h | h
  · exact next_p0 w b pb pc ov T hT ht h
  · exact next_p1 w b pb pc ov T hT ht h
  · exact next_p2 w b pb pc ov T hT ht h
  · exact next_p3 w b pb pc ov T hT ht h
  · exact next_p4 w b pb pc ov T hT ht h
  · exact next_p5 w b pb pc ov T hT ht h
  · exact next_p6 w b pb pc ov T hT ht h
  · exact next_p7 w b pb pc ov T hT ht h
  · exact next_p8 w b pb pc ov T hT ht h
  · exact next_p9 w b pb pc ov T hT ht h
  · exact next_p10 w b pb pc ov T hT ht h

end Go.Proofs.YtbfahkpckhbajaaDoor
