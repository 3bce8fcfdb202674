/- quorateref's (*Txn).Command: the command that a transaction has done next. Condition: the object is whole. -/
import Derived.Test.YtbfahkpckhbajaaDoorQRx
namespace Go.Proofs.YtbfahkpckhbajaaDoor
open Go.RowKit
set_option linter.unusedSimpArgs false
set_option linter.unusedVariables false

set_option maxRecDepth 100000 in
set_option maxHeartbeats 2000000 in
theorem cmd_p0 {B : Nat} (w : World) (b pb pc : Nat) (ov : Value) (T : Tx) (dn : Bool) (hT : IsRx B w b T pb pc ov dn) (hph : T.phase = 0) :
    Calls Tryd.prog 7 #[.pointer (some ⟨b, 0, none⟩)] w (NextPost w T) := by
  have hb := hT.blk
  have hc2 : (rxCells T pb pc ov dn)[2]? = some (.string ⟨#[98, 101, 103, 105, 110]⟩) := by show some (Value.string (wordOf T.phase)) = _; rw [hph]; rfl
  have hwf := hT.wf
  have hat := hwf.at_
  have hlen := hwf.len.2
  have hpart := hwf.part
  have hbase := hT.base.2.2
  have hid1 := hwf.id
  have hnum := hwf.num
  have hhol := hwf.hol
  have hnxt := hwf.nxt
  have Hpart := Lib.hid (hT.parts T.at_ hat)
  have hq1 : (0 : Int) ≤ ((T.at_ : Nat) : Int) := by omega
  have hq2 : ((T.at_ : Nat) : Int) < ((T.parts.length : Nat) : Int) := by omega
  have hlt := lt_of_heap hb
  have Hdn := Lib.hid hT.dn
  have Hwf := Lib.hid hwf
  have Hph := Lib.hid hph
  have HT := Lib.hid hT
  have hE : Hid (T.next = ((4, recordB T.id, openB, 0), true)) := by
    show T.next = _
    unfold Tx.next; rw [if_pos (by omega)]
  have HP0 : Hid (∀ w', Fr Non w w' → w'.cell? ⟨pb, T.at_ * 2, none⟩ = some (.string T.part.1) ∧ w'.cell? ⟨pb, T.at_ * 2 + 1, none⟩ = some (.int .i64 T.part.2)) := fun w' hf => ⟨(hf.cell (p := ⟨pb, T.at_ * 2, none⟩) hbase (fun h => h)).trans Hpart.out.1, (hf.cell (p := ⟨pb, T.at_ * 2 + 1, none⟩) hbase (fun h => h)).trans Hpart.out.2⟩
  have HBb : Hid (∀ w', Fr Non w w' → w'.heap[b]? = some (.cells #[.int .i64 T.id, .slice (some ⟨pb, 0, none⟩) T.parts.length pc, .string ⟨#[98, 101, 103, 105, 110]⟩, .int .i64 T.at_, ov, .int .i64 T.num, .int .i64 T.hol, .int .i64 T.nxt, .int .i64 T.version, .bool dn, .int .i64 T.state] 45 (0, 0))) := fun w' hf => by
    have h := hf.blk hb (fun h => h)
    rw [show rxCells T pb pc ov dn = #[.int .i64 T.id, .slice (some ⟨pb, 0, none⟩) T.parts.length pc, .string ⟨#[98, 101, 103, 105, 110]⟩, .int .i64 T.at_, ov, .int .i64 T.num, .int .i64 T.hol, .int .i64 T.nxt, .int .i64 T.version, .bool dn, .int .i64 T.state] by unfold rxCells; rw [hph]; rfl] at h
    exact h
  generalize hy : T.part.1 = y at *
  generalize hz : T.part.2 = z at *
  have Hy := Lib.hid hy
  have Hz := Lib.hid hz
  obtain ⟨hp1, hp2, hp3⟩ := hpart
  have l0 := itoaB_size T.id (by omega) (by omega)
  have l1 := itoaB_size T.hol (by omega) (by omega)
  have s0 : ¬ 9223372036854775807 < 1 + (itoaB T.id).size := by omega
  have s1 : ¬ 9223372036854775807 < 1 + (itoaB T.hol).size := by omega
  have s2 : ¬ 9223372036854775807 < 1 + y.size := by omega
  clear hy hz hb hT hph hwf hc2 l0 l1
  have hbw := HBb.out _ (Fr.refl _ _)
  have c0 : w.cell? ⟨b, 0, none⟩ = some (.int .i64 T.id) := cell_of hbw 0
  have c1 : w.cell? ⟨b, 1, none⟩ = some (.slice (some ⟨pb, 0, none⟩) T.parts.length pc) := cell_of hbw 1
  have c2 : w.cell? ⟨b, 2, none⟩ = some (.string ⟨#[98, 101, 103, 105, 110]⟩) := cell_of hbw 2
  have c3 : w.cell? ⟨b, 3, none⟩ = some (.int .i64 T.at_) := cell_of hbw 3
  have c5 : w.cell? ⟨b, 5, none⟩ = some (.int .i64 T.num) := cell_of hbw 5
  have c6 : w.cell? ⟨b, 6, none⟩ = some (.int .i64 T.hol) := cell_of hbw 6
  have c7 : w.cell? ⟨b, 7, none⟩ = some (.int .i64 T.nxt) := cell_of hbw 7
  have c8 : w.cell? ⟨b, 8, none⟩ = some (.int .i64 T.version) := cell_of hbw 8
  have c9 : w.cell? ⟨b, 9, none⟩ = some (.bool dn) := cell_of hbw 9
  clear hbw
  go_enter Tryd.func7, Tryd.ntmps7
  go_wp2_with fail
  generalize hW0 : World.alloc w _ = W0
  have hF0 : Fr Non w W0 := by rw [← hW0]; exact (Fr.refl _ _).alloc _
  have hR0 : W0.heap[w.heap.size]? = some (.cells #[.int .i64 0, .string ⟨#[]⟩, .string ⟨#[]⟩, .int .i64 0] 31 (0, 0)) := by rw [← hW0]; exact heap_alloc_new _ _
  have HF0 := Lib.hid hF0
  have HR0 := Lib.hid hR0
  clear hW0 hF0 hR0
  refine (decimal_any T.id _ (by omega) (by omega)).mono ?_
  rintro e w1 ⟨rfl, hf⟩
  have HF1 : Hid (Fr Non W0 w1) := hf
  have hb1 := HBb.out _ (HF0.out.trans hf)
  clear c0 c1 c2 c3 c5 c6 c7 c8 c9
  have c0 : w1.cell? ⟨b, 0, none⟩ = some (.int .i64 T.id) := cell_of hb1 0
  have c1 : w1.cell? ⟨b, 1, none⟩ = some (.slice (some ⟨pb, 0, none⟩) T.parts.length pc) := cell_of hb1 1
  have c2 : w1.cell? ⟨b, 2, none⟩ = some (.string ⟨#[98, 101, 103, 105, 110]⟩) := cell_of hb1 2
  have c3 : w1.cell? ⟨b, 3, none⟩ = some (.int .i64 T.at_) := cell_of hb1 3
  have c5 : w1.cell? ⟨b, 5, none⟩ = some (.int .i64 T.num) := cell_of hb1 5
  have c6 : w1.cell? ⟨b, 6, none⟩ = some (.int .i64 T.hol) := cell_of hb1 6
  have c7 : w1.cell? ⟨b, 7, none⟩ = some (.int .i64 T.nxt) := cell_of hb1 7
  have c8 : w1.cell? ⟨b, 8, none⟩ = some (.int .i64 T.version) := cell_of hb1 8
  have c9 : w1.cell? ⟨b, 9, none⟩ = some (.bool dn) := cell_of hb1 9
  clear hb1 hf
  go_wp2_with fail
  refine (decimal_any T.hol _ (by omega) (by omega)).mono ?_
  rintro e w2 ⟨rfl, hf⟩
  have HF2 : Hid (Fr Non W0 w2) := HF1.out.trans hf
  have hb2 := HBb.out _ (HF0.out.trans HF2.out)
  have p0 := (HP0.out _ (HF0.out.trans HF2.out)).1
  have p1 := (HP0.out _ (HF0.out.trans HF2.out)).2
  clear c0 c1 c2 c3 c5 c6 c7 c8 c9
  have c0 : w2.cell? ⟨b, 0, none⟩ = some (.int .i64 T.id) := cell_of hb2 0
  have c1 : w2.cell? ⟨b, 1, none⟩ = some (.slice (some ⟨pb, 0, none⟩) T.parts.length pc) := cell_of hb2 1
  have c2 : w2.cell? ⟨b, 2, none⟩ = some (.string ⟨#[98, 101, 103, 105, 110]⟩) := cell_of hb2 2
  have c3 : w2.cell? ⟨b, 3, none⟩ = some (.int .i64 T.at_) := cell_of hb2 3
  have c5 : w2.cell? ⟨b, 5, none⟩ = some (.int .i64 T.num) := cell_of hb2 5
  have c6 : w2.cell? ⟨b, 6, none⟩ = some (.int .i64 T.hol) := cell_of hb2 6
  have c7 : w2.cell? ⟨b, 7, none⟩ = some (.int .i64 T.nxt) := cell_of hb2 7
  have c8 : w2.cell? ⟨b, 8, none⟩ = some (.int .i64 T.version) := cell_of hb2 8
  have c9 : w2.cell? ⟨b, 9, none⟩ = some (.bool dn) := cell_of hb2 9
  have hl2 : b < w2.heap.size := lt_of_heap hb2
  have hp2l : pb < w2.heap.size := by have h1 := HF0.out.size; have h2 := HF2.out.size; omega
  clear hb2 hf
  go_wp2_with fail
  go_quiet (fail)
  generalize hWd : World.drewN _ _ = wd
  have hFd : Fr Non W0 wd := by rw [← hWd]; exact HF2.out.drewN _
  have HFd := Lib.hid hFd
  have hR := hFd.blk HR0.out (fun h => h)
  have hrl := lt_of_heap hR
  have r0 : wd.cell? ⟨w.heap.size, 0, none⟩ = some (.int .i64 0) := cell_of hR 0
  have q0 := free_of hR 0
  have r1 : wd.cell? ⟨w.heap.size, 1, none⟩ = some (.string ⟨#[]⟩) := cell_of hR 1
  have q1 := free_of hR 1
  have r2 : wd.cell? ⟨w.heap.size, 2, none⟩ = some (.string ⟨#[]⟩) := cell_of hR 2
  have q2 := free_of hR 2
  have r3 : wd.cell? ⟨w.heap.size, 3, none⟩ = some (.int .i64 0) := cell_of hR 3
  have q3 := free_of hR 3
  have hbd := HBb.out _ (HF0.out.trans hFd)
  have hld := lt_of_heap hbd
  have p0 := (HP0.out _ (HF0.out.trans hFd)).1
  have p1 := (HP0.out _ (HF0.out.trans hFd)).2
  clear c0 c1 c2 c3 c5 c6 c7 c8 c9
  have c0 : wd.cell? ⟨b, 0, none⟩ = some (.int .i64 T.id) := cell_of hbd 0
  have c1 : wd.cell? ⟨b, 1, none⟩ = some (.slice (some ⟨pb, 0, none⟩) T.parts.length pc) := cell_of hbd 1
  have c2 : wd.cell? ⟨b, 2, none⟩ = some (.string ⟨#[98, 101, 103, 105, 110]⟩) := cell_of hbd 2
  have c3 : wd.cell? ⟨b, 3, none⟩ = some (.int .i64 T.at_) := cell_of hbd 3
  have c5 : wd.cell? ⟨b, 5, none⟩ = some (.int .i64 T.num) := cell_of hbd 5
  have c6 : wd.cell? ⟨b, 6, none⟩ = some (.int .i64 T.hol) := cell_of hbd 6
  have c7 : wd.cell? ⟨b, 7, none⟩ = some (.int .i64 T.nxt) := cell_of hbd 7
  have c8 : wd.cell? ⟨b, 8, none⟩ = some (.int .i64 T.version) := cell_of hbd 8
  have c9 : wd.cell? ⟨b, 9, none⟩ = some (.bool dn) := cell_of hbd 9
  have hne : w.heap.size ≠ b := by omega
  have hnp : w.heap.size ≠ pb := by omega
  have hpl : pb < wd.heap.size := by have h1 := HF0.out.size; have h2 := hFd.size; omega
  clear hWd hFd hR hbd
  go_wp2_with fail
  all_goals
    first | (exfalso; omega) | skip
    refine bodyPost_ret (v := .tuple #[cmdV 4 (recordB T.id) openB 0, .bool true]) (by simp [results, Tryd.results7, go_sem, r0, r1, r2, r3, hrl, recordB, openB, doneB, offB, dataB]) rfl ⟨by rw [hE.out], ?_⟩
    exact Fr.then (S := Non) (T := Only w.heap.size) HF0.out (HFd.out.lift.trans (by with_reducible repeat (first | exact Fr.refl _ _ | refine Fr.setOnly ?_ _ _ | refine Fr.alloc ?_ _ | refine Fr.drew ?_ | refine Fr.drewN ?_ _))) (fun i hi e => absurd hi (by rw [e]; omega))

set_option maxRecDepth 100000 in
set_option maxHeartbeats 2000000 in
theorem cmd_p1 {B : Nat} (w : World) (b pb pc : Nat) (ov : Value) (T : Tx) (dn : Bool) (hT : IsRx B w b T pb pc ov dn) (hph : T.phase = 1) :
    Calls Tryd.prog 7 #[.pointer (some ⟨b, 0, none⟩)] w (NextPost w T) := by
  have hb := hT.blk
  have hc2 : (rxCells T pb pc ov dn)[2]? = some (.string ⟨#[108, 111, 111, 107]⟩) := by show some (Value.string (wordOf T.phase)) = _; rw [hph]; rfl
  have hwf := hT.wf
  have hat := hwf.at_
  have hlen := hwf.len.2
  have hpart := hwf.part
  have hbase := hT.base.2.2
  have hid1 := hwf.id
  have hnum := hwf.num
  have hhol := hwf.hol
  have hnxt := hwf.nxt
  have Hpart := Lib.hid (hT.parts T.at_ hat)
  have hq1 : (0 : Int) ≤ ((T.at_ : Nat) : Int) := by omega
  have hq2 : ((T.at_ : Nat) : Int) < ((T.parts.length : Nat) : Int) := by omega
  have hlt := lt_of_heap hb
  have Hdn := Lib.hid hT.dn
  have Hwf := Lib.hid hwf
  have Hph := Lib.hid hph
  have HT := Lib.hid hT
  have hE : Hid (T.next = ((2, dataB T.part.1, ⟨#[]⟩, 0), true)) := by
    show T.next = _
    unfold Tx.next; rw [if_neg (by omega), if_pos (by omega)]
  have HP0 : Hid (∀ w', Fr Non w w' → w'.cell? ⟨pb, T.at_ * 2, none⟩ = some (.string T.part.1) ∧ w'.cell? ⟨pb, T.at_ * 2 + 1, none⟩ = some (.int .i64 T.part.2)) := fun w' hf => ⟨(hf.cell (p := ⟨pb, T.at_ * 2, none⟩) hbase (fun h => h)).trans Hpart.out.1, (hf.cell (p := ⟨pb, T.at_ * 2 + 1, none⟩) hbase (fun h => h)).trans Hpart.out.2⟩
  have HBb : Hid (∀ w', Fr Non w w' → w'.heap[b]? = some (.cells #[.int .i64 T.id, .slice (some ⟨pb, 0, none⟩) T.parts.length pc, .string ⟨#[108, 111, 111, 107]⟩, .int .i64 T.at_, ov, .int .i64 T.num, .int .i64 T.hol, .int .i64 T.nxt, .int .i64 T.version, .bool dn, .int .i64 T.state] 45 (0, 0))) := fun w' hf => by
    have h := hf.blk hb (fun h => h)
    rw [show rxCells T pb pc ov dn = #[.int .i64 T.id, .slice (some ⟨pb, 0, none⟩) T.parts.length pc, .string ⟨#[108, 111, 111, 107]⟩, .int .i64 T.at_, ov, .int .i64 T.num, .int .i64 T.hol, .int .i64 T.nxt, .int .i64 T.version, .bool dn, .int .i64 T.state] by unfold rxCells; rw [hph]; rfl] at h
    exact h
  generalize hy : T.part.1 = y at *
  generalize hz : T.part.2 = z at *
  have Hy := Lib.hid hy
  have Hz := Lib.hid hz
  obtain ⟨hp1, hp2, hp3⟩ := hpart
  have l0 := itoaB_size T.id (by omega) (by omega)
  have l1 := itoaB_size T.hol (by omega) (by omega)
  have s0 : ¬ 9223372036854775807 < 1 + (itoaB T.id).size := by omega
  have s1 : ¬ 9223372036854775807 < 1 + (itoaB T.hol).size := by omega
  have s2 : ¬ 9223372036854775807 < 1 + y.size := by omega
  clear hy hz hb hT hph hwf hc2 l0 l1
  have hbw := HBb.out _ (Fr.refl _ _)
  have c0 : w.cell? ⟨b, 0, none⟩ = some (.int .i64 T.id) := cell_of hbw 0
  have c1 : w.cell? ⟨b, 1, none⟩ = some (.slice (some ⟨pb, 0, none⟩) T.parts.length pc) := cell_of hbw 1
  have c2 : w.cell? ⟨b, 2, none⟩ = some (.string ⟨#[108, 111, 111, 107]⟩) := cell_of hbw 2
  have c3 : w.cell? ⟨b, 3, none⟩ = some (.int .i64 T.at_) := cell_of hbw 3
  have c5 : w.cell? ⟨b, 5, none⟩ = some (.int .i64 T.num) := cell_of hbw 5
  have c6 : w.cell? ⟨b, 6, none⟩ = some (.int .i64 T.hol) := cell_of hbw 6
  have c7 : w.cell? ⟨b, 7, none⟩ = some (.int .i64 T.nxt) := cell_of hbw 7
  have c8 : w.cell? ⟨b, 8, none⟩ = some (.int .i64 T.version) := cell_of hbw 8
  have c9 : w.cell? ⟨b, 9, none⟩ = some (.bool dn) := cell_of hbw 9
  clear hbw
  go_enter Tryd.func7, Tryd.ntmps7
  go_wp2_with fail
  generalize hW0 : World.alloc w _ = W0
  have hF0 : Fr Non w W0 := by rw [← hW0]; exact (Fr.refl _ _).alloc _
  have hR0 : W0.heap[w.heap.size]? = some (.cells #[.int .i64 0, .string ⟨#[]⟩, .string ⟨#[]⟩, .int .i64 0] 31 (0, 0)) := by rw [← hW0]; exact heap_alloc_new _ _
  have HF0 := Lib.hid hF0
  have HR0 := Lib.hid hR0
  clear hW0 hF0 hR0
  refine (decimal_any T.id _ (by omega) (by omega)).mono ?_
  rintro e w1 ⟨rfl, hf⟩
  have HF1 : Hid (Fr Non W0 w1) := hf
  have hb1 := HBb.out _ (HF0.out.trans hf)
  clear c0 c1 c2 c3 c5 c6 c7 c8 c9
  have c0 : w1.cell? ⟨b, 0, none⟩ = some (.int .i64 T.id) := cell_of hb1 0
  have c1 : w1.cell? ⟨b, 1, none⟩ = some (.slice (some ⟨pb, 0, none⟩) T.parts.length pc) := cell_of hb1 1
  have c2 : w1.cell? ⟨b, 2, none⟩ = some (.string ⟨#[108, 111, 111, 107]⟩) := cell_of hb1 2
  have c3 : w1.cell? ⟨b, 3, none⟩ = some (.int .i64 T.at_) := cell_of hb1 3
  have c5 : w1.cell? ⟨b, 5, none⟩ = some (.int .i64 T.num) := cell_of hb1 5
  have c6 : w1.cell? ⟨b, 6, none⟩ = some (.int .i64 T.hol) := cell_of hb1 6
  have c7 : w1.cell? ⟨b, 7, none⟩ = some (.int .i64 T.nxt) := cell_of hb1 7
  have c8 : w1.cell? ⟨b, 8, none⟩ = some (.int .i64 T.version) := cell_of hb1 8
  have c9 : w1.cell? ⟨b, 9, none⟩ = some (.bool dn) := cell_of hb1 9
  clear hb1 hf
  go_wp2_with fail
  refine (decimal_any T.hol _ (by omega) (by omega)).mono ?_
  rintro e w2 ⟨rfl, hf⟩
  have HF2 : Hid (Fr Non W0 w2) := HF1.out.trans hf
  have hb2 := HBb.out _ (HF0.out.trans HF2.out)
  have p0 := (HP0.out _ (HF0.out.trans HF2.out)).1
  have p1 := (HP0.out _ (HF0.out.trans HF2.out)).2
  clear c0 c1 c2 c3 c5 c6 c7 c8 c9
  have c0 : w2.cell? ⟨b, 0, none⟩ = some (.int .i64 T.id) := cell_of hb2 0
  have c1 : w2.cell? ⟨b, 1, none⟩ = some (.slice (some ⟨pb, 0, none⟩) T.parts.length pc) := cell_of hb2 1
  have c2 : w2.cell? ⟨b, 2, none⟩ = some (.string ⟨#[108, 111, 111, 107]⟩) := cell_of hb2 2
  have c3 : w2.cell? ⟨b, 3, none⟩ = some (.int .i64 T.at_) := cell_of hb2 3
  have c5 : w2.cell? ⟨b, 5, none⟩ = some (.int .i64 T.num) := cell_of hb2 5
  have c6 : w2.cell? ⟨b, 6, none⟩ = some (.int .i64 T.hol) := cell_of hb2 6
  have c7 : w2.cell? ⟨b, 7, none⟩ = some (.int .i64 T.nxt) := cell_of hb2 7
  have c8 : w2.cell? ⟨b, 8, none⟩ = some (.int .i64 T.version) := cell_of hb2 8
  have c9 : w2.cell? ⟨b, 9, none⟩ = some (.bool dn) := cell_of hb2 9
  have hl2 : b < w2.heap.size := lt_of_heap hb2
  have hp2l : pb < w2.heap.size := by have h1 := HF0.out.size; have h2 := HF2.out.size; omega
  clear hb2 hf
  go_wp2_with fail
  go_quiet (fail)
  generalize hWd : World.drewN _ _ = wd
  have hFd : Fr Non W0 wd := by rw [← hWd]; exact HF2.out.drewN _
  have HFd := Lib.hid hFd
  have hR := hFd.blk HR0.out (fun h => h)
  have hrl := lt_of_heap hR
  have r0 : wd.cell? ⟨w.heap.size, 0, none⟩ = some (.int .i64 0) := cell_of hR 0
  have q0 := free_of hR 0
  have r1 : wd.cell? ⟨w.heap.size, 1, none⟩ = some (.string ⟨#[]⟩) := cell_of hR 1
  have q1 := free_of hR 1
  have r2 : wd.cell? ⟨w.heap.size, 2, none⟩ = some (.string ⟨#[]⟩) := cell_of hR 2
  have q2 := free_of hR 2
  have r3 : wd.cell? ⟨w.heap.size, 3, none⟩ = some (.int .i64 0) := cell_of hR 3
  have q3 := free_of hR 3
  have hbd := HBb.out _ (HF0.out.trans hFd)
  have hld := lt_of_heap hbd
  have p0 := (HP0.out _ (HF0.out.trans hFd)).1
  have p1 := (HP0.out _ (HF0.out.trans hFd)).2
  clear c0 c1 c2 c3 c5 c6 c7 c8 c9
  have c0 : wd.cell? ⟨b, 0, none⟩ = some (.int .i64 T.id) := cell_of hbd 0
  have c1 : wd.cell? ⟨b, 1, none⟩ = some (.slice (some ⟨pb, 0, none⟩) T.parts.length pc) := cell_of hbd 1
  have c2 : wd.cell? ⟨b, 2, none⟩ = some (.string ⟨#[108, 111, 111, 107]⟩) := cell_of hbd 2
  have c3 : wd.cell? ⟨b, 3, none⟩ = some (.int .i64 T.at_) := cell_of hbd 3
  have c5 : wd.cell? ⟨b, 5, none⟩ = some (.int .i64 T.num) := cell_of hbd 5
  have c6 : wd.cell? ⟨b, 6, none⟩ = some (.int .i64 T.hol) := cell_of hbd 6
  have c7 : wd.cell? ⟨b, 7, none⟩ = some (.int .i64 T.nxt) := cell_of hbd 7
  have c8 : wd.cell? ⟨b, 8, none⟩ = some (.int .i64 T.version) := cell_of hbd 8
  have c9 : wd.cell? ⟨b, 9, none⟩ = some (.bool dn) := cell_of hbd 9
  have hne : w.heap.size ≠ b := by omega
  have hnp : w.heap.size ≠ pb := by omega
  have hpl : pb < wd.heap.size := by have h1 := HF0.out.size; have h2 := hFd.size; omega
  clear hWd hFd hR hbd
  go_wp2_with fail
  all_goals
    first | (exfalso; omega) | skip
    refine bodyPost_ret (v := .tuple #[cmdV 2 (dataB y) ⟨#[]⟩ 0, .bool true]) (by simp [results, Tryd.results7, go_sem, r0, r1, r2, r3, hrl, recordB, openB, doneB, offB, dataB]) rfl ⟨by rw [hE.out], ?_⟩
    exact Fr.then (S := Non) (T := Only w.heap.size) HF0.out (HFd.out.lift.trans (by with_reducible repeat (first | exact Fr.refl _ _ | refine Fr.setOnly ?_ _ _ | refine Fr.alloc ?_ _ | refine Fr.drew ?_ | refine Fr.drewN ?_ _))) (fun i hi e => absurd hi (by rw [e]; omega))

set_option maxRecDepth 100000 in
set_option maxHeartbeats 2000000 in
theorem cmd_p3 {B : Nat} (w : World) (b pb pc : Nat) (ov : Value) (T : Tx) (dn : Bool) (hT : IsRx B w b T pb pc ov dn) (hph : T.phase = 3) :
    Calls Tryd.prog 7 #[.pointer (some ⟨b, 0, none⟩)] w (NextPost w T) := by
  have hb := hT.blk
  have hc2 : (rxCells T pb pc ov dn)[2]? = some (.string ⟨#[97, 115, 107]⟩) := by show some (Value.string (wordOf T.phase)) = _; rw [hph]; rfl
  have hwf := hT.wf
  have hat := hwf.at_
  have hlen := hwf.len.2
  have hpart := hwf.part
  have hbase := hT.base.2.2
  have hid1 := hwf.id
  have hnum := hwf.num
  have hhol := hwf.hol
  have hnxt := hwf.nxt
  have Hpart := Lib.hid (hT.parts T.at_ hat)
  have hq1 : (0 : Int) ≤ ((T.at_ : Nat) : Int) := by omega
  have hq2 : ((T.at_ : Nat) : Int) < ((T.parts.length : Nat) : Int) := by omega
  have hlt := lt_of_heap hb
  have Hdn := Lib.hid hT.dn
  have Hwf := Lib.hid hwf
  have Hph := Lib.hid hph
  have HT := Lib.hid hT
  have hE : Hid (T.next = ((2, recordB T.hol, ⟨#[]⟩, 0), true)) := by
    show T.next = _
    unfold Tx.next; rw [if_neg (by omega), if_neg (by omega), if_neg (by omega), if_pos (by omega)]
  have HP0 : Hid (∀ w', Fr Non w w' → w'.cell? ⟨pb, T.at_ * 2, none⟩ = some (.string T.part.1) ∧ w'.cell? ⟨pb, T.at_ * 2 + 1, none⟩ = some (.int .i64 T.part.2)) := fun w' hf => ⟨(hf.cell (p := ⟨pb, T.at_ * 2, none⟩) hbase (fun h => h)).trans Hpart.out.1, (hf.cell (p := ⟨pb, T.at_ * 2 + 1, none⟩) hbase (fun h => h)).trans Hpart.out.2⟩
  have HBb : Hid (∀ w', Fr Non w w' → w'.heap[b]? = some (.cells #[.int .i64 T.id, .slice (some ⟨pb, 0, none⟩) T.parts.length pc, .string ⟨#[97, 115, 107]⟩, .int .i64 T.at_, ov, .int .i64 T.num, .int .i64 T.hol, .int .i64 T.nxt, .int .i64 T.version, .bool dn, .int .i64 T.state] 45 (0, 0))) := fun w' hf => by
    have h := hf.blk hb (fun h => h)
    rw [show rxCells T pb pc ov dn = #[.int .i64 T.id, .slice (some ⟨pb, 0, none⟩) T.parts.length pc, .string ⟨#[97, 115, 107]⟩, .int .i64 T.at_, ov, .int .i64 T.num, .int .i64 T.hol, .int .i64 T.nxt, .int .i64 T.version, .bool dn, .int .i64 T.state] by unfold rxCells; rw [hph]; rfl] at h
    exact h
  generalize hy : T.part.1 = y at *
  generalize hz : T.part.2 = z at *
  have Hy := Lib.hid hy
  have Hz := Lib.hid hz
  obtain ⟨hp1, hp2, hp3⟩ := hpart
  have l0 := itoaB_size T.id (by omega) (by omega)
  have l1 := itoaB_size T.hol (by omega) (by omega)
  have s0 : ¬ 9223372036854775807 < 1 + (itoaB T.id).size := by omega
  have s1 : ¬ 9223372036854775807 < 1 + (itoaB T.hol).size := by omega
  have s2 : ¬ 9223372036854775807 < 1 + y.size := by omega
  clear hy hz hb hT hph hwf hc2 l0 l1
  have hbw := HBb.out _ (Fr.refl _ _)
  have c0 : w.cell? ⟨b, 0, none⟩ = some (.int .i64 T.id) := cell_of hbw 0
  have c1 : w.cell? ⟨b, 1, none⟩ = some (.slice (some ⟨pb, 0, none⟩) T.parts.length pc) := cell_of hbw 1
  have c2 : w.cell? ⟨b, 2, none⟩ = some (.string ⟨#[97, 115, 107]⟩) := cell_of hbw 2
  have c3 : w.cell? ⟨b, 3, none⟩ = some (.int .i64 T.at_) := cell_of hbw 3
  have c5 : w.cell? ⟨b, 5, none⟩ = some (.int .i64 T.num) := cell_of hbw 5
  have c6 : w.cell? ⟨b, 6, none⟩ = some (.int .i64 T.hol) := cell_of hbw 6
  have c7 : w.cell? ⟨b, 7, none⟩ = some (.int .i64 T.nxt) := cell_of hbw 7
  have c8 : w.cell? ⟨b, 8, none⟩ = some (.int .i64 T.version) := cell_of hbw 8
  have c9 : w.cell? ⟨b, 9, none⟩ = some (.bool dn) := cell_of hbw 9
  clear hbw
  go_enter Tryd.func7, Tryd.ntmps7
  go_wp2_with fail
  generalize hW0 : World.alloc w _ = W0
  have hF0 : Fr Non w W0 := by rw [← hW0]; exact (Fr.refl _ _).alloc _
  have hR0 : W0.heap[w.heap.size]? = some (.cells #[.int .i64 0, .string ⟨#[]⟩, .string ⟨#[]⟩, .int .i64 0] 31 (0, 0)) := by rw [← hW0]; exact heap_alloc_new _ _
  have HF0 := Lib.hid hF0
  have HR0 := Lib.hid hR0
  clear hW0 hF0 hR0
  refine (decimal_any T.id _ (by omega) (by omega)).mono ?_
  rintro e w1 ⟨rfl, hf⟩
  have HF1 : Hid (Fr Non W0 w1) := hf
  have hb1 := HBb.out _ (HF0.out.trans hf)
  clear c0 c1 c2 c3 c5 c6 c7 c8 c9
  have c0 : w1.cell? ⟨b, 0, none⟩ = some (.int .i64 T.id) := cell_of hb1 0
  have c1 : w1.cell? ⟨b, 1, none⟩ = some (.slice (some ⟨pb, 0, none⟩) T.parts.length pc) := cell_of hb1 1
  have c2 : w1.cell? ⟨b, 2, none⟩ = some (.string ⟨#[97, 115, 107]⟩) := cell_of hb1 2
  have c3 : w1.cell? ⟨b, 3, none⟩ = some (.int .i64 T.at_) := cell_of hb1 3
  have c5 : w1.cell? ⟨b, 5, none⟩ = some (.int .i64 T.num) := cell_of hb1 5
  have c6 : w1.cell? ⟨b, 6, none⟩ = some (.int .i64 T.hol) := cell_of hb1 6
  have c7 : w1.cell? ⟨b, 7, none⟩ = some (.int .i64 T.nxt) := cell_of hb1 7
  have c8 : w1.cell? ⟨b, 8, none⟩ = some (.int .i64 T.version) := cell_of hb1 8
  have c9 : w1.cell? ⟨b, 9, none⟩ = some (.bool dn) := cell_of hb1 9
  clear hb1 hf
  go_wp2_with fail
  refine (decimal_any T.hol _ (by omega) (by omega)).mono ?_
  rintro e w2 ⟨rfl, hf⟩
  have HF2 : Hid (Fr Non W0 w2) := HF1.out.trans hf
  have hb2 := HBb.out _ (HF0.out.trans HF2.out)
  have p0 := (HP0.out _ (HF0.out.trans HF2.out)).1
  have p1 := (HP0.out _ (HF0.out.trans HF2.out)).2
  clear c0 c1 c2 c3 c5 c6 c7 c8 c9
  have c0 : w2.cell? ⟨b, 0, none⟩ = some (.int .i64 T.id) := cell_of hb2 0
  have c1 : w2.cell? ⟨b, 1, none⟩ = some (.slice (some ⟨pb, 0, none⟩) T.parts.length pc) := cell_of hb2 1
  have c2 : w2.cell? ⟨b, 2, none⟩ = some (.string ⟨#[97, 115, 107]⟩) := cell_of hb2 2
  have c3 : w2.cell? ⟨b, 3, none⟩ = some (.int .i64 T.at_) := cell_of hb2 3
  have c5 : w2.cell? ⟨b, 5, none⟩ = some (.int .i64 T.num) := cell_of hb2 5
  have c6 : w2.cell? ⟨b, 6, none⟩ = some (.int .i64 T.hol) := cell_of hb2 6
  have c7 : w2.cell? ⟨b, 7, none⟩ = some (.int .i64 T.nxt) := cell_of hb2 7
  have c8 : w2.cell? ⟨b, 8, none⟩ = some (.int .i64 T.version) := cell_of hb2 8
  have c9 : w2.cell? ⟨b, 9, none⟩ = some (.bool dn) := cell_of hb2 9
  have hl2 : b < w2.heap.size := lt_of_heap hb2
  have hp2l : pb < w2.heap.size := by have h1 := HF0.out.size; have h2 := HF2.out.size; omega
  clear hb2 hf
  go_wp2_with fail
  go_quiet (fail)
  generalize hWd : World.drewN _ _ = wd
  have hFd : Fr Non W0 wd := by rw [← hWd]; exact HF2.out.drewN _
  have HFd := Lib.hid hFd
  have hR := hFd.blk HR0.out (fun h => h)
  have hrl := lt_of_heap hR
  have r0 : wd.cell? ⟨w.heap.size, 0, none⟩ = some (.int .i64 0) := cell_of hR 0
  have q0 := free_of hR 0
  have r1 : wd.cell? ⟨w.heap.size, 1, none⟩ = some (.string ⟨#[]⟩) := cell_of hR 1
  have q1 := free_of hR 1
  have r2 : wd.cell? ⟨w.heap.size, 2, none⟩ = some (.string ⟨#[]⟩) := cell_of hR 2
  have q2 := free_of hR 2
  have r3 : wd.cell? ⟨w.heap.size, 3, none⟩ = some (.int .i64 0) := cell_of hR 3
  have q3 := free_of hR 3
  have hbd := HBb.out _ (HF0.out.trans hFd)
  have hld := lt_of_heap hbd
  have p0 := (HP0.out _ (HF0.out.trans hFd)).1
  have p1 := (HP0.out _ (HF0.out.trans hFd)).2
  clear c0 c1 c2 c3 c5 c6 c7 c8 c9
  have c0 : wd.cell? ⟨b, 0, none⟩ = some (.int .i64 T.id) := cell_of hbd 0
  have c1 : wd.cell? ⟨b, 1, none⟩ = some (.slice (some ⟨pb, 0, none⟩) T.parts.length pc) := cell_of hbd 1
  have c2 : wd.cell? ⟨b, 2, none⟩ = some (.string ⟨#[97, 115, 107]⟩) := cell_of hbd 2
  have c3 : wd.cell? ⟨b, 3, none⟩ = some (.int .i64 T.at_) := cell_of hbd 3
  have c5 : wd.cell? ⟨b, 5, none⟩ = some (.int .i64 T.num) := cell_of hbd 5
  have c6 : wd.cell? ⟨b, 6, none⟩ = some (.int .i64 T.hol) := cell_of hbd 6
  have c7 : wd.cell? ⟨b, 7, none⟩ = some (.int .i64 T.nxt) := cell_of hbd 7
  have c8 : wd.cell? ⟨b, 8, none⟩ = some (.int .i64 T.version) := cell_of hbd 8
  have c9 : wd.cell? ⟨b, 9, none⟩ = some (.bool dn) := cell_of hbd 9
  have hne : w.heap.size ≠ b := by omega
  have hnp : w.heap.size ≠ pb := by omega
  have hpl : pb < wd.heap.size := by have h1 := HF0.out.size; have h2 := hFd.size; omega
  clear hWd hFd hR hbd
  go_wp2_with fail
  all_goals
    first | (exfalso; omega) | skip
    refine bodyPost_ret (v := .tuple #[cmdV 2 (recordB T.hol) ⟨#[]⟩ 0, .bool true]) (by simp [results, Tryd.results7, go_sem, r0, r1, r2, r3, hrl, recordB, openB, doneB, offB, dataB]) rfl ⟨by rw [hE.out], ?_⟩
    exact Fr.then (S := Non) (T := Only w.heap.size) HF0.out (HFd.out.lift.trans (by with_reducible repeat (first | exact Fr.refl _ _ | refine Fr.setOnly ?_ _ _ | refine Fr.alloc ?_ _ | refine Fr.drew ?_ | refine Fr.drewN ?_ _))) (fun i hi e => absurd hi (by rw [e]; omega))

set_option maxRecDepth 100000 in
set_option maxHeartbeats 2000000 in
theorem cmd_p4 {B : Nat} (w : World) (b pb pc : Nat) (ov : Value) (T : Tx) (dn : Bool) (hT : IsRx B w b T pb pc ov dn) (hph : T.phase = 4) :
    Calls Tryd.prog 7 #[.pointer (some ⟨b, 0, none⟩)] w (NextPost w T) := by
  have hb := hT.blk
  have hc2 : (rxCells T pb pc ov dn)[2]? = some (.string ⟨#[101, 110, 100]⟩) := by show some (Value.string (wordOf T.phase)) = _; rw [hph]; rfl
  have hwf := hT.wf
  have hat := hwf.at_
  have hlen := hwf.len.2
  have hpart := hwf.part
  have hbase := hT.base.2.2
  have hid1 := hwf.id
  have hnum := hwf.num
  have hhol := hwf.hol
  have hnxt := hwf.nxt
  have Hpart := Lib.hid (hT.parts T.at_ hat)
  have hq1 : (0 : Int) ≤ ((T.at_ : Nat) : Int) := by omega
  have hq2 : ((T.at_ : Nat) : Int) < ((T.parts.length : Nat) : Int) := by omega
  have hlt := lt_of_heap hb
  have Hdn := Lib.hid hT.dn
  have Hwf := Lib.hid hwf
  have Hph := Lib.hid hph
  have HT := Lib.hid hT
  have hE : Hid (T.next = ((4, recordB T.hol, offB, T.version), true)) := by
    show T.next = _
    unfold Tx.next; rw [if_neg (by omega), if_neg (by omega), if_neg (by omega), if_neg (by omega), if_pos (by omega)]
  have HP0 : Hid (∀ w', Fr Non w w' → w'.cell? ⟨pb, T.at_ * 2, none⟩ = some (.string T.part.1) ∧ w'.cell? ⟨pb, T.at_ * 2 + 1, none⟩ = some (.int .i64 T.part.2)) := fun w' hf => ⟨(hf.cell (p := ⟨pb, T.at_ * 2, none⟩) hbase (fun h => h)).trans Hpart.out.1, (hf.cell (p := ⟨pb, T.at_ * 2 + 1, none⟩) hbase (fun h => h)).trans Hpart.out.2⟩
  have HBb : Hid (∀ w', Fr Non w w' → w'.heap[b]? = some (.cells #[.int .i64 T.id, .slice (some ⟨pb, 0, none⟩) T.parts.length pc, .string ⟨#[101, 110, 100]⟩, .int .i64 T.at_, ov, .int .i64 T.num, .int .i64 T.hol, .int .i64 T.nxt, .int .i64 T.version, .bool dn, .int .i64 T.state] 45 (0, 0))) := fun w' hf => by
    have h := hf.blk hb (fun h => h)
    rw [show rxCells T pb pc ov dn = #[.int .i64 T.id, .slice (some ⟨pb, 0, none⟩) T.parts.length pc, .string ⟨#[101, 110, 100]⟩, .int .i64 T.at_, ov, .int .i64 T.num, .int .i64 T.hol, .int .i64 T.nxt, .int .i64 T.version, .bool dn, .int .i64 T.state] by unfold rxCells; rw [hph]; rfl] at h
    exact h
  generalize hy : T.part.1 = y at *
  generalize hz : T.part.2 = z at *
  have Hy := Lib.hid hy
  have Hz := Lib.hid hz
  obtain ⟨hp1, hp2, hp3⟩ := hpart
  have l0 := itoaB_size T.id (by omega) (by omega)
  have l1 := itoaB_size T.hol (by omega) (by omega)
  have s0 : ¬ 9223372036854775807 < 1 + (itoaB T.id).size := by omega
  have s1 : ¬ 9223372036854775807 < 1 + (itoaB T.hol).size := by omega
  have s2 : ¬ 9223372036854775807 < 1 + y.size := by omega
  clear hy hz hb hT hph hwf hc2 l0 l1
  have hbw := HBb.out _ (Fr.refl _ _)
  have c0 : w.cell? ⟨b, 0, none⟩ = some (.int .i64 T.id) := cell_of hbw 0
  have c1 : w.cell? ⟨b, 1, none⟩ = some (.slice (some ⟨pb, 0, none⟩) T.parts.length pc) := cell_of hbw 1
  have c2 : w.cell? ⟨b, 2, none⟩ = some (.string ⟨#[101, 110, 100]⟩) := cell_of hbw 2
  have c3 : w.cell? ⟨b, 3, none⟩ = some (.int .i64 T.at_) := cell_of hbw 3
  have c5 : w.cell? ⟨b, 5, none⟩ = some (.int .i64 T.num) := cell_of hbw 5
  have c6 : w.cell? ⟨b, 6, none⟩ = some (.int .i64 T.hol) := cell_of hbw 6
  have c7 : w.cell? ⟨b, 7, none⟩ = some (.int .i64 T.nxt) := cell_of hbw 7
  have c8 : w.cell? ⟨b, 8, none⟩ = some (.int .i64 T.version) := cell_of hbw 8
  have c9 : w.cell? ⟨b, 9, none⟩ = some (.bool dn) := cell_of hbw 9
  clear hbw
  go_enter Tryd.func7, Tryd.ntmps7
  go_wp2_with fail
  generalize hW0 : World.alloc w _ = W0
  have hF0 : Fr Non w W0 := by rw [← hW0]; exact (Fr.refl _ _).alloc _
  have hR0 : W0.heap[w.heap.size]? = some (.cells #[.int .i64 0, .string ⟨#[]⟩, .string ⟨#[]⟩, .int .i64 0] 31 (0, 0)) := by rw [← hW0]; exact heap_alloc_new _ _
  have HF0 := Lib.hid hF0
  have HR0 := Lib.hid hR0
  clear hW0 hF0 hR0
  refine (decimal_any T.id _ (by omega) (by omega)).mono ?_
  rintro e w1 ⟨rfl, hf⟩
  have HF1 : Hid (Fr Non W0 w1) := hf
  have hb1 := HBb.out _ (HF0.out.trans hf)
  clear c0 c1 c2 c3 c5 c6 c7 c8 c9
  have c0 : w1.cell? ⟨b, 0, none⟩ = some (.int .i64 T.id) := cell_of hb1 0
  have c1 : w1.cell? ⟨b, 1, none⟩ = some (.slice (some ⟨pb, 0, none⟩) T.parts.length pc) := cell_of hb1 1
  have c2 : w1.cell? ⟨b, 2, none⟩ = some (.string ⟨#[101, 110, 100]⟩) := cell_of hb1 2
  have c3 : w1.cell? ⟨b, 3, none⟩ = some (.int .i64 T.at_) := cell_of hb1 3
  have c5 : w1.cell? ⟨b, 5, none⟩ = some (.int .i64 T.num) := cell_of hb1 5
  have c6 : w1.cell? ⟨b, 6, none⟩ = some (.int .i64 T.hol) := cell_of hb1 6
  have c7 : w1.cell? ⟨b, 7, none⟩ = some (.int .i64 T.nxt) := cell_of hb1 7
  have c8 : w1.cell? ⟨b, 8, none⟩ = some (.int .i64 T.version) := cell_of hb1 8
  have c9 : w1.cell? ⟨b, 9, none⟩ = some (.bool dn) := cell_of hb1 9
  clear hb1 hf
  go_wp2_with fail
  refine (decimal_any T.hol _ (by omega) (by omega)).mono ?_
  rintro e w2 ⟨rfl, hf⟩
  have HF2 : Hid (Fr Non W0 w2) := HF1.out.trans hf
  have hb2 := HBb.out _ (HF0.out.trans HF2.out)
  have p0 := (HP0.out _ (HF0.out.trans HF2.out)).1
  have p1 := (HP0.out _ (HF0.out.trans HF2.out)).2
  clear c0 c1 c2 c3 c5 c6 c7 c8 c9
  have c0 : w2.cell? ⟨b, 0, none⟩ = some (.int .i64 T.id) := cell_of hb2 0
  have c1 : w2.cell? ⟨b, 1, none⟩ = some (.slice (some ⟨pb, 0, none⟩) T.parts.length pc) := cell_of hb2 1
  have c2 : w2.cell? ⟨b, 2, none⟩ = some (.string ⟨#[101, 110, 100]⟩) := cell_of hb2 2
  have c3 : w2.cell? ⟨b, 3, none⟩ = some (.int .i64 T.at_) := cell_of hb2 3
  have c5 : w2.cell? ⟨b, 5, none⟩ = some (.int .i64 T.num) := cell_of hb2 5
  have c6 : w2.cell? ⟨b, 6, none⟩ = some (.int .i64 T.hol) := cell_of hb2 6
  have c7 : w2.cell? ⟨b, 7, none⟩ = some (.int .i64 T.nxt) := cell_of hb2 7
  have c8 : w2.cell? ⟨b, 8, none⟩ = some (.int .i64 T.version) := cell_of hb2 8
  have c9 : w2.cell? ⟨b, 9, none⟩ = some (.bool dn) := cell_of hb2 9
  have hl2 : b < w2.heap.size := lt_of_heap hb2
  have hp2l : pb < w2.heap.size := by have h1 := HF0.out.size; have h2 := HF2.out.size; omega
  clear hb2 hf
  go_wp2_with fail
  go_quiet (fail)
  generalize hWd : World.drewN _ _ = wd
  have hFd : Fr Non W0 wd := by rw [← hWd]; exact HF2.out.drewN _
  have HFd := Lib.hid hFd
  have hR := hFd.blk HR0.out (fun h => h)
  have hrl := lt_of_heap hR
  have r0 : wd.cell? ⟨w.heap.size, 0, none⟩ = some (.int .i64 0) := cell_of hR 0
  have q0 := free_of hR 0
  have r1 : wd.cell? ⟨w.heap.size, 1, none⟩ = some (.string ⟨#[]⟩) := cell_of hR 1
  have q1 := free_of hR 1
  have r2 : wd.cell? ⟨w.heap.size, 2, none⟩ = some (.string ⟨#[]⟩) := cell_of hR 2
  have q2 := free_of hR 2
  have r3 : wd.cell? ⟨w.heap.size, 3, none⟩ = some (.int .i64 0) := cell_of hR 3
  have q3 := free_of hR 3
  have hbd := HBb.out _ (HF0.out.trans hFd)
  have hld := lt_of_heap hbd
  have p0 := (HP0.out _ (HF0.out.trans hFd)).1
  have p1 := (HP0.out _ (HF0.out.trans hFd)).2
  clear c0 c1 c2 c3 c5 c6 c7 c8 c9
  have c0 : wd.cell? ⟨b, 0, none⟩ = some (.int .i64 T.id) := cell_of hbd 0
  have c1 : wd.cell? ⟨b, 1, none⟩ = some (.slice (some ⟨pb, 0, none⟩) T.parts.length pc) := cell_of hbd 1
  have c2 : wd.cell? ⟨b, 2, none⟩ = some (.string ⟨#[101, 110, 100]⟩) := cell_of hbd 2
  have c3 : wd.cell? ⟨b, 3, none⟩ = some (.int .i64 T.at_) := cell_of hbd 3
  have c5 : wd.cell? ⟨b, 5, none⟩ = some (.int .i64 T.num) := cell_of hbd 5
  have c6 : wd.cell? ⟨b, 6, none⟩ = some (.int .i64 T.hol) := cell_of hbd 6
  have c7 : wd.cell? ⟨b, 7, none⟩ = some (.int .i64 T.nxt) := cell_of hbd 7
  have c8 : wd.cell? ⟨b, 8, none⟩ = some (.int .i64 T.version) := cell_of hbd 8
  have c9 : wd.cell? ⟨b, 9, none⟩ = some (.bool dn) := cell_of hbd 9
  have hne : w.heap.size ≠ b := by omega
  have hnp : w.heap.size ≠ pb := by omega
  have hpl : pb < wd.heap.size := by have h1 := HF0.out.size; have h2 := hFd.size; omega
  clear hWd hFd hR hbd
  go_wp2_with fail
  all_goals
    first | (exfalso; omega) | skip
    refine bodyPost_ret (v := .tuple #[cmdV 4 (recordB T.hol) offB T.version, .bool true]) (by simp [results, Tryd.results7, go_sem, r0, r1, r2, r3, hrl, recordB, openB, doneB, offB, dataB]) rfl ⟨by rw [hE.out], ?_⟩
    exact Fr.then (S := Non) (T := Only w.heap.size) HF0.out (HFd.out.lift.trans (by with_reducible repeat (first | exact Fr.refl _ _ | refine Fr.setOnly ?_ _ _ | refine Fr.alloc ?_ _ | refine Fr.drew ?_ | refine Fr.drewN ?_ _))) (fun i hi e => absurd hi (by rw [e]; omega))

set_option maxRecDepth 100000 in
set_option maxHeartbeats 2000000 in
theorem cmd_p6 {B : Nat} (w : World) (b pb pc : Nat) (ov : Value) (T : Tx) (dn : Bool) (hT : IsRx B w b T pb pc ov dn) (hph : T.phase = 6) :
    Calls Tryd.prog 7 #[.pointer (some ⟨b, 0, none⟩)] w (NextPost w T) := by
  have hb := hT.blk
  have hc2 : (rxCells T pb pc ov dn)[2]? = some (.string ⟨#[99, 111, 109, 109, 105, 116]⟩) := by show some (Value.string (wordOf T.phase)) = _; rw [hph]; rfl
  have hwf := hT.wf
  have hat := hwf.at_
  have hlen := hwf.len.2
  have hpart := hwf.part
  have hbase := hT.base.2.2
  have hid1 := hwf.id
  have hnum := hwf.num
  have hhol := hwf.hol
  have hnxt := hwf.nxt
  have Hpart := Lib.hid (hT.parts T.at_ hat)
  have hq1 : (0 : Int) ≤ ((T.at_ : Nat) : Int) := by omega
  have hq2 : ((T.at_ : Nat) : Int) < ((T.parts.length : Nat) : Int) := by omega
  have hlt := lt_of_heap hb
  have Hdn := Lib.hid hT.dn
  have Hwf := Lib.hid hwf
  have Hph := Lib.hid hph
  have HT := Lib.hid hT
  have hE : Hid (T.next = ((4, recordB T.id, doneB, 1), true)) := by
    show T.next = _
    unfold Tx.next; rw [if_neg (by omega), if_neg (by omega), if_neg (by omega), if_neg (by omega), if_neg (by omega), if_neg (by omega), if_pos (by omega)]
  have HP0 : Hid (∀ w', Fr Non w w' → w'.cell? ⟨pb, T.at_ * 2, none⟩ = some (.string T.part.1) ∧ w'.cell? ⟨pb, T.at_ * 2 + 1, none⟩ = some (.int .i64 T.part.2)) := fun w' hf => ⟨(hf.cell (p := ⟨pb, T.at_ * 2, none⟩) hbase (fun h => h)).trans Hpart.out.1, (hf.cell (p := ⟨pb, T.at_ * 2 + 1, none⟩) hbase (fun h => h)).trans Hpart.out.2⟩
  have HBb : Hid (∀ w', Fr Non w w' → w'.heap[b]? = some (.cells #[.int .i64 T.id, .slice (some ⟨pb, 0, none⟩) T.parts.length pc, .string ⟨#[99, 111, 109, 109, 105, 116]⟩, .int .i64 T.at_, ov, .int .i64 T.num, .int .i64 T.hol, .int .i64 T.nxt, .int .i64 T.version, .bool dn, .int .i64 T.state] 45 (0, 0))) := fun w' hf => by
    have h := hf.blk hb (fun h => h)
    rw [show rxCells T pb pc ov dn = #[.int .i64 T.id, .slice (some ⟨pb, 0, none⟩) T.parts.length pc, .string ⟨#[99, 111, 109, 109, 105, 116]⟩, .int .i64 T.at_, ov, .int .i64 T.num, .int .i64 T.hol, .int .i64 T.nxt, .int .i64 T.version, .bool dn, .int .i64 T.state] by unfold rxCells; rw [hph]; rfl] at h
    exact h
  generalize hy : T.part.1 = y at *
  generalize hz : T.part.2 = z at *
  have Hy := Lib.hid hy
  have Hz := Lib.hid hz
  obtain ⟨hp1, hp2, hp3⟩ := hpart
  have l0 := itoaB_size T.id (by omega) (by omega)
  have l1 := itoaB_size T.hol (by omega) (by omega)
  have s0 : ¬ 9223372036854775807 < 1 + (itoaB T.id).size := by omega
  have s1 : ¬ 9223372036854775807 < 1 + (itoaB T.hol).size := by omega
  have s2 : ¬ 9223372036854775807 < 1 + y.size := by omega
  clear hy hz hb hT hph hwf hc2 l0 l1
  have hbw := HBb.out _ (Fr.refl _ _)
  have c0 : w.cell? ⟨b, 0, none⟩ = some (.int .i64 T.id) := cell_of hbw 0
  have c1 : w.cell? ⟨b, 1, none⟩ = some (.slice (some ⟨pb, 0, none⟩) T.parts.length pc) := cell_of hbw 1
  have c2 : w.cell? ⟨b, 2, none⟩ = some (.string ⟨#[99, 111, 109, 109, 105, 116]⟩) := cell_of hbw 2
  have c3 : w.cell? ⟨b, 3, none⟩ = some (.int .i64 T.at_) := cell_of hbw 3
  have c5 : w.cell? ⟨b, 5, none⟩ = some (.int .i64 T.num) := cell_of hbw 5
  have c6 : w.cell? ⟨b, 6, none⟩ = some (.int .i64 T.hol) := cell_of hbw 6
  have c7 : w.cell? ⟨b, 7, none⟩ = some (.int .i64 T.nxt) := cell_of hbw 7
  have c8 : w.cell? ⟨b, 8, none⟩ = some (.int .i64 T.version) := cell_of hbw 8
  have c9 : w.cell? ⟨b, 9, none⟩ = some (.bool dn) := cell_of hbw 9
  clear hbw
  go_enter Tryd.func7, Tryd.ntmps7
  go_wp2_with fail
  generalize hW0 : World.alloc w _ = W0
  have hF0 : Fr Non w W0 := by rw [← hW0]; exact (Fr.refl _ _).alloc _
  have hR0 : W0.heap[w.heap.size]? = some (.cells #[.int .i64 0, .string ⟨#[]⟩, .string ⟨#[]⟩, .int .i64 0] 31 (0, 0)) := by rw [← hW0]; exact heap_alloc_new _ _
  have HF0 := Lib.hid hF0
  have HR0 := Lib.hid hR0
  clear hW0 hF0 hR0
  refine (decimal_any T.id _ (by omega) (by omega)).mono ?_
  rintro e w1 ⟨rfl, hf⟩
  have HF1 : Hid (Fr Non W0 w1) := hf
  have hb1 := HBb.out _ (HF0.out.trans hf)
  clear c0 c1 c2 c3 c5 c6 c7 c8 c9
  have c0 : w1.cell? ⟨b, 0, none⟩ = some (.int .i64 T.id) := cell_of hb1 0
  have c1 : w1.cell? ⟨b, 1, none⟩ = some (.slice (some ⟨pb, 0, none⟩) T.parts.length pc) := cell_of hb1 1
  have c2 : w1.cell? ⟨b, 2, none⟩ = some (.string ⟨#[99, 111, 109, 109, 105, 116]⟩) := cell_of hb1 2
  have c3 : w1.cell? ⟨b, 3, none⟩ = some (.int .i64 T.at_) := cell_of hb1 3
  have c5 : w1.cell? ⟨b, 5, none⟩ = some (.int .i64 T.num) := cell_of hb1 5
  have c6 : w1.cell? ⟨b, 6, none⟩ = some (.int .i64 T.hol) := cell_of hb1 6
  have c7 : w1.cell? ⟨b, 7, none⟩ = some (.int .i64 T.nxt) := cell_of hb1 7
  have c8 : w1.cell? ⟨b, 8, none⟩ = some (.int .i64 T.version) := cell_of hb1 8
  have c9 : w1.cell? ⟨b, 9, none⟩ = some (.bool dn) := cell_of hb1 9
  clear hb1 hf
  go_wp2_with fail
  refine (decimal_any T.hol _ (by omega) (by omega)).mono ?_
  rintro e w2 ⟨rfl, hf⟩
  have HF2 : Hid (Fr Non W0 w2) := HF1.out.trans hf
  have hb2 := HBb.out _ (HF0.out.trans HF2.out)
  have p0 := (HP0.out _ (HF0.out.trans HF2.out)).1
  have p1 := (HP0.out _ (HF0.out.trans HF2.out)).2
  clear c0 c1 c2 c3 c5 c6 c7 c8 c9
  have c0 : w2.cell? ⟨b, 0, none⟩ = some (.int .i64 T.id) := cell_of hb2 0
  have c1 : w2.cell? ⟨b, 1, none⟩ = some (.slice (some ⟨pb, 0, none⟩) T.parts.length pc) := cell_of hb2 1
  have c2 : w2.cell? ⟨b, 2, none⟩ = some (.string ⟨#[99, 111, 109, 109, 105, 116]⟩) := cell_of hb2 2
  have c3 : w2.cell? ⟨b, 3, none⟩ = some (.int .i64 T.at_) := cell_of hb2 3
  have c5 : w2.cell? ⟨b, 5, none⟩ = some (.int .i64 T.num) := cell_of hb2 5
  have c6 : w2.cell? ⟨b, 6, none⟩ = some (.int .i64 T.hol) := cell_of hb2 6
  have c7 : w2.cell? ⟨b, 7, none⟩ = some (.int .i64 T.nxt) := cell_of hb2 7
  have c8 : w2.cell? ⟨b, 8, none⟩ = some (.int .i64 T.version) := cell_of hb2 8
  have c9 : w2.cell? ⟨b, 9, none⟩ = some (.bool dn) := cell_of hb2 9
  have hl2 : b < w2.heap.size := lt_of_heap hb2
  have hp2l : pb < w2.heap.size := by have h1 := HF0.out.size; have h2 := HF2.out.size; omega
  clear hb2 hf
  go_wp2_with fail
  go_quiet (fail)
  generalize hWd : World.drewN _ _ = wd
  have hFd : Fr Non W0 wd := by rw [← hWd]; exact HF2.out.drewN _
  have HFd := Lib.hid hFd
  have hR := hFd.blk HR0.out (fun h => h)
  have hrl := lt_of_heap hR
  have r0 : wd.cell? ⟨w.heap.size, 0, none⟩ = some (.int .i64 0) := cell_of hR 0
  have q0 := free_of hR 0
  have r1 : wd.cell? ⟨w.heap.size, 1, none⟩ = some (.string ⟨#[]⟩) := cell_of hR 1
  have q1 := free_of hR 1
  have r2 : wd.cell? ⟨w.heap.size, 2, none⟩ = some (.string ⟨#[]⟩) := cell_of hR 2
  have q2 := free_of hR 2
  have r3 : wd.cell? ⟨w.heap.size, 3, none⟩ = some (.int .i64 0) := cell_of hR 3
  have q3 := free_of hR 3
  have hbd := HBb.out _ (HF0.out.trans hFd)
  have hld := lt_of_heap hbd
  have p0 := (HP0.out _ (HF0.out.trans hFd)).1
  have p1 := (HP0.out _ (HF0.out.trans hFd)).2
  clear c0 c1 c2 c3 c5 c6 c7 c8 c9
  have c0 : wd.cell? ⟨b, 0, none⟩ = some (.int .i64 T.id) := cell_of hbd 0
  have c1 : wd.cell? ⟨b, 1, none⟩ = some (.slice (some ⟨pb, 0, none⟩) T.parts.length pc) := cell_of hbd 1
  have c2 : wd.cell? ⟨b, 2, none⟩ = some (.string ⟨#[99, 111, 109, 109, 105, 116]⟩) := cell_of hbd 2
  have c3 : wd.cell? ⟨b, 3, none⟩ = some (.int .i64 T.at_) := cell_of hbd 3
  have c5 : wd.cell? ⟨b, 5, none⟩ = some (.int .i64 T.num) := cell_of hbd 5
  have c6 : wd.cell? ⟨b, 6, none⟩ = some (.int .i64 T.hol) := cell_of hbd 6
  have c7 : wd.cell? ⟨b, 7, none⟩ = some (.int .i64 T.nxt) := cell_of hbd 7
  have c8 : wd.cell? ⟨b, 8, none⟩ = some (.int .i64 T.version) := cell_of hbd 8
  have c9 : wd.cell? ⟨b, 9, none⟩ = some (.bool dn) := cell_of hbd 9
  have hne : w.heap.size ≠ b := by omega
  have hnp : w.heap.size ≠ pb := by omega
  have hpl : pb < wd.heap.size := by have h1 := HF0.out.size; have h2 := hFd.size; omega
  clear hWd hFd hR hbd
  go_wp2_with fail
  all_goals
    first | (exfalso; omega) | skip
    refine bodyPost_ret (v := .tuple #[cmdV 4 (recordB T.id) doneB 1, .bool true]) (by simp [results, Tryd.results7, go_sem, r0, r1, r2, r3, hrl, recordB, openB, doneB, offB, dataB]) rfl ⟨by rw [hE.out], ?_⟩
    exact Fr.then (S := Non) (T := Only w.heap.size) HF0.out (HFd.out.lift.trans (by with_reducible repeat (first | exact Fr.refl _ _ | refine Fr.setOnly ?_ _ _ | refine Fr.alloc ?_ _ | refine Fr.drew ?_ | refine Fr.drewN ?_ _))) (fun i hi e => absurd hi (by rw [e]; omega))

set_option maxRecDepth 100000 in
set_option maxHeartbeats 2000000 in
theorem cmd_p7 {B : Nat} (w : World) (b pb pc : Nat) (ov : Value) (T : Tx) (dn : Bool) (hT : IsRx B w b T pb pc ov dn) (hph : T.phase = 7) :
    Calls Tryd.prog 7 #[.pointer (some ⟨b, 0, none⟩)] w (NextPost w T) := by
  have hb := hT.blk
  have hc2 : (rxCells T pb pc ov dn)[2]? = some (.string ⟨#[97, 98, 111, 114, 116]⟩) := by show some (Value.string (wordOf T.phase)) = _; rw [hph]; rfl
  have hwf := hT.wf
  have hat := hwf.at_
  have hlen := hwf.len.2
  have hpart := hwf.part
  have hbase := hT.base.2.2
  have hid1 := hwf.id
  have hnum := hwf.num
  have hhol := hwf.hol
  have hnxt := hwf.nxt
  have Hpart := Lib.hid (hT.parts T.at_ hat)
  have hq1 : (0 : Int) ≤ ((T.at_ : Nat) : Int) := by omega
  have hq2 : ((T.at_ : Nat) : Int) < ((T.parts.length : Nat) : Int) := by omega
  have hlt := lt_of_heap hb
  have Hdn := Lib.hid hT.dn
  have Hwf := Lib.hid hwf
  have Hph := Lib.hid hph
  have HT := Lib.hid hT
  have hE : Hid (T.next = ((4, recordB T.id, offB, 1), true)) := by
    show T.next = _
    unfold Tx.next; rw [if_neg (by omega), if_neg (by omega), if_neg (by omega), if_neg (by omega), if_neg (by omega), if_neg (by omega), if_neg (by omega), if_pos (by omega)]
  have HP0 : Hid (∀ w', Fr Non w w' → w'.cell? ⟨pb, T.at_ * 2, none⟩ = some (.string T.part.1) ∧ w'.cell? ⟨pb, T.at_ * 2 + 1, none⟩ = some (.int .i64 T.part.2)) := fun w' hf => ⟨(hf.cell (p := ⟨pb, T.at_ * 2, none⟩) hbase (fun h => h)).trans Hpart.out.1, (hf.cell (p := ⟨pb, T.at_ * 2 + 1, none⟩) hbase (fun h => h)).trans Hpart.out.2⟩
  have HBb : Hid (∀ w', Fr Non w w' → w'.heap[b]? = some (.cells #[.int .i64 T.id, .slice (some ⟨pb, 0, none⟩) T.parts.length pc, .string ⟨#[97, 98, 111, 114, 116]⟩, .int .i64 T.at_, ov, .int .i64 T.num, .int .i64 T.hol, .int .i64 T.nxt, .int .i64 T.version, .bool dn, .int .i64 T.state] 45 (0, 0))) := fun w' hf => by
    have h := hf.blk hb (fun h => h)
    rw [show rxCells T pb pc ov dn = #[.int .i64 T.id, .slice (some ⟨pb, 0, none⟩) T.parts.length pc, .string ⟨#[97, 98, 111, 114, 116]⟩, .int .i64 T.at_, ov, .int .i64 T.num, .int .i64 T.hol, .int .i64 T.nxt, .int .i64 T.version, .bool dn, .int .i64 T.state] by unfold rxCells; rw [hph]; rfl] at h
    exact h
  generalize hy : T.part.1 = y at *
  generalize hz : T.part.2 = z at *
  have Hy := Lib.hid hy
  have Hz := Lib.hid hz
  obtain ⟨hp1, hp2, hp3⟩ := hpart
  have l0 := itoaB_size T.id (by omega) (by omega)
  have l1 := itoaB_size T.hol (by omega) (by omega)
  have s0 : ¬ 9223372036854775807 < 1 + (itoaB T.id).size := by omega
  have s1 : ¬ 9223372036854775807 < 1 + (itoaB T.hol).size := by omega
  have s2 : ¬ 9223372036854775807 < 1 + y.size := by omega
  clear hy hz hb hT hph hwf hc2 l0 l1
  have hbw := HBb.out _ (Fr.refl _ _)
  have c0 : w.cell? ⟨b, 0, none⟩ = some (.int .i64 T.id) := cell_of hbw 0
  have c1 : w.cell? ⟨b, 1, none⟩ = some (.slice (some ⟨pb, 0, none⟩) T.parts.length pc) := cell_of hbw 1
  have c2 : w.cell? ⟨b, 2, none⟩ = some (.string ⟨#[97, 98, 111, 114, 116]⟩) := cell_of hbw 2
  have c3 : w.cell? ⟨b, 3, none⟩ = some (.int .i64 T.at_) := cell_of hbw 3
  have c5 : w.cell? ⟨b, 5, none⟩ = some (.int .i64 T.num) := cell_of hbw 5
  have c6 : w.cell? ⟨b, 6, none⟩ = some (.int .i64 T.hol) := cell_of hbw 6
  have c7 : w.cell? ⟨b, 7, none⟩ = some (.int .i64 T.nxt) := cell_of hbw 7
  have c8 : w.cell? ⟨b, 8, none⟩ = some (.int .i64 T.version) := cell_of hbw 8
  have c9 : w.cell? ⟨b, 9, none⟩ = some (.bool dn) := cell_of hbw 9
  clear hbw
  go_enter Tryd.func7, Tryd.ntmps7
  go_wp2_with fail
  generalize hW0 : World.alloc w _ = W0
  have hF0 : Fr Non w W0 := by rw [← hW0]; exact (Fr.refl _ _).alloc _
  have hR0 : W0.heap[w.heap.size]? = some (.cells #[.int .i64 0, .string ⟨#[]⟩, .string ⟨#[]⟩, .int .i64 0] 31 (0, 0)) := by rw [← hW0]; exact heap_alloc_new _ _
  have HF0 := Lib.hid hF0
  have HR0 := Lib.hid hR0
  clear hW0 hF0 hR0
  refine (decimal_any T.id _ (by omega) (by omega)).mono ?_
  rintro e w1 ⟨rfl, hf⟩
  have HF1 : Hid (Fr Non W0 w1) := hf
  have hb1 := HBb.out _ (HF0.out.trans hf)
  clear c0 c1 c2 c3 c5 c6 c7 c8 c9
  have c0 : w1.cell? ⟨b, 0, none⟩ = some (.int .i64 T.id) := cell_of hb1 0
  have c1 : w1.cell? ⟨b, 1, none⟩ = some (.slice (some ⟨pb, 0, none⟩) T.parts.length pc) := cell_of hb1 1
  have c2 : w1.cell? ⟨b, 2, none⟩ = some (.string ⟨#[97, 98, 111, 114, 116]⟩) := cell_of hb1 2
  have c3 : w1.cell? ⟨b, 3, none⟩ = some (.int .i64 T.at_) := cell_of hb1 3
  have c5 : w1.cell? ⟨b, 5, none⟩ = some (.int .i64 T.num) := cell_of hb1 5
  have c6 : w1.cell? ⟨b, 6, none⟩ = some (.int .i64 T.hol) := cell_of hb1 6
  have c7 : w1.cell? ⟨b, 7, none⟩ = some (.int .i64 T.nxt) := cell_of hb1 7
  have c8 : w1.cell? ⟨b, 8, none⟩ = some (.int .i64 T.version) := cell_of hb1 8
  have c9 : w1.cell? ⟨b, 9, none⟩ = some (.bool dn) := cell_of hb1 9
  clear hb1 hf
  go_wp2_with fail
  refine (decimal_any T.hol _ (by omega) (by omega)).mono ?_
  rintro e w2 ⟨rfl, hf⟩
  have HF2 : Hid (Fr Non W0 w2) := HF1.out.trans hf
  have hb2 := HBb.out _ (HF0.out.trans HF2.out)
  have p0 := (HP0.out _ (HF0.out.trans HF2.out)).1
  have p1 := (HP0.out _ (HF0.out.trans HF2.out)).2
  clear c0 c1 c2 c3 c5 c6 c7 c8 c9
  have c0 : w2.cell? ⟨b, 0, none⟩ = some (.int .i64 T.id) := cell_of hb2 0
  have c1 : w2.cell? ⟨b, 1, none⟩ = some (.slice (some ⟨pb, 0, none⟩) T.parts.length pc) := cell_of hb2 1
  have c2 : w2.cell? ⟨b, 2, none⟩ = some (.string ⟨#[97, 98, 111, 114, 116]⟩) := cell_of hb2 2
  have c3 : w2.cell? ⟨b, 3, none⟩ = some (.int .i64 T.at_) := cell_of hb2 3
  have c5 : w2.cell? ⟨b, 5, none⟩ = some (.int .i64 T.num) := cell_of hb2 5
  have c6 : w2.cell? ⟨b, 6, none⟩ = some (.int .i64 T.hol) := cell_of hb2 6
  have c7 : w2.cell? ⟨b, 7, none⟩ = some (.int .i64 T.nxt) := cell_of hb2 7
  have c8 : w2.cell? ⟨b, 8, none⟩ = some (.int .i64 T.version) := cell_of hb2 8
  have c9 : w2.cell? ⟨b, 9, none⟩ = some (.bool dn) := cell_of hb2 9
  have hl2 : b < w2.heap.size := lt_of_heap hb2
  have hp2l : pb < w2.heap.size := by have h1 := HF0.out.size; have h2 := HF2.out.size; omega
  clear hb2 hf
  go_wp2_with fail
  go_quiet (fail)
  generalize hWd : World.drewN _ _ = wd
  have hFd : Fr Non W0 wd := by rw [← hWd]; exact HF2.out.drewN _
  have HFd := Lib.hid hFd
  have hR := hFd.blk HR0.out (fun h => h)
  have hrl := lt_of_heap hR
  have r0 : wd.cell? ⟨w.heap.size, 0, none⟩ = some (.int .i64 0) := cell_of hR 0
  have q0 := free_of hR 0
  have r1 : wd.cell? ⟨w.heap.size, 1, none⟩ = some (.string ⟨#[]⟩) := cell_of hR 1
  have q1 := free_of hR 1
  have r2 : wd.cell? ⟨w.heap.size, 2, none⟩ = some (.string ⟨#[]⟩) := cell_of hR 2
  have q2 := free_of hR 2
  have r3 : wd.cell? ⟨w.heap.size, 3, none⟩ = some (.int .i64 0) := cell_of hR 3
  have q3 := free_of hR 3
  have hbd := HBb.out _ (HF0.out.trans hFd)
  have hld := lt_of_heap hbd
  have p0 := (HP0.out _ (HF0.out.trans hFd)).1
  have p1 := (HP0.out _ (HF0.out.trans hFd)).2
  clear c0 c1 c2 c3 c5 c6 c7 c8 c9
  have c0 : wd.cell? ⟨b, 0, none⟩ = some (.int .i64 T.id) := cell_of hbd 0
  have c1 : wd.cell? ⟨b, 1, none⟩ = some (.slice (some ⟨pb, 0, none⟩) T.parts.length pc) := cell_of hbd 1
  have c2 : wd.cell? ⟨b, 2, none⟩ = some (.string ⟨#[97, 98, 111, 114, 116]⟩) := cell_of hbd 2
  have c3 : wd.cell? ⟨b, 3, none⟩ = some (.int .i64 T.at_) := cell_of hbd 3
  have c5 : wd.cell? ⟨b, 5, none⟩ = some (.int .i64 T.num) := cell_of hbd 5
  have c6 : wd.cell? ⟨b, 6, none⟩ = some (.int .i64 T.hol) := cell_of hbd 6
  have c7 : wd.cell? ⟨b, 7, none⟩ = some (.int .i64 T.nxt) := cell_of hbd 7
  have c8 : wd.cell? ⟨b, 8, none⟩ = some (.int .i64 T.version) := cell_of hbd 8
  have c9 : wd.cell? ⟨b, 9, none⟩ = some (.bool dn) := cell_of hbd 9
  have hne : w.heap.size ≠ b := by omega
  have hnp : w.heap.size ≠ pb := by omega
  have hpl : pb < wd.heap.size := by have h1 := HF0.out.size; have h2 := hFd.size; omega
  clear hWd hFd hR hbd
  go_wp2_with fail
  all_goals
    first | (exfalso; omega) | skip
    refine bodyPost_ret (v := .tuple #[cmdV 4 (recordB T.id) offB 1, .bool true]) (by simp [results, Tryd.results7, go_sem, r0, r1, r2, r3, hrl, recordB, openB, doneB, offB, dataB]) rfl ⟨by rw [hE.out], ?_⟩
    exact Fr.then (S := Non) (T := Only w.heap.size) HF0.out (HFd.out.lift.trans (by with_reducible repeat (first | exact Fr.refl _ _ | refine Fr.setOnly ?_ _ _ | refine Fr.alloc ?_ _ | refine Fr.drew ?_ | refine Fr.drewN ?_ _))) (fun i hi e => absurd hi (by rw [e]; omega))

set_option maxRecDepth 100000 in
set_option maxHeartbeats 2000000 in
theorem cmd_p8 {B : Nat} (w : World) (b pb pc : Nat) (ov : Value) (T : Tx) (dn : Bool) (hT : IsRx B w b T pb pc ov dn) (hph : T.phase = 8) :
    Calls Tryd.prog 7 #[.pointer (some ⟨b, 0, none⟩)] w (NextPost w T) := by
  have hb := hT.blk
  have hc2 : (rxCells T pb pc ov dn)[2]? = some (.string ⟨#[99, 108, 101, 97, 114]⟩) := by show some (Value.string (wordOf T.phase)) = _; rw [hph]; rfl
  have hwf := hT.wf
  have hat := hwf.at_
  have hlen := hwf.len.2
  have hpart := hwf.part
  have hbase := hT.base.2.2
  have hid1 := hwf.id
  have hnum := hwf.num
  have hhol := hwf.hol
  have hnxt := hwf.nxt
  have Hpart := Lib.hid (hT.parts T.at_ hat)
  have hq1 : (0 : Int) ≤ ((T.at_ : Nat) : Int) := by omega
  have hq2 : ((T.at_ : Nat) : Int) < ((T.parts.length : Nat) : Int) := by omega
  have hlt := lt_of_heap hb
  have Hdn := Lib.hid hT.dn
  have Hwf := Lib.hid hwf
  have Hph := Lib.hid hph
  have HT := Lib.hid hT
  have hE : Hid (T.next = ((2, dataB T.part.1, ⟨#[]⟩, 0), true)) := by
    show T.next = _
    unfold Tx.next; rw [if_neg (by omega), if_pos (by omega)]
  have HP0 : Hid (∀ w', Fr Non w w' → w'.cell? ⟨pb, T.at_ * 2, none⟩ = some (.string T.part.1) ∧ w'.cell? ⟨pb, T.at_ * 2 + 1, none⟩ = some (.int .i64 T.part.2)) := fun w' hf => ⟨(hf.cell (p := ⟨pb, T.at_ * 2, none⟩) hbase (fun h => h)).trans Hpart.out.1, (hf.cell (p := ⟨pb, T.at_ * 2 + 1, none⟩) hbase (fun h => h)).trans Hpart.out.2⟩
  have HBb : Hid (∀ w', Fr Non w w' → w'.heap[b]? = some (.cells #[.int .i64 T.id, .slice (some ⟨pb, 0, none⟩) T.parts.length pc, .string ⟨#[99, 108, 101, 97, 114]⟩, .int .i64 T.at_, ov, .int .i64 T.num, .int .i64 T.hol, .int .i64 T.nxt, .int .i64 T.version, .bool dn, .int .i64 T.state] 45 (0, 0))) := fun w' hf => by
    have h := hf.blk hb (fun h => h)
    rw [show rxCells T pb pc ov dn = #[.int .i64 T.id, .slice (some ⟨pb, 0, none⟩) T.parts.length pc, .string ⟨#[99, 108, 101, 97, 114]⟩, .int .i64 T.at_, ov, .int .i64 T.num, .int .i64 T.hol, .int .i64 T.nxt, .int .i64 T.version, .bool dn, .int .i64 T.state] by unfold rxCells; rw [hph]; rfl] at h
    exact h
  generalize hy : T.part.1 = y at *
  generalize hz : T.part.2 = z at *
  have Hy := Lib.hid hy
  have Hz := Lib.hid hz
  obtain ⟨hp1, hp2, hp3⟩ := hpart
  have l0 := itoaB_size T.id (by omega) (by omega)
  have l1 := itoaB_size T.hol (by omega) (by omega)
  have s0 : ¬ 9223372036854775807 < 1 + (itoaB T.id).size := by omega
  have s1 : ¬ 9223372036854775807 < 1 + (itoaB T.hol).size := by omega
  have s2 : ¬ 9223372036854775807 < 1 + y.size := by omega
  clear hy hz hb hT hph hwf hc2 l0 l1
  have hbw := HBb.out _ (Fr.refl _ _)
  have c0 : w.cell? ⟨b, 0, none⟩ = some (.int .i64 T.id) := cell_of hbw 0
  have c1 : w.cell? ⟨b, 1, none⟩ = some (.slice (some ⟨pb, 0, none⟩) T.parts.length pc) := cell_of hbw 1
  have c2 : w.cell? ⟨b, 2, none⟩ = some (.string ⟨#[99, 108, 101, 97, 114]⟩) := cell_of hbw 2
  have c3 : w.cell? ⟨b, 3, none⟩ = some (.int .i64 T.at_) := cell_of hbw 3
  have c5 : w.cell? ⟨b, 5, none⟩ = some (.int .i64 T.num) := cell_of hbw 5
  have c6 : w.cell? ⟨b, 6, none⟩ = some (.int .i64 T.hol) := cell_of hbw 6
  have c7 : w.cell? ⟨b, 7, none⟩ = some (.int .i64 T.nxt) := cell_of hbw 7
  have c8 : w.cell? ⟨b, 8, none⟩ = some (.int .i64 T.version) := cell_of hbw 8
  have c9 : w.cell? ⟨b, 9, none⟩ = some (.bool dn) := cell_of hbw 9
  clear hbw
  go_enter Tryd.func7, Tryd.ntmps7
  go_wp2_with fail
  generalize hW0 : World.alloc w _ = W0
  have hF0 : Fr Non w W0 := by rw [← hW0]; exact (Fr.refl _ _).alloc _
  have hR0 : W0.heap[w.heap.size]? = some (.cells #[.int .i64 0, .string ⟨#[]⟩, .string ⟨#[]⟩, .int .i64 0] 31 (0, 0)) := by rw [← hW0]; exact heap_alloc_new _ _
  have HF0 := Lib.hid hF0
  have HR0 := Lib.hid hR0
  clear hW0 hF0 hR0
  refine (decimal_any T.id _ (by omega) (by omega)).mono ?_
  rintro e w1 ⟨rfl, hf⟩
  have HF1 : Hid (Fr Non W0 w1) := hf
  have hb1 := HBb.out _ (HF0.out.trans hf)
  clear c0 c1 c2 c3 c5 c6 c7 c8 c9
  have c0 : w1.cell? ⟨b, 0, none⟩ = some (.int .i64 T.id) := cell_of hb1 0
  have c1 : w1.cell? ⟨b, 1, none⟩ = some (.slice (some ⟨pb, 0, none⟩) T.parts.length pc) := cell_of hb1 1
  have c2 : w1.cell? ⟨b, 2, none⟩ = some (.string ⟨#[99, 108, 101, 97, 114]⟩) := cell_of hb1 2
  have c3 : w1.cell? ⟨b, 3, none⟩ = some (.int .i64 T.at_) := cell_of hb1 3
  have c5 : w1.cell? ⟨b, 5, none⟩ = some (.int .i64 T.num) := cell_of hb1 5
  have c6 : w1.cell? ⟨b, 6, none⟩ = some (.int .i64 T.hol) := cell_of hb1 6
  have c7 : w1.cell? ⟨b, 7, none⟩ = some (.int .i64 T.nxt) := cell_of hb1 7
  have c8 : w1.cell? ⟨b, 8, none⟩ = some (.int .i64 T.version) := cell_of hb1 8
  have c9 : w1.cell? ⟨b, 9, none⟩ = some (.bool dn) := cell_of hb1 9
  clear hb1 hf
  go_wp2_with fail
  refine (decimal_any T.hol _ (by omega) (by omega)).mono ?_
  rintro e w2 ⟨rfl, hf⟩
  have HF2 : Hid (Fr Non W0 w2) := HF1.out.trans hf
  have hb2 := HBb.out _ (HF0.out.trans HF2.out)
  have p0 := (HP0.out _ (HF0.out.trans HF2.out)).1
  have p1 := (HP0.out _ (HF0.out.trans HF2.out)).2
  clear c0 c1 c2 c3 c5 c6 c7 c8 c9
  have c0 : w2.cell? ⟨b, 0, none⟩ = some (.int .i64 T.id) := cell_of hb2 0
  have c1 : w2.cell? ⟨b, 1, none⟩ = some (.slice (some ⟨pb, 0, none⟩) T.parts.length pc) := cell_of hb2 1
  have c2 : w2.cell? ⟨b, 2, none⟩ = some (.string ⟨#[99, 108, 101, 97, 114]⟩) := cell_of hb2 2
  have c3 : w2.cell? ⟨b, 3, none⟩ = some (.int .i64 T.at_) := cell_of hb2 3
  have c5 : w2.cell? ⟨b, 5, none⟩ = some (.int .i64 T.num) := cell_of hb2 5
  have c6 : w2.cell? ⟨b, 6, none⟩ = some (.int .i64 T.hol) := cell_of hb2 6
  have c7 : w2.cell? ⟨b, 7, none⟩ = some (.int .i64 T.nxt) := cell_of hb2 7
  have c8 : w2.cell? ⟨b, 8, none⟩ = some (.int .i64 T.version) := cell_of hb2 8
  have c9 : w2.cell? ⟨b, 9, none⟩ = some (.bool dn) := cell_of hb2 9
  have hl2 : b < w2.heap.size := lt_of_heap hb2
  have hp2l : pb < w2.heap.size := by have h1 := HF0.out.size; have h2 := HF2.out.size; omega
  clear hb2 hf
  go_wp2_with fail
  go_quiet (fail)
  generalize hWd : World.drewN _ _ = wd
  have hFd : Fr Non W0 wd := by rw [← hWd]; exact HF2.out.drewN _
  have HFd := Lib.hid hFd
  have hR := hFd.blk HR0.out (fun h => h)
  have hrl := lt_of_heap hR
  have r0 : wd.cell? ⟨w.heap.size, 0, none⟩ = some (.int .i64 0) := cell_of hR 0
  have q0 := free_of hR 0
  have r1 : wd.cell? ⟨w.heap.size, 1, none⟩ = some (.string ⟨#[]⟩) := cell_of hR 1
  have q1 := free_of hR 1
  have r2 : wd.cell? ⟨w.heap.size, 2, none⟩ = some (.string ⟨#[]⟩) := cell_of hR 2
  have q2 := free_of hR 2
  have r3 : wd.cell? ⟨w.heap.size, 3, none⟩ = some (.int .i64 0) := cell_of hR 3
  have q3 := free_of hR 3
  have hbd := HBb.out _ (HF0.out.trans hFd)
  have hld := lt_of_heap hbd
  have p0 := (HP0.out _ (HF0.out.trans hFd)).1
  have p1 := (HP0.out _ (HF0.out.trans hFd)).2
  clear c0 c1 c2 c3 c5 c6 c7 c8 c9
  have c0 : wd.cell? ⟨b, 0, none⟩ = some (.int .i64 T.id) := cell_of hbd 0
  have c1 : wd.cell? ⟨b, 1, none⟩ = some (.slice (some ⟨pb, 0, none⟩) T.parts.length pc) := cell_of hbd 1
  have c2 : wd.cell? ⟨b, 2, none⟩ = some (.string ⟨#[99, 108, 101, 97, 114]⟩) := cell_of hbd 2
  have c3 : wd.cell? ⟨b, 3, none⟩ = some (.int .i64 T.at_) := cell_of hbd 3
  have c5 : wd.cell? ⟨b, 5, none⟩ = some (.int .i64 T.num) := cell_of hbd 5
  have c6 : wd.cell? ⟨b, 6, none⟩ = some (.int .i64 T.hol) := cell_of hbd 6
  have c7 : wd.cell? ⟨b, 7, none⟩ = some (.int .i64 T.nxt) := cell_of hbd 7
  have c8 : wd.cell? ⟨b, 8, none⟩ = some (.int .i64 T.version) := cell_of hbd 8
  have c9 : wd.cell? ⟨b, 9, none⟩ = some (.bool dn) := cell_of hbd 9
  have hne : w.heap.size ≠ b := by omega
  have hnp : w.heap.size ≠ pb := by omega
  have hpl : pb < wd.heap.size := by have h1 := HF0.out.size; have h2 := hFd.size; omega
  clear hWd hFd hR hbd
  go_wp2_with fail
  all_goals
    first | (exfalso; omega) | skip
    refine bodyPost_ret (v := .tuple #[cmdV 2 (dataB y) ⟨#[]⟩ 0, .bool true]) (by simp [results, Tryd.results7, go_sem, r0, r1, r2, r3, hrl, recordB, openB, doneB, offB, dataB]) rfl ⟨by rw [hE.out], ?_⟩
    exact Fr.then (S := Non) (T := Only w.heap.size) HF0.out (HFd.out.lift.trans (by with_reducible repeat (first | exact Fr.refl _ _ | refine Fr.setOnly ?_ _ _ | refine Fr.alloc ?_ _ | refine Fr.drew ?_ | refine Fr.drewN ?_ _))) (fun i hi e => absurd hi (by rw [e]; omega))

set_option maxRecDepth 100000 in
set_option maxHeartbeats 2000000 in
theorem cmd_p10 {B : Nat} (w : World) (b pb pc : Nat) (ov : Value) (T : Tx) (dn : Bool) (hT : IsRx B w b T pb pc ov dn) (hph : T.phase = 10) :
    Calls Tryd.prog 7 #[.pointer (some ⟨b, 0, none⟩)] w (NextPost w T) := by
  have hb := hT.blk
  have hc2 : (rxCells T pb pc ov dn)[2]? = some (.string ⟨#[]⟩) := by show some (Value.string (wordOf T.phase)) = _; rw [hph]; rfl
  have hwf := hT.wf
  have hat := hwf.at_
  have hlen := hwf.len.2
  have hpart := hwf.part
  have hbase := hT.base.2.2
  have hid1 := hwf.id
  have hnum := hwf.num
  have hhol := hwf.hol
  have hnxt := hwf.nxt
  have Hpart := Lib.hid (hT.parts T.at_ hat)
  have hq1 : (0 : Int) ≤ ((T.at_ : Nat) : Int) := by omega
  have hq2 : ((T.at_ : Nat) : Int) < ((T.parts.length : Nat) : Int) := by omega
  have hlt := lt_of_heap hb
  have Hdn := Lib.hid hT.dn
  have Hwf := Lib.hid hwf
  have Hph := Lib.hid hph
  have HT := Lib.hid hT
  have hE : Hid (T.next = ((0, ⟨#[]⟩, ⟨#[]⟩, 0), false)) := by
    show T.next = _
    unfold Tx.next; rw [if_neg (by omega), if_neg (by omega), if_neg (by omega), if_neg (by omega), if_neg (by omega), if_neg (by omega), if_neg (by omega), if_neg (by omega)]
  have HP0 : Hid (∀ w', Fr Non w w' → w'.cell? ⟨pb, T.at_ * 2, none⟩ = some (.string T.part.1) ∧ w'.cell? ⟨pb, T.at_ * 2 + 1, none⟩ = some (.int .i64 T.part.2)) := fun w' hf => ⟨(hf.cell (p := ⟨pb, T.at_ * 2, none⟩) hbase (fun h => h)).trans Hpart.out.1, (hf.cell (p := ⟨pb, T.at_ * 2 + 1, none⟩) hbase (fun h => h)).trans Hpart.out.2⟩
  have HBb : Hid (∀ w', Fr Non w w' → w'.heap[b]? = some (.cells #[.int .i64 T.id, .slice (some ⟨pb, 0, none⟩) T.parts.length pc, .string ⟨#[]⟩, .int .i64 T.at_, ov, .int .i64 T.num, .int .i64 T.hol, .int .i64 T.nxt, .int .i64 T.version, .bool dn, .int .i64 T.state] 45 (0, 0))) := fun w' hf => by
    have h := hf.blk hb (fun h => h)
    rw [show rxCells T pb pc ov dn = #[.int .i64 T.id, .slice (some ⟨pb, 0, none⟩) T.parts.length pc, .string ⟨#[]⟩, .int .i64 T.at_, ov, .int .i64 T.num, .int .i64 T.hol, .int .i64 T.nxt, .int .i64 T.version, .bool dn, .int .i64 T.state] by unfold rxCells; rw [hph]; rfl] at h
    exact h
  generalize hy : T.part.1 = y at *
  generalize hz : T.part.2 = z at *
  have Hy := Lib.hid hy
  have Hz := Lib.hid hz
  obtain ⟨hp1, hp2, hp3⟩ := hpart
  have l0 := itoaB_size T.id (by omega) (by omega)
  have l1 := itoaB_size T.hol (by omega) (by omega)
  have s0 : ¬ 9223372036854775807 < 1 + (itoaB T.id).size := by omega
  have s1 : ¬ 9223372036854775807 < 1 + (itoaB T.hol).size := by omega
  have s2 : ¬ 9223372036854775807 < 1 + y.size := by omega
  clear hy hz hb hT hph hwf hc2 l0 l1
  have hbw := HBb.out _ (Fr.refl _ _)
  have c0 : w.cell? ⟨b, 0, none⟩ = some (.int .i64 T.id) := cell_of hbw 0
  have c1 : w.cell? ⟨b, 1, none⟩ = some (.slice (some ⟨pb, 0, none⟩) T.parts.length pc) := cell_of hbw 1
  have c2 : w.cell? ⟨b, 2, none⟩ = some (.string ⟨#[]⟩) := cell_of hbw 2
  have c3 : w.cell? ⟨b, 3, none⟩ = some (.int .i64 T.at_) := cell_of hbw 3
  have c5 : w.cell? ⟨b, 5, none⟩ = some (.int .i64 T.num) := cell_of hbw 5
  have c6 : w.cell? ⟨b, 6, none⟩ = some (.int .i64 T.hol) := cell_of hbw 6
  have c7 : w.cell? ⟨b, 7, none⟩ = some (.int .i64 T.nxt) := cell_of hbw 7
  have c8 : w.cell? ⟨b, 8, none⟩ = some (.int .i64 T.version) := cell_of hbw 8
  have c9 : w.cell? ⟨b, 9, none⟩ = some (.bool dn) := cell_of hbw 9
  clear hbw
  go_enter Tryd.func7, Tryd.ntmps7
  go_wp2_with fail
  generalize hW0 : World.alloc w _ = W0
  have hF0 : Fr Non w W0 := by rw [← hW0]; exact (Fr.refl _ _).alloc _
  have hR0 : W0.heap[w.heap.size]? = some (.cells #[.int .i64 0, .string ⟨#[]⟩, .string ⟨#[]⟩, .int .i64 0] 31 (0, 0)) := by rw [← hW0]; exact heap_alloc_new _ _
  have HF0 := Lib.hid hF0
  have HR0 := Lib.hid hR0
  clear hW0 hF0 hR0
  refine (decimal_any T.id _ (by omega) (by omega)).mono ?_
  rintro e w1 ⟨rfl, hf⟩
  have HF1 : Hid (Fr Non W0 w1) := hf
  have hb1 := HBb.out _ (HF0.out.trans hf)
  clear c0 c1 c2 c3 c5 c6 c7 c8 c9
  have c0 : w1.cell? ⟨b, 0, none⟩ = some (.int .i64 T.id) := cell_of hb1 0
  have c1 : w1.cell? ⟨b, 1, none⟩ = some (.slice (some ⟨pb, 0, none⟩) T.parts.length pc) := cell_of hb1 1
  have c2 : w1.cell? ⟨b, 2, none⟩ = some (.string ⟨#[]⟩) := cell_of hb1 2
  have c3 : w1.cell? ⟨b, 3, none⟩ = some (.int .i64 T.at_) := cell_of hb1 3
  have c5 : w1.cell? ⟨b, 5, none⟩ = some (.int .i64 T.num) := cell_of hb1 5
  have c6 : w1.cell? ⟨b, 6, none⟩ = some (.int .i64 T.hol) := cell_of hb1 6
  have c7 : w1.cell? ⟨b, 7, none⟩ = some (.int .i64 T.nxt) := cell_of hb1 7
  have c8 : w1.cell? ⟨b, 8, none⟩ = some (.int .i64 T.version) := cell_of hb1 8
  have c9 : w1.cell? ⟨b, 9, none⟩ = some (.bool dn) := cell_of hb1 9
  clear hb1 hf
  go_wp2_with fail
  refine (decimal_any T.hol _ (by omega) (by omega)).mono ?_
  rintro e w2 ⟨rfl, hf⟩
  have HF2 : Hid (Fr Non W0 w2) := HF1.out.trans hf
  have hb2 := HBb.out _ (HF0.out.trans HF2.out)
  have p0 := (HP0.out _ (HF0.out.trans HF2.out)).1
  have p1 := (HP0.out _ (HF0.out.trans HF2.out)).2
  clear c0 c1 c2 c3 c5 c6 c7 c8 c9
  have c0 : w2.cell? ⟨b, 0, none⟩ = some (.int .i64 T.id) := cell_of hb2 0
  have c1 : w2.cell? ⟨b, 1, none⟩ = some (.slice (some ⟨pb, 0, none⟩) T.parts.length pc) := cell_of hb2 1
  have c2 : w2.cell? ⟨b, 2, none⟩ = some (.string ⟨#[]⟩) := cell_of hb2 2
  have c3 : w2.cell? ⟨b, 3, none⟩ = some (.int .i64 T.at_) := cell_of hb2 3
  have c5 : w2.cell? ⟨b, 5, none⟩ = some (.int .i64 T.num) := cell_of hb2 5
  have c6 : w2.cell? ⟨b, 6, none⟩ = some (.int .i64 T.hol) := cell_of hb2 6
  have c7 : w2.cell? ⟨b, 7, none⟩ = some (.int .i64 T.nxt) := cell_of hb2 7
  have c8 : w2.cell? ⟨b, 8, none⟩ = some (.int .i64 T.version) := cell_of hb2 8
  have c9 : w2.cell? ⟨b, 9, none⟩ = some (.bool dn) := cell_of hb2 9
  have hl2 : b < w2.heap.size := lt_of_heap hb2
  have hp2l : pb < w2.heap.size := by have h1 := HF0.out.size; have h2 := HF2.out.size; omega
  clear hb2 hf
  go_wp2_with fail
  go_quiet (fail)
  generalize hWd : World.drewN _ _ = wd
  have hFd : Fr Non W0 wd := by rw [← hWd]; exact HF2.out.drewN _
  have HFd := Lib.hid hFd
  have hR := hFd.blk HR0.out (fun h => h)
  have hrl := lt_of_heap hR
  have r0 : wd.cell? ⟨w.heap.size, 0, none⟩ = some (.int .i64 0) := cell_of hR 0
  have q0 := free_of hR 0
  have r1 : wd.cell? ⟨w.heap.size, 1, none⟩ = some (.string ⟨#[]⟩) := cell_of hR 1
  have q1 := free_of hR 1
  have r2 : wd.cell? ⟨w.heap.size, 2, none⟩ = some (.string ⟨#[]⟩) := cell_of hR 2
  have q2 := free_of hR 2
  have r3 : wd.cell? ⟨w.heap.size, 3, none⟩ = some (.int .i64 0) := cell_of hR 3
  have q3 := free_of hR 3
  have hbd := HBb.out _ (HF0.out.trans hFd)
  have hld := lt_of_heap hbd
  have p0 := (HP0.out _ (HF0.out.trans hFd)).1
  have p1 := (HP0.out _ (HF0.out.trans hFd)).2
  clear c0 c1 c2 c3 c5 c6 c7 c8 c9
  have c0 : wd.cell? ⟨b, 0, none⟩ = some (.int .i64 T.id) := cell_of hbd 0
  have c1 : wd.cell? ⟨b, 1, none⟩ = some (.slice (some ⟨pb, 0, none⟩) T.parts.length pc) := cell_of hbd 1
  have c2 : wd.cell? ⟨b, 2, none⟩ = some (.string ⟨#[]⟩) := cell_of hbd 2
  have c3 : wd.cell? ⟨b, 3, none⟩ = some (.int .i64 T.at_) := cell_of hbd 3
  have c5 : wd.cell? ⟨b, 5, none⟩ = some (.int .i64 T.num) := cell_of hbd 5
  have c6 : wd.cell? ⟨b, 6, none⟩ = some (.int .i64 T.hol) := cell_of hbd 6
  have c7 : wd.cell? ⟨b, 7, none⟩ = some (.int .i64 T.nxt) := cell_of hbd 7
  have c8 : wd.cell? ⟨b, 8, none⟩ = some (.int .i64 T.version) := cell_of hbd 8
  have c9 : wd.cell? ⟨b, 9, none⟩ = some (.bool dn) := cell_of hbd 9
  have hne : w.heap.size ≠ b := by omega
  have hnp : w.heap.size ≠ pb := by omega
  have hpl : pb < wd.heap.size := by have h1 := HF0.out.size; have h2 := hFd.size; omega
  clear hWd hFd hR hbd
  go_wp2_with fail
  all_goals
    first | (exfalso; omega) | skip
    refine bodyPost_ret (v := .tuple #[cmdV 0 ⟨#[]⟩ ⟨#[]⟩ 0, .bool false]) (by simp [results, Tryd.results7, go_sem, r0, r1, r2, r3, hrl, recordB, openB, doneB, offB, dataB]) rfl ⟨by rw [hE.out], ?_⟩
    exact Fr.then (S := Non) (T := Only w.heap.size) HF0.out (HFd.out.lift.trans (by with_reducible repeat (first | exact Fr.refl _ _ | refine Fr.setOnly ?_ _ _ | refine Fr.alloc ?_ _ | refine Fr.drew ?_ | refine Fr.drewN ?_ _))) (fun i hi e => absurd hi (by rw [e]; omega))

end Go.Proofs.YtbfahkpckhbajaaDoor
