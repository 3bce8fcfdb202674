/- quorateref's (*Txn).Command: the phases that write a key's text, and all phases. Condition: the object is whole. -/
import Derived.Test.YtbfahkpckhbajaaDoorQCmd
import Derived.Deep.RegionHeld3
namespace Go.Proofs.YtbfahkpckhbajaaDoor
open Go.RowKit
set_option linter.unusedSimpArgs false
set_option linter.unusedVariables false

set_option maxRecDepth 100000 in
set_option maxHeartbeats 2000000 in
theorem cmd_p5 {B : Nat} (w : World) (b pb pc : Nat) (ov : Value) (T : Tx) (dn : Bool) (hT : IsRx B w b T pb pc ov dn) (hph : T.phase = 5) :
    Calls Tryd.prog 7 #[.pointer (some ⟨b, 0, none⟩)] w (NextPost w T) := by
  have hb := hT.blk
  have hc2 : (rxCells T pb pc ov dn)[2]? = some (.string ⟨#[102, 114, 101, 101]⟩) := by show some (Value.string (wordOf T.phase)) = _; rw [hph]; rfl
  have hwf := hT.wf
  have hat := hwf.at_
  have hlen := hwf.len.2
  have hpart := hwf.part
  have hbase := hT.base.2.2
  have hid1 := hwf.id
  have hnum := hwf.num
  have hhol := hwf.hol
  have hnxt := hwf.nxt
  have Hpart := Lib.hid (hT.parts T.at_ hat)
  have hq1 : (0 : Int) ≤ ((T.at_ : Nat) : Int) := by omega
  have hq2 : ((T.at_ : Nat) : Int) < ((T.parts.length : Nat) : Int) := by omega
  have hlt := lt_of_heap hb
  have Hdn := Lib.hid hT.dn
  have Hwf := Lib.hid hwf
  have Hph := Lib.hid hph
  have HT := Lib.hid hT
  have hE : Hid (T.next = ((4, dataB T.part.1, textB (if T.will then T.nxt else T.num) 0 0, T.version), true)) := by
    show T.next = _
    unfold Tx.next; rw [if_neg (by omega), if_neg (by omega), if_neg (by omega), if_neg (by omega), if_neg (by omega), if_pos (by omega)]
  have HP0 : Hid (∀ w', Fr Non w w' → w'.cell? ⟨pb, T.at_ * 2, none⟩ = some (.string T.part.1) ∧ w'.cell? ⟨pb, T.at_ * 2 + 1, none⟩ = some (.int .i64 T.part.2)) := fun w' hf => ⟨(hf.cell (p := ⟨pb, T.at_ * 2, none⟩) hbase (fun h => h)).trans Hpart.out.1, (hf.cell (p := ⟨pb, T.at_ * 2 + 1, none⟩) hbase (fun h => h)).trans Hpart.out.2⟩
  have HBb : Hid (∀ w', Fr Non w w' → w'.heap[b]? = some (.cells #[.int .i64 T.id, .slice (some ⟨pb, 0, none⟩) T.parts.length pc, .string ⟨#[102, 114, 101, 101]⟩, .int .i64 T.at_, ov, .int .i64 T.num, .int .i64 T.hol, .int .i64 T.nxt, .int .i64 T.version, .bool dn, .int .i64 T.state] 45 (0, 0))) := fun w' hf => by
    have h := hf.blk hb (fun h => h)
    rw [show rxCells T pb pc ov dn = #[.int .i64 T.id, .slice (some ⟨pb, 0, none⟩) T.parts.length pc, .string ⟨#[102, 114, 101, 101]⟩, .int .i64 T.at_, ov, .int .i64 T.num, .int .i64 T.hol, .int .i64 T.nxt, .int .i64 T.version, .bool dn, .int .i64 T.state] by unfold rxCells; rw [hph]; rfl] at h
    exact h
  generalize hy : T.part.1 = y at *
  generalize hz : T.part.2 = z at *
  have Hy := Lib.hid hy
  have Hz := Lib.hid hz
  obtain ⟨hp1, hp2, hp3⟩ := hpart
  have l0 := itoaB_size T.id (by omega) (by omega)
  have l1 := itoaB_size T.hol (by omega) (by omega)
  have s0 : ¬ 9223372036854775807 < 1 + (itoaB T.id).size := by omega
  have s1 : ¬ 9223372036854775807 < 1 + (itoaB T.hol).size := by omega
  have s2 : ¬ 9223372036854775807 < 1 + y.size := by omega
  clear hy hz hb hT hph hwf hc2 l0 l1
  have hbw := HBb.out _ (Fr.refl _ _)
  have c0 : w.cell? ⟨b, 0, none⟩ = some (.int .i64 T.id) := cell_of hbw 0
  have c1 : w.cell? ⟨b, 1, none⟩ = some (.slice (some ⟨pb, 0, none⟩) T.parts.length pc) := cell_of hbw 1
  have c2 : w.cell? ⟨b, 2, none⟩ = some (.string ⟨#[102, 114, 101, 101]⟩) := cell_of hbw 2
  have c3 : w.cell? ⟨b, 3, none⟩ = some (.int .i64 T.at_) := cell_of hbw 3
  have c5 : w.cell? ⟨b, 5, none⟩ = some (.int .i64 T.num) := cell_of hbw 5
  have c6 : w.cell? ⟨b, 6, none⟩ = some (.int .i64 T.hol) := cell_of hbw 6
  have c7 : w.cell? ⟨b, 7, none⟩ = some (.int .i64 T.nxt) := cell_of hbw 7
  have c8 : w.cell? ⟨b, 8, none⟩ = some (.int .i64 T.version) := cell_of hbw 8
  have c9 : w.cell? ⟨b, 9, none⟩ = some (.bool dn) := cell_of hbw 9
  clear hbw
  go_enter Tryd.func7, Tryd.ntmps7
  go_wp2_with fail
  generalize hW0 : World.alloc w _ = W0
  have hF0 : Fr Non w W0 := by rw [← hW0]; exact (Fr.refl _ _).alloc _
  have hR0 : W0.heap[w.heap.size]? = some (.cells #[.int .i64 0, .string ⟨#[]⟩, .string ⟨#[]⟩, .int .i64 0] 31 (0, 0)) := by rw [← hW0]; exact heap_alloc_new _ _
  have HF0 := Lib.hid hF0
  have HR0 := Lib.hid hR0
  clear hW0 hF0 hR0
  refine (decimal_any T.id _ (by omega) (by omega)).mono ?_
  rintro e w1 ⟨rfl, hf⟩
  have HF1 : Hid (Fr Non W0 w1) := hf
  have hb1 := HBb.out _ (HF0.out.trans hf)
  clear c0 c1 c2 c3 c5 c6 c7 c8 c9
  have c0 : w1.cell? ⟨b, 0, none⟩ = some (.int .i64 T.id) := cell_of hb1 0
  have c1 : w1.cell? ⟨b, 1, none⟩ = some (.slice (some ⟨pb, 0, none⟩) T.parts.length pc) := cell_of hb1 1
  have c2 : w1.cell? ⟨b, 2, none⟩ = some (.string ⟨#[102, 114, 101, 101]⟩) := cell_of hb1 2
  have c3 : w1.cell? ⟨b, 3, none⟩ = some (.int .i64 T.at_) := cell_of hb1 3
  have c5 : w1.cell? ⟨b, 5, none⟩ = some (.int .i64 T.num) := cell_of hb1 5
  have c6 : w1.cell? ⟨b, 6, none⟩ = some (.int .i64 T.hol) := cell_of hb1 6
  have c7 : w1.cell? ⟨b, 7, none⟩ = some (.int .i64 T.nxt) := cell_of hb1 7
  have c8 : w1.cell? ⟨b, 8, none⟩ = some (.int .i64 T.version) := cell_of hb1 8
  have c9 : w1.cell? ⟨b, 9, none⟩ = some (.bool dn) := cell_of hb1 9
  clear hb1 hf
  go_wp2_with fail
  refine (decimal_any T.hol _ (by omega) (by omega)).mono ?_
  rintro e w2 ⟨rfl, hf⟩
  have HF2 : Hid (Fr Non W0 w2) := HF1.out.trans hf
  have hb2 := HBb.out _ (HF0.out.trans HF2.out)
  have p0 := (HP0.out _ (HF0.out.trans HF2.out)).1
  have p1 := (HP0.out _ (HF0.out.trans HF2.out)).2
  clear c0 c1 c2 c3 c5 c6 c7 c8 c9
  have c0 : w2.cell? ⟨b, 0, none⟩ = some (.int .i64 T.id) := cell_of hb2 0
  have c1 : w2.cell? ⟨b, 1, none⟩ = some (.slice (some ⟨pb, 0, none⟩) T.parts.length pc) := cell_of hb2 1
  have c2 : w2.cell? ⟨b, 2, none⟩ = some (.string ⟨#[102, 114, 101, 101]⟩) := cell_of hb2 2
  have c3 : w2.cell? ⟨b, 3, none⟩ = some (.int .i64 T.at_) := cell_of hb2 3
  have c5 : w2.cell? ⟨b, 5, none⟩ = some (.int .i64 T.num) := cell_of hb2 5
  have c6 : w2.cell? ⟨b, 6, none⟩ = some (.int .i64 T.hol) := cell_of hb2 6
  have c7 : w2.cell? ⟨b, 7, none⟩ = some (.int .i64 T.nxt) := cell_of hb2 7
  have c8 : w2.cell? ⟨b, 8, none⟩ = some (.int .i64 T.version) := cell_of hb2 8
  have c9 : w2.cell? ⟨b, 9, none⟩ = some (.bool dn) := cell_of hb2 9
  have hl2 : b < w2.heap.size := lt_of_heap hb2
  have hp2l : pb < w2.heap.size := by have h1 := HF0.out.size; have h2 := HF2.out.size; omega
  clear hb2 hf
  go_wp2_with fail
  go_quiet (fail)
  have hR0 := HR0.out
  generalize hWd : World.drewN _ _ = wd
  have hFd : Fr Non W0 wd := by rw [← hWd]; exact HF2.out.drewN _
  have HFd := Lib.hid hFd
  have hR := hFd.blk HR0.out (fun h => h)
  have hrl := lt_of_heap hR
  have r0 : wd.cell? ⟨w.heap.size, 0, none⟩ = some (.int .i64 0) := cell_of hR 0
  have q0 := free_of hR 0
  have r1 : wd.cell? ⟨w.heap.size, 1, none⟩ = some (.string ⟨#[]⟩) := cell_of hR 1
  have q1 := free_of hR 1
  have r2 : wd.cell? ⟨w.heap.size, 2, none⟩ = some (.string ⟨#[]⟩) := cell_of hR 2
  have q2 := free_of hR 2
  have r3 : wd.cell? ⟨w.heap.size, 3, none⟩ = some (.int .i64 0) := cell_of hR 3
  have q3 := free_of hR 3
  have hbd := HBb.out _ (HF0.out.trans hFd)
  have hld := lt_of_heap hbd
  have p0 := (HP0.out _ (HF0.out.trans hFd)).1
  have p1 := (HP0.out _ (HF0.out.trans hFd)).2
  clear c0 c1 c2 c3 c5 c6 c7 c8 c9
  have c0 : wd.cell? ⟨b, 0, none⟩ = some (.int .i64 T.id) := cell_of hbd 0
  have c1 : wd.cell? ⟨b, 1, none⟩ = some (.slice (some ⟨pb, 0, none⟩) T.parts.length pc) := cell_of hbd 1
  have c2 : wd.cell? ⟨b, 2, none⟩ = some (.string ⟨#[102, 114, 101, 101]⟩) := cell_of hbd 2
  have c3 : wd.cell? ⟨b, 3, none⟩ = some (.int .i64 T.at_) := cell_of hbd 3
  have c5 : wd.cell? ⟨b, 5, none⟩ = some (.int .i64 T.num) := cell_of hbd 5
  have c6 : wd.cell? ⟨b, 6, none⟩ = some (.int .i64 T.hol) := cell_of hbd 6
  have c7 : wd.cell? ⟨b, 7, none⟩ = some (.int .i64 T.nxt) := cell_of hbd 7
  have c8 : wd.cell? ⟨b, 8, none⟩ = some (.int .i64 T.version) := cell_of hbd 8
  have c9 : wd.cell? ⟨b, 9, none⟩ = some (.bool dn) := cell_of hbd 9
  have hne : w.heap.size ≠ b := by omega
  have hnp : w.heap.size ≠ pb := by omega
  have hpl : pb < wd.heap.size := by have h1 := HF0.out.size; have h2 := hFd.size; omega
  have HRd := Lib.hid hR
  clear hWd hFd hR hbd hR0
  go_wp2_with fail
  · have hw : T.will = true := by rw [← Hdn.out (by have := Hph.out; omega)]; first | assumption | simp_all
    have Hv : Hid ((if T.will = true then T.nxt else T.num) = T.nxt) := by show _ = _; rw [hw]; rfl
    generalize hWe : World.alloc _ _ = W
    have hFW : Fr Non wd W := by rw [← hWe]; exact ((Fr.refl _ _).alloc _).alloc _
    have h31 : W.heap[wd.heap.size]? = some (.cells #[.int .i64 4, .string (⟨#[116]⟩ ++ itoaB T.id), .string ⟨#[]⟩, .int .i64 0] 31 (0, 0)) := by rw [← hWe, heap_alloc_old _ _ _ (by rw [size_alloc]; omega)]; exact heap_alloc_new _ _
    have h43 : W.heap[wd.heap.size + 1]? = some (.cells #[.int .i64 T.nxt, .int .i64 0, .int .i64 0] 43 (0, 0)) := by rw [← hWe]; exact heap_alloc_at _ _ _ (by rw [size_alloc])
    generalize hN : wd.heap.size = N at *
    have HN := Lib.hid hN
    have v0 : W.cell? ⟨N + 1, 0, none⟩ = some (.int .i64 T.nxt) := cell_of h43 0
    have v1 : W.cell? ⟨N + 1, 1, none⟩ = some (.int .i64 0) := cell_of h43 1
    have v2 : W.cell? ⟨N + 1, 2, none⟩ = some (.int .i64 0) := cell_of h43 2
    have hvl := lt_of_heap h43
    have hMN : N + 1 ≠ N := by omega
    have hnl := lt_of_heap h31
    have m8 : W.cell? ⟨b, 8, none⟩ = some (.int .i64 T.version) := (hFW.cell (p := ⟨b, 8, none⟩) (by show b < wd.heap.size; omega) (fun f => f)).trans c8
    have hbW : b < W.heap.size := by omega
    have hbN : b ≠ N := by omega
    have hRN : w.heap.size ≠ N := by omega
    have hRl : w.heap.size < W.heap.size := by omega
    have HFW := Lib.hid hFW
    have H31 := Lib.hid h31
    clear hWe hFW h31 h43 hN p0 p1 r0 r1 r2 r3 q0 q1 q2 q3
    clear c0 c1 c2 c3 c5 c6 c7 c8 c9
    have keep : ∀ w', Fr (Only N) W w' → (Fr (Only N) W w' ∧ w'.cell? ⟨b, 8, none⟩ = some (.int .i64 T.version) ∧ w'.cell? ⟨N + 1, 0, none⟩ = some (.int .i64 T.nxt) ∧ w'.cell? ⟨N + 1, 1, none⟩ = some (.int .i64 0) ∧ w'.cell? ⟨N + 1, 2, none⟩ = some (.int .i64 0)) :=
      fun w' hf => ⟨hf, (hf.cell hbW (fun h => hbN h)).trans m8, (hf.cell hvl hMN).trans v0, (hf.cell hvl hMN).trans v1, (hf.cell hvl hMN).trans v2⟩
    go_region_held3 (fun w' => Fr (Only N) W w' ∧ w'.cell? ⟨b, 8, none⟩ = some (.int .i64 T.version) ∧ w'.cell? ⟨N + 1, 0, none⟩ = some (.int .i64 T.nxt) ∧ w'.cell? ⟨N + 1, 1, none⟩ = some (.int .i64 0) ∧ w'.cell? ⟨N + 1, 2, none⟩ = some (.int .i64 0))
      ((refine keep _ ?_; with_reducible repeat (first | assumption | exact Fr.refl _ _ | apply Fr.drew | apply Fr.setOnly)))
      (first | (go_at_call 22; refine (heldText_any (T.nxt) (0) (0) _ (by omega) (by omega) (by omega) (by omega) (by omega) (by omega)).mono ?_; rintro e w3 ⟨rfl, hf⟩; have hA : Fr Non W w3 := Fr.trans (Fr.refl _ _).drew hf; have hA2 : Fr (Only N) W w3 := hA.lift; have HA := Lib.hid hA; have hnb := HA.out.blk H31.out (fun h => h); have g0 := cell_of hnb 0; have e0 := free_of hnb 0; have g1 := cell_of hnb 1; have e1 := free_of hnb 1; have g2 := cell_of hnb 2; have e2 := free_of hnb 2; have g3 := cell_of hnb 3; have e3 := free_of hnb 3; have hrb := (HFW.out.trans HA.out).blk HRd.out (fun h => h); have r0 := cell_of hrb 0; have q0 := free_of hrb 0; have r1 := cell_of hrb 1; have q1 := free_of hrb 1; have r2 := cell_of hrb 2; have q2 := free_of hrb 2; have r3 := cell_of hrb 3; have q3 := free_of hrb 3; simp only [List.getElem?_toArray, List.getElem?_cons_zero, List.getElem?_cons_succ] at r0 r1 r2 r3 g0 g1 g2 g3; have hnl3 := lt_of_heap hnb; have hrl3 := lt_of_heap hrb; clear hf hA hrb hnb))
    go_wp2_with fail
    refine bodyPost_ret (v := .tuple #[cmdV 4 (dataB y) (textB (T.nxt) (0) (0)) T.version, .bool true]) (by simp [results, Tryd.results7, go_sem, r0, r1, r2, r3, hrl3, recordB, openB, doneB, offB, dataB]) rfl ⟨by rw [hE.out, Hv.out], ?_⟩
    have HF3 : Fr Non W0 w3 := (HFd.out.trans HFW.out).trans HA.out
    refine Fr.then (S := Non) (T := fun i => W0.heap.size ≤ i ∨ i = w.heap.size) HF0.out (HF3.lift.trans ?_) (fun i hi e => ?_)
    · have hWN : W0.heap.size ≤ N := by have := HFd.out.size; have := HN.out; omega
      with_reducible repeat (first | exact Fr.refl _ _ | refine Fr.drew ?_ | exact Fr.setCell (Fr.refl _ _) (fun _ => Or.inr rfl) _ | refine Fr.setCell ?_ (fun _ => Or.inr rfl) _ | refine Fr.setCell ?_ (fun _ => Or.inl hWN) _)
    · have := HF0.out.size
      rcases e with e | e
      · omega
      · omega
  · have hw : T.will = false := by rw [← Hdn.out (by have := Hph.out; omega)]; first | assumption | simp_all
    have Hv : Hid ((if T.will = true then T.nxt else T.num) = T.num) := by show _ = _; rw [hw]; rfl
    generalize hWe : World.alloc _ _ = W
    have hFW : Fr Non wd W := by rw [← hWe]; exact ((Fr.refl _ _).alloc _).alloc _
    have h31 : W.heap[wd.heap.size]? = some (.cells #[.int .i64 4, .string (⟨#[116]⟩ ++ itoaB T.id), .string ⟨#[]⟩, .int .i64 0] 31 (0, 0)) := by rw [← hWe, heap_alloc_old _ _ _ (by rw [size_alloc]; omega)]; exact heap_alloc_new _ _
    have h43 : W.heap[wd.heap.size + 1]? = some (.cells #[.int .i64 T.num, .int .i64 0, .int .i64 0] 43 (0, 0)) := by rw [← hWe]; exact heap_alloc_at _ _ _ (by rw [size_alloc])
    generalize hN : wd.heap.size = N at *
    have HN := Lib.hid hN
    have v0 : W.cell? ⟨N + 1, 0, none⟩ = some (.int .i64 T.num) := cell_of h43 0
    have v1 : W.cell? ⟨N + 1, 1, none⟩ = some (.int .i64 0) := cell_of h43 1
    have v2 : W.cell? ⟨N + 1, 2, none⟩ = some (.int .i64 0) := cell_of h43 2
    have hvl := lt_of_heap h43
    have hMN : N + 1 ≠ N := by omega
    have hnl := lt_of_heap h31
    have m8 : W.cell? ⟨b, 8, none⟩ = some (.int .i64 T.version) := (hFW.cell (p := ⟨b, 8, none⟩) (by show b < wd.heap.size; omega) (fun f => f)).trans c8
    have hbW : b < W.heap.size := by omega
    have hbN : b ≠ N := by omega
    have hRN : w.heap.size ≠ N := by omega
    have hRl : w.heap.size < W.heap.size := by omega
    have HFW := Lib.hid hFW
    have H31 := Lib.hid h31
    clear hWe hFW h31 h43 hN p0 p1 r0 r1 r2 r3 q0 q1 q2 q3
    clear c0 c1 c2 c3 c5 c6 c7 c8 c9
    have keep : ∀ w', Fr (Only N) W w' → (Fr (Only N) W w' ∧ w'.cell? ⟨b, 8, none⟩ = some (.int .i64 T.version) ∧ w'.cell? ⟨N + 1, 0, none⟩ = some (.int .i64 T.num) ∧ w'.cell? ⟨N + 1, 1, none⟩ = some (.int .i64 0) ∧ w'.cell? ⟨N + 1, 2, none⟩ = some (.int .i64 0)) :=
      fun w' hf => ⟨hf, (hf.cell hbW (fun h => hbN h)).trans m8, (hf.cell hvl hMN).trans v0, (hf.cell hvl hMN).trans v1, (hf.cell hvl hMN).trans v2⟩
    go_region_held3 (fun w' => Fr (Only N) W w' ∧ w'.cell? ⟨b, 8, none⟩ = some (.int .i64 T.version) ∧ w'.cell? ⟨N + 1, 0, none⟩ = some (.int .i64 T.num) ∧ w'.cell? ⟨N + 1, 1, none⟩ = some (.int .i64 0) ∧ w'.cell? ⟨N + 1, 2, none⟩ = some (.int .i64 0))
      ((refine keep _ ?_; with_reducible repeat (first | assumption | exact Fr.refl _ _ | apply Fr.drew | apply Fr.setOnly)))
      (first | (go_at_call 22; refine (heldText_any (T.num) (0) (0) _ (by omega) (by omega) (by omega) (by omega) (by omega) (by omega)).mono ?_; rintro e w3 ⟨rfl, hf⟩; have hA : Fr Non W w3 := Fr.trans (Fr.refl _ _).drew hf; have hA2 : Fr (Only N) W w3 := hA.lift; have HA := Lib.hid hA; have hnb := HA.out.blk H31.out (fun h => h); have g0 := cell_of hnb 0; have e0 := free_of hnb 0; have g1 := cell_of hnb 1; have e1 := free_of hnb 1; have g2 := cell_of hnb 2; have e2 := free_of hnb 2; have g3 := cell_of hnb 3; have e3 := free_of hnb 3; have hrb := (HFW.out.trans HA.out).blk HRd.out (fun h => h); have r0 := cell_of hrb 0; have q0 := free_of hrb 0; have r1 := cell_of hrb 1; have q1 := free_of hrb 1; have r2 := cell_of hrb 2; have q2 := free_of hrb 2; have r3 := cell_of hrb 3; have q3 := free_of hrb 3; simp only [List.getElem?_toArray, List.getElem?_cons_zero, List.getElem?_cons_succ] at r0 r1 r2 r3 g0 g1 g2 g3; have hnl3 := lt_of_heap hnb; have hrl3 := lt_of_heap hrb; clear hf hA hrb hnb))
    go_wp2_with fail
    refine bodyPost_ret (v := .tuple #[cmdV 4 (dataB y) (textB (T.num) (0) (0)) T.version, .bool true]) (by simp [results, Tryd.results7, go_sem, r0, r1, r2, r3, hrl3, recordB, openB, doneB, offB, dataB]) rfl ⟨by rw [hE.out, Hv.out], ?_⟩
    have HF3 : Fr Non W0 w3 := (HFd.out.trans HFW.out).trans HA.out
    refine Fr.then (S := Non) (T := fun i => W0.heap.size ≤ i ∨ i = w.heap.size) HF0.out (HF3.lift.trans ?_) (fun i hi e => ?_)
    · have hWN : W0.heap.size ≤ N := by have := HFd.out.size; have := HN.out; omega
      with_reducible repeat (first | exact Fr.refl _ _ | refine Fr.drew ?_ | exact Fr.setCell (Fr.refl _ _) (fun _ => Or.inr rfl) _ | refine Fr.setCell ?_ (fun _ => Or.inr rfl) _ | refine Fr.setCell ?_ (fun _ => Or.inl hWN) _)
    · have := HF0.out.size
      rcases e with e | e
      · omega
      · omega

set_option maxRecDepth 100000 in
set_option maxHeartbeats 2000000 in
theorem cmd_p9 {B : Nat} (w : World) (b pb pc : Nat) (ov : Value) (T : Tx) (dn : Bool) (hT : IsRx B w b T pb pc ov dn) (hph : T.phase = 9) :
    Calls Tryd.prog 7 #[.pointer (some ⟨b, 0, none⟩)] w (NextPost w T) := by
  have hb := hT.blk
  have hc2 : (rxCells T pb pc ov dn)[2]? = some (.string ⟨#[103, 105, 118, 101]⟩) := by show some (Value.string (wordOf T.phase)) = _; rw [hph]; rfl
  have hwf := hT.wf
  have hat := hwf.at_
  have hlen := hwf.len.2
  have hpart := hwf.part
  have hbase := hT.base.2.2
  have hid1 := hwf.id
  have hnum := hwf.num
  have hhol := hwf.hol
  have hnxt := hwf.nxt
  have Hpart := Lib.hid (hT.parts T.at_ hat)
  have hq1 : (0 : Int) ≤ ((T.at_ : Nat) : Int) := by omega
  have hq2 : ((T.at_ : Nat) : Int) < ((T.parts.length : Nat) : Int) := by omega
  have hlt := lt_of_heap hb
  have Hdn := Lib.hid hT.dn
  have Hwf := Lib.hid hwf
  have Hph := Lib.hid hph
  have HT := Lib.hid hT
  have hE : Hid (T.next = ((4, dataB T.part.1, textB (if T.will then T.nxt else T.num) 0 0, T.version), true)) := by
    show T.next = _
    unfold Tx.next; rw [if_neg (by omega), if_neg (by omega), if_neg (by omega), if_neg (by omega), if_neg (by omega), if_pos (by omega)]
  have HP0 : Hid (∀ w', Fr Non w w' → w'.cell? ⟨pb, T.at_ * 2, none⟩ = some (.string T.part.1) ∧ w'.cell? ⟨pb, T.at_ * 2 + 1, none⟩ = some (.int .i64 T.part.2)) := fun w' hf => ⟨(hf.cell (p := ⟨pb, T.at_ * 2, none⟩) hbase (fun h => h)).trans Hpart.out.1, (hf.cell (p := ⟨pb, T.at_ * 2 + 1, none⟩) hbase (fun h => h)).trans Hpart.out.2⟩
  have HBb : Hid (∀ w', Fr Non w w' → w'.heap[b]? = some (.cells #[.int .i64 T.id, .slice (some ⟨pb, 0, none⟩) T.parts.length pc, .string ⟨#[103, 105, 118, 101]⟩, .int .i64 T.at_, ov, .int .i64 T.num, .int .i64 T.hol, .int .i64 T.nxt, .int .i64 T.version, .bool dn, .int .i64 T.state] 45 (0, 0))) := fun w' hf => by
    have h := hf.blk hb (fun h => h)
    rw [show rxCells T pb pc ov dn = #[.int .i64 T.id, .slice (some ⟨pb, 0, none⟩) T.parts.length pc, .string ⟨#[103, 105, 118, 101]⟩, .int .i64 T.at_, ov, .int .i64 T.num, .int .i64 T.hol, .int .i64 T.nxt, .int .i64 T.version, .bool dn, .int .i64 T.state] by unfold rxCells; rw [hph]; rfl] at h
    exact h
  generalize hy : T.part.1 = y at *
  generalize hz : T.part.2 = z at *
  have Hy := Lib.hid hy
  have Hz := Lib.hid hz
  obtain ⟨hp1, hp2, hp3⟩ := hpart
  have l0 := itoaB_size T.id (by omega) (by omega)
  have l1 := itoaB_size T.hol (by omega) (by omega)
  have s0 : ¬ 9223372036854775807 < 1 + (itoaB T.id).size := by omega
  have s1 : ¬ 9223372036854775807 < 1 + (itoaB T.hol).size := by omega
  have s2 : ¬ 9223372036854775807 < 1 + y.size := by omega
  clear hy hz hb hT hph hwf hc2 l0 l1
  have hbw := HBb.out _ (Fr.refl _ _)
  have c0 : w.cell? ⟨b, 0, none⟩ = some (.int .i64 T.id) := cell_of hbw 0
  have c1 : w.cell? ⟨b, 1, none⟩ = some (.slice (some ⟨pb, 0, none⟩) T.parts.length pc) := cell_of hbw 1
  have c2 : w.cell? ⟨b, 2, none⟩ = some (.string ⟨#[103, 105, 118, 101]⟩) := cell_of hbw 2
  have c3 : w.cell? ⟨b, 3, none⟩ = some (.int .i64 T.at_) := cell_of hbw 3
  have c5 : w.cell? ⟨b, 5, none⟩ = some (.int .i64 T.num) := cell_of hbw 5
  have c6 : w.cell? ⟨b, 6, none⟩ = some (.int .i64 T.hol) := cell_of hbw 6
  have c7 : w.cell? ⟨b, 7, none⟩ = some (.int .i64 T.nxt) := cell_of hbw 7
  have c8 : w.cell? ⟨b, 8, none⟩ = some (.int .i64 T.version) := cell_of hbw 8
  have c9 : w.cell? ⟨b, 9, none⟩ = some (.bool dn) := cell_of hbw 9
  clear hbw
  go_enter Tryd.func7, Tryd.ntmps7
  go_wp2_with fail
  generalize hW0 : World.alloc w _ = W0
  have hF0 : Fr Non w W0 := by rw [← hW0]; exact (Fr.refl _ _).alloc _
  have hR0 : W0.heap[w.heap.size]? = some (.cells #[.int .i64 0, .string ⟨#[]⟩, .string ⟨#[]⟩, .int .i64 0] 31 (0, 0)) := by rw [← hW0]; exact heap_alloc_new _ _
  have HF0 := Lib.hid hF0
  have HR0 := Lib.hid hR0
  clear hW0 hF0 hR0
  refine (decimal_any T.id _ (by omega) (by omega)).mono ?_
  rintro e w1 ⟨rfl, hf⟩
  have HF1 : Hid (Fr Non W0 w1) := hf
  have hb1 := HBb.out _ (HF0.out.trans hf)
  clear c0 c1 c2 c3 c5 c6 c7 c8 c9
  have c0 : w1.cell? ⟨b, 0, none⟩ = some (.int .i64 T.id) := cell_of hb1 0
  have c1 : w1.cell? ⟨b, 1, none⟩ = some (.slice (some ⟨pb, 0, none⟩) T.parts.length pc) := cell_of hb1 1
  have c2 : w1.cell? ⟨b, 2, none⟩ = some (.string ⟨#[103, 105, 118, 101]⟩) := cell_of hb1 2
  have c3 : w1.cell? ⟨b, 3, none⟩ = some (.int .i64 T.at_) := cell_of hb1 3
  have c5 : w1.cell? ⟨b, 5, none⟩ = some (.int .i64 T.num) := cell_of hb1 5
  have c6 : w1.cell? ⟨b, 6, none⟩ = some (.int .i64 T.hol) := cell_of hb1 6
  have c7 : w1.cell? ⟨b, 7, none⟩ = some (.int .i64 T.nxt) := cell_of hb1 7
  have c8 : w1.cell? ⟨b, 8, none⟩ = some (.int .i64 T.version) := cell_of hb1 8
  have c9 : w1.cell? ⟨b, 9, none⟩ = some (.bool dn) := cell_of hb1 9
  clear hb1 hf
  go_wp2_with fail
  refine (decimal_any T.hol _ (by omega) (by omega)).mono ?_
  rintro e w2 ⟨rfl, hf⟩
  have HF2 : Hid (Fr Non W0 w2) := HF1.out.trans hf
  have hb2 := HBb.out _ (HF0.out.trans HF2.out)
  have p0 := (HP0.out _ (HF0.out.trans HF2.out)).1
  have p1 := (HP0.out _ (HF0.out.trans HF2.out)).2
  clear c0 c1 c2 c3 c5 c6 c7 c8 c9
  have c0 : w2.cell? ⟨b, 0, none⟩ = some (.int .i64 T.id) := cell_of hb2 0
  have c1 : w2.cell? ⟨b, 1, none⟩ = some (.slice (some ⟨pb, 0, none⟩) T.parts.length pc) := cell_of hb2 1
  have c2 : w2.cell? ⟨b, 2, none⟩ = some (.string ⟨#[103, 105, 118, 101]⟩) := cell_of hb2 2
  have c3 : w2.cell? ⟨b, 3, none⟩ = some (.int .i64 T.at_) := cell_of hb2 3
  have c5 : w2.cell? ⟨b, 5, none⟩ = some (.int .i64 T.num) := cell_of hb2 5
  have c6 : w2.cell? ⟨b, 6, none⟩ = some (.int .i64 T.hol) := cell_of hb2 6
  have c7 : w2.cell? ⟨b, 7, none⟩ = some (.int .i64 T.nxt) := cell_of hb2 7
  have c8 : w2.cell? ⟨b, 8, none⟩ = some (.int .i64 T.version) := cell_of hb2 8
  have c9 : w2.cell? ⟨b, 9, none⟩ = some (.bool dn) := cell_of hb2 9
  have hl2 : b < w2.heap.size := lt_of_heap hb2
  have hp2l : pb < w2.heap.size := by have h1 := HF0.out.size; have h2 := HF2.out.size; omega
  clear hb2 hf
  go_wp2_with fail
  go_quiet (fail)
  have hR0 := HR0.out
  generalize hWd : World.drewN _ _ = wd
  have hFd : Fr Non W0 wd := by rw [← hWd]; exact HF2.out.drewN _
  have HFd := Lib.hid hFd
  have hR := hFd.blk HR0.out (fun h => h)
  have hrl := lt_of_heap hR
  have r0 : wd.cell? ⟨w.heap.size, 0, none⟩ = some (.int .i64 0) := cell_of hR 0
  have q0 := free_of hR 0
  have r1 : wd.cell? ⟨w.heap.size, 1, none⟩ = some (.string ⟨#[]⟩) := cell_of hR 1
  have q1 := free_of hR 1
  have r2 : wd.cell? ⟨w.heap.size, 2, none⟩ = some (.string ⟨#[]⟩) := cell_of hR 2
  have q2 := free_of hR 2
  have r3 : wd.cell? ⟨w.heap.size, 3, none⟩ = some (.int .i64 0) := cell_of hR 3
  have q3 := free_of hR 3
  have hbd := HBb.out _ (HF0.out.trans hFd)
  have hld := lt_of_heap hbd
  have p0 := (HP0.out _ (HF0.out.trans hFd)).1
  have p1 := (HP0.out _ (HF0.out.trans hFd)).2
  clear c0 c1 c2 c3 c5 c6 c7 c8 c9
  have c0 : wd.cell? ⟨b, 0, none⟩ = some (.int .i64 T.id) := cell_of hbd 0
  have c1 : wd.cell? ⟨b, 1, none⟩ = some (.slice (some ⟨pb, 0, none⟩) T.parts.length pc) := cell_of hbd 1
  have c2 : wd.cell? ⟨b, 2, none⟩ = some (.string ⟨#[103, 105, 118, 101]⟩) := cell_of hbd 2
  have c3 : wd.cell? ⟨b, 3, none⟩ = some (.int .i64 T.at_) := cell_of hbd 3
  have c5 : wd.cell? ⟨b, 5, none⟩ = some (.int .i64 T.num) := cell_of hbd 5
  have c6 : wd.cell? ⟨b, 6, none⟩ = some (.int .i64 T.hol) := cell_of hbd 6
  have c7 : wd.cell? ⟨b, 7, none⟩ = some (.int .i64 T.nxt) := cell_of hbd 7
  have c8 : wd.cell? ⟨b, 8, none⟩ = some (.int .i64 T.version) := cell_of hbd 8
  have c9 : wd.cell? ⟨b, 9, none⟩ = some (.bool dn) := cell_of hbd 9
  have hne : w.heap.size ≠ b := by omega
  have hnp : w.heap.size ≠ pb := by omega
  have hpl : pb < wd.heap.size := by have h1 := HF0.out.size; have h2 := hFd.size; omega
  have HRd := Lib.hid hR
  clear hWd hFd hR hbd hR0
  go_wp2_with fail
  · have hw : T.will = true := by rw [← Hdn.out (by have := Hph.out; omega)]; first | assumption | simp_all
    have Hv : Hid ((if T.will = true then T.nxt else T.num) = T.nxt) := by show _ = _; rw [hw]; rfl
    generalize hWe : World.alloc _ _ = W
    have hFW : Fr Non wd W := by rw [← hWe]; exact ((Fr.refl _ _).alloc _).alloc _
    have h31 : W.heap[wd.heap.size]? = some (.cells #[.int .i64 4, .string (⟨#[116]⟩ ++ itoaB T.id), .string ⟨#[]⟩, .int .i64 0] 31 (0, 0)) := by rw [← hWe, heap_alloc_old _ _ _ (by rw [size_alloc]; omega)]; exact heap_alloc_new _ _
    have h43 : W.heap[wd.heap.size + 1]? = some (.cells #[.int .i64 T.nxt, .int .i64 0, .int .i64 0] 43 (0, 0)) := by rw [← hWe]; exact heap_alloc_at _ _ _ (by rw [size_alloc])
    generalize hN : wd.heap.size = N at *
    have HN := Lib.hid hN
    have v0 : W.cell? ⟨N + 1, 0, none⟩ = some (.int .i64 T.nxt) := cell_of h43 0
    have v1 : W.cell? ⟨N + 1, 1, none⟩ = some (.int .i64 0) := cell_of h43 1
    have v2 : W.cell? ⟨N + 1, 2, none⟩ = some (.int .i64 0) := cell_of h43 2
    have hvl := lt_of_heap h43
    have hMN : N + 1 ≠ N := by omega
    have hnl := lt_of_heap h31
    have m8 : W.cell? ⟨b, 8, none⟩ = some (.int .i64 T.version) := (hFW.cell (p := ⟨b, 8, none⟩) (by show b < wd.heap.size; omega) (fun f => f)).trans c8
    have hbW : b < W.heap.size := by omega
    have hbN : b ≠ N := by omega
    have hRN : w.heap.size ≠ N := by omega
    have hRl : w.heap.size < W.heap.size := by omega
    have HFW := Lib.hid hFW
    have H31 := Lib.hid h31
    clear hWe hFW h31 h43 hN p0 p1 r0 r1 r2 r3 q0 q1 q2 q3
    clear c0 c1 c2 c3 c5 c6 c7 c8 c9
    have keep : ∀ w', Fr (Only N) W w' → (Fr (Only N) W w' ∧ w'.cell? ⟨b, 8, none⟩ = some (.int .i64 T.version) ∧ w'.cell? ⟨N + 1, 0, none⟩ = some (.int .i64 T.nxt) ∧ w'.cell? ⟨N + 1, 1, none⟩ = some (.int .i64 0) ∧ w'.cell? ⟨N + 1, 2, none⟩ = some (.int .i64 0)) :=
      fun w' hf => ⟨hf, (hf.cell hbW (fun h => hbN h)).trans m8, (hf.cell hvl hMN).trans v0, (hf.cell hvl hMN).trans v1, (hf.cell hvl hMN).trans v2⟩
    go_region_held3 (fun w' => Fr (Only N) W w' ∧ w'.cell? ⟨b, 8, none⟩ = some (.int .i64 T.version) ∧ w'.cell? ⟨N + 1, 0, none⟩ = some (.int .i64 T.nxt) ∧ w'.cell? ⟨N + 1, 1, none⟩ = some (.int .i64 0) ∧ w'.cell? ⟨N + 1, 2, none⟩ = some (.int .i64 0))
      ((refine keep _ ?_; with_reducible repeat (first | assumption | exact Fr.refl _ _ | apply Fr.drew | apply Fr.setOnly)))
      (first | (go_at_call 22; refine (heldText_any (T.nxt) (0) (0) _ (by omega) (by omega) (by omega) (by omega) (by omega) (by omega)).mono ?_; rintro e w3 ⟨rfl, hf⟩; have hA : Fr Non W w3 := Fr.trans (Fr.refl _ _).drew hf; have hA2 : Fr (Only N) W w3 := hA.lift; have HA := Lib.hid hA; have hnb := HA.out.blk H31.out (fun h => h); have g0 := cell_of hnb 0; have e0 := free_of hnb 0; have g1 := cell_of hnb 1; have e1 := free_of hnb 1; have g2 := cell_of hnb 2; have e2 := free_of hnb 2; have g3 := cell_of hnb 3; have e3 := free_of hnb 3; have hrb := (HFW.out.trans HA.out).blk HRd.out (fun h => h); have r0 := cell_of hrb 0; have q0 := free_of hrb 0; have r1 := cell_of hrb 1; have q1 := free_of hrb 1; have r2 := cell_of hrb 2; have q2 := free_of hrb 2; have r3 := cell_of hrb 3; have q3 := free_of hrb 3; simp only [List.getElem?_toArray, List.getElem?_cons_zero, List.getElem?_cons_succ] at r0 r1 r2 r3 g0 g1 g2 g3; have hnl3 := lt_of_heap hnb; have hrl3 := lt_of_heap hrb; clear hf hA hrb hnb))
    go_wp2_with fail
    refine bodyPost_ret (v := .tuple #[cmdV 4 (dataB y) (textB (T.nxt) (0) (0)) T.version, .bool true]) (by simp [results, Tryd.results7, go_sem, r0, r1, r2, r3, hrl3, recordB, openB, doneB, offB, dataB]) rfl ⟨by rw [hE.out, Hv.out], ?_⟩
    have HF3 : Fr Non W0 w3 := (HFd.out.trans HFW.out).trans HA.out
    refine Fr.then (S := Non) (T := fun i => W0.heap.size ≤ i ∨ i = w.heap.size) HF0.out (HF3.lift.trans ?_) (fun i hi e => ?_)
    · have hWN : W0.heap.size ≤ N := by have := HFd.out.size; have := HN.out; omega
      with_reducible repeat (first | exact Fr.refl _ _ | refine Fr.drew ?_ | exact Fr.setCell (Fr.refl _ _) (fun _ => Or.inr rfl) _ | refine Fr.setCell ?_ (fun _ => Or.inr rfl) _ | refine Fr.setCell ?_ (fun _ => Or.inl hWN) _)
    · have := HF0.out.size
      rcases e with e | e
      · omega
      · omega
  · have hw : T.will = false := by rw [← Hdn.out (by have := Hph.out; omega)]; first | assumption | simp_all
    have Hv : Hid ((if T.will = true then T.nxt else T.num) = T.num) := by show _ = _; rw [hw]; rfl
    generalize hWe : World.alloc _ _ = W
    have hFW : Fr Non wd W := by rw [← hWe]; exact ((Fr.refl _ _).alloc _).alloc _
    have h31 : W.heap[wd.heap.size]? = some (.cells #[.int .i64 4, .string (⟨#[116]⟩ ++ itoaB T.id), .string ⟨#[]⟩, .int .i64 0] 31 (0, 0)) := by rw [← hWe, heap_alloc_old _ _ _ (by rw [size_alloc]; omega)]; exact heap_alloc_new _ _
    have h43 : W.heap[wd.heap.size + 1]? = some (.cells #[.int .i64 T.num, .int .i64 0, .int .i64 0] 43 (0, 0)) := by rw [← hWe]; exact heap_alloc_at _ _ _ (by rw [size_alloc])
    generalize hN : wd.heap.size = N at *
    have HN := Lib.hid hN
    have v0 : W.cell? ⟨N + 1, 0, none⟩ = some (.int .i64 T.num) := cell_of h43 0
    have v1 : W.cell? ⟨N + 1, 1, none⟩ = some (.int .i64 0) := cell_of h43 1
    have v2 : W.cell? ⟨N + 1, 2, none⟩ = some (.int .i64 0) := cell_of h43 2
    have hvl := lt_of_heap h43
    have hMN : N + 1 ≠ N := by omega
    have hnl := lt_of_heap h31
    have m8 : W.cell? ⟨b, 8, none⟩ = some (.int .i64 T.version) := (hFW.cell (p := ⟨b, 8, none⟩) (by show b < wd.heap.size; omega) (fun f => f)).trans c8
    have hbW : b < W.heap.size := by omega
    have hbN : b ≠ N := by omega
    have hRN : w.heap.size ≠ N := by omega
    have hRl : w.heap.size < W.heap.size := by omega
    have HFW := Lib.hid hFW
    have H31 := Lib.hid h31
    clear hWe hFW h31 h43 hN p0 p1 r0 r1 r2 r3 q0 q1 q2 q3
    clear c0 c1 c2 c3 c5 c6 c7 c8 c9
    have keep : ∀ w', Fr (Only N) W w' → (Fr (Only N) W w' ∧ w'.cell? ⟨b, 8, none⟩ = some (.int .i64 T.version) ∧ w'.cell? ⟨N + 1, 0, none⟩ = some (.int .i64 T.num) ∧ w'.cell? ⟨N + 1, 1, none⟩ = some (.int .i64 0) ∧ w'.cell? ⟨N + 1, 2, none⟩ = some (.int .i64 0)) :=
      fun w' hf => ⟨hf, (hf.cell hbW (fun h => hbN h)).trans m8, (hf.cell hvl hMN).trans v0, (hf.cell hvl hMN).trans v1, (hf.cell hvl hMN).trans v2⟩
    go_region_held3 (fun w' => Fr (Only N) W w' ∧ w'.cell? ⟨b, 8, none⟩ = some (.int .i64 T.version) ∧ w'.cell? ⟨N + 1, 0, none⟩ = some (.int .i64 T.num) ∧ w'.cell? ⟨N + 1, 1, none⟩ = some (.int .i64 0) ∧ w'.cell? ⟨N + 1, 2, none⟩ = some (.int .i64 0))
      ((refine keep _ ?_; with_reducible repeat (first | assumption | exact Fr.refl _ _ | apply Fr.drew | apply Fr.setOnly)))
      (first | (go_at_call 22; refine (heldText_any (T.num) (0) (0) _ (by omega) (by omega) (by omega) (by omega) (by omega) (by omega)).mono ?_; rintro e w3 ⟨rfl, hf⟩; have hA : Fr Non W w3 := Fr.trans (Fr.refl _ _).drew hf; have hA2 : Fr (Only N) W w3 := hA.lift; have HA := Lib.hid hA; have hnb := HA.out.blk H31.out (fun h => h); have g0 := cell_of hnb 0; have e0 := free_of hnb 0; have g1 := cell_of hnb 1; have e1 := free_of hnb 1; have g2 := cell_of hnb 2; have e2 := free_of hnb 2; have g3 := cell_of hnb 3; have e3 := free_of hnb 3; have hrb := (HFW.out.trans HA.out).blk HRd.out (fun h => h); have r0 := cell_of hrb 0; have q0 := free_of hrb 0; have r1 := cell_of hrb 1; have q1 := free_of hrb 1; have r2 := cell_of hrb 2; have q2 := free_of hrb 2; have r3 := cell_of hrb 3; have q3 := free_of hrb 3; simp only [List.getElem?_toArray, List.getElem?_cons_zero, List.getElem?_cons_succ] at r0 r1 r2 r3 g0 g1 g2 g3; have hnl3 := lt_of_heap hnb; have hrl3 := lt_of_heap hrb; clear hf hA hrb hnb))
    go_wp2_with fail
    refine bodyPost_ret (v := .tuple #[cmdV 4 (dataB y) (textB (T.num) (0) (0)) T.version, .bool true]) (by simp [results, Tryd.results7, go_sem, r0, r1, r2, r3, hrl3, recordB, openB, doneB, offB, dataB]) rfl ⟨by rw [hE.out, Hv.out], ?_⟩
    have HF3 : Fr Non W0 w3 := (HFd.out.trans HFW.out).trans HA.out
    refine Fr.then (S := Non) (T := fun i => W0.heap.size ≤ i ∨ i = w.heap.size) HF0.out (HF3.lift.trans ?_) (fun i hi e => ?_)
    · have hWN : W0.heap.size ≤ N := by have := HFd.out.size; have := HN.out; omega
      with_reducible repeat (first | exact Fr.refl _ _ | refine Fr.drew ?_ | exact Fr.setCell (Fr.refl _ _) (fun _ => Or.inr rfl) _ | refine Fr.setCell ?_ (fun _ => Or.inr rfl) _ | refine Fr.setCell ?_ (fun _ => Or.inl hWN) _)
    · have := HF0.out.size
      rcases e with e | e
      · omega
      · omega

set_option maxRecDepth 100000 in
set_option maxHeartbeats 2000000 in
theorem cmd_p2 {B : Nat} (w : World) (b pb pc : Nat) (ov : Value) (T : Tx) (dn : Bool) (hT : IsRx B w b T pb pc ov dn) (hph : T.phase = 2) :
    Calls Tryd.prog 7 #[.pointer (some ⟨b, 0, none⟩)] w (NextPost w T) := by
  have hb := hT.blk
  have hc2 : (rxCells T pb pc ov dn)[2]? = some (.string ⟨#[104, 111, 108, 100]⟩) := by show some (Value.string (wordOf T.phase)) = _; rw [hph]; rfl
  have hwf := hT.wf
  have hat := hwf.at_
  have hlen := hwf.len.2
  have hpart := hwf.part
  have hbase := hT.base.2.2
  have hid1 := hwf.id
  have hnum := hwf.num
  have hhol := hwf.hol
  have hnxt := hwf.nxt
  have Hpart := Lib.hid (hT.parts T.at_ hat)
  have hq1 : (0 : Int) ≤ ((T.at_ : Nat) : Int) := by omega
  have hq2 : ((T.at_ : Nat) : Int) < ((T.parts.length : Nat) : Int) := by omega
  have hlt := lt_of_heap hb
  have Hdn := Lib.hid hT.dn
  have Hwf := Lib.hid hwf
  have hhold := hwf.hold hph
  have Hph := Lib.hid hph
  have HT := Lib.hid hT
  have hE : Hid (T.next = ((4, dataB T.part.1, textB T.num T.id (T.num + T.part.2), T.version), true)) := by
    show T.next = _
    unfold Tx.next; rw [if_neg (by omega), if_neg (by omega), if_pos (by omega)]
  have HP0 : Hid (∀ w', Fr Non w w' → w'.cell? ⟨pb, T.at_ * 2, none⟩ = some (.string T.part.1) ∧ w'.cell? ⟨pb, T.at_ * 2 + 1, none⟩ = some (.int .i64 T.part.2)) := fun w' hf => ⟨(hf.cell (p := ⟨pb, T.at_ * 2, none⟩) hbase (fun h => h)).trans Hpart.out.1, (hf.cell (p := ⟨pb, T.at_ * 2 + 1, none⟩) hbase (fun h => h)).trans Hpart.out.2⟩
  have HBb : Hid (∀ w', Fr Non w w' → w'.heap[b]? = some (.cells #[.int .i64 T.id, .slice (some ⟨pb, 0, none⟩) T.parts.length pc, .string ⟨#[104, 111, 108, 100]⟩, .int .i64 T.at_, ov, .int .i64 T.num, .int .i64 T.hol, .int .i64 T.nxt, .int .i64 T.version, .bool dn, .int .i64 T.state] 45 (0, 0))) := fun w' hf => by
    have h := hf.blk hb (fun h => h)
    rw [show rxCells T pb pc ov dn = #[.int .i64 T.id, .slice (some ⟨pb, 0, none⟩) T.parts.length pc, .string ⟨#[104, 111, 108, 100]⟩, .int .i64 T.at_, ov, .int .i64 T.num, .int .i64 T.hol, .int .i64 T.nxt, .int .i64 T.version, .bool dn, .int .i64 T.state] by unfold rxCells; rw [hph]; rfl] at h
    exact h
  generalize hy : T.part.1 = y at *
  generalize hz : T.part.2 = z at *
  have Hy := Lib.hid hy
  have Hz := Lib.hid hz
  have Hhold := Lib.hid hhold
  clear hhold
  obtain ⟨hp1, hp2, hp3⟩ := hpart
  have l0 := itoaB_size T.id (by omega) (by omega)
  have l1 := itoaB_size T.hol (by omega) (by omega)
  have s0 : ¬ 9223372036854775807 < 1 + (itoaB T.id).size := by omega
  have s1 : ¬ 9223372036854775807 < 1 + (itoaB T.hol).size := by omega
  have s2 : ¬ 9223372036854775807 < 1 + y.size := by omega
  clear hy hz hb hT hph hwf hc2 l0 l1
  have hbw := HBb.out _ (Fr.refl _ _)
  have c0 : w.cell? ⟨b, 0, none⟩ = some (.int .i64 T.id) := cell_of hbw 0
  have c1 : w.cell? ⟨b, 1, none⟩ = some (.slice (some ⟨pb, 0, none⟩) T.parts.length pc) := cell_of hbw 1
  have c2 : w.cell? ⟨b, 2, none⟩ = some (.string ⟨#[104, 111, 108, 100]⟩) := cell_of hbw 2
  have c3 : w.cell? ⟨b, 3, none⟩ = some (.int .i64 T.at_) := cell_of hbw 3
  have c5 : w.cell? ⟨b, 5, none⟩ = some (.int .i64 T.num) := cell_of hbw 5
  have c6 : w.cell? ⟨b, 6, none⟩ = some (.int .i64 T.hol) := cell_of hbw 6
  have c7 : w.cell? ⟨b, 7, none⟩ = some (.int .i64 T.nxt) := cell_of hbw 7
  have c8 : w.cell? ⟨b, 8, none⟩ = some (.int .i64 T.version) := cell_of hbw 8
  have c9 : w.cell? ⟨b, 9, none⟩ = some (.bool dn) := cell_of hbw 9
  clear hbw
  go_enter Tryd.func7, Tryd.ntmps7
  go_wp2_with fail
  generalize hW0 : World.alloc w _ = W0
  have hF0 : Fr Non w W0 := by rw [← hW0]; exact (Fr.refl _ _).alloc _
  have hR0 : W0.heap[w.heap.size]? = some (.cells #[.int .i64 0, .string ⟨#[]⟩, .string ⟨#[]⟩, .int .i64 0] 31 (0, 0)) := by rw [← hW0]; exact heap_alloc_new _ _
  have HF0 := Lib.hid hF0
  have HR0 := Lib.hid hR0
  clear hW0 hF0 hR0
  refine (decimal_any T.id _ (by omega) (by omega)).mono ?_
  rintro e w1 ⟨rfl, hf⟩
  have HF1 : Hid (Fr Non W0 w1) := hf
  have hb1 := HBb.out _ (HF0.out.trans hf)
  clear c0 c1 c2 c3 c5 c6 c7 c8 c9
  have c0 : w1.cell? ⟨b, 0, none⟩ = some (.int .i64 T.id) := cell_of hb1 0
  have c1 : w1.cell? ⟨b, 1, none⟩ = some (.slice (some ⟨pb, 0, none⟩) T.parts.length pc) := cell_of hb1 1
  have c2 : w1.cell? ⟨b, 2, none⟩ = some (.string ⟨#[104, 111, 108, 100]⟩) := cell_of hb1 2
  have c3 : w1.cell? ⟨b, 3, none⟩ = some (.int .i64 T.at_) := cell_of hb1 3
  have c5 : w1.cell? ⟨b, 5, none⟩ = some (.int .i64 T.num) := cell_of hb1 5
  have c6 : w1.cell? ⟨b, 6, none⟩ = some (.int .i64 T.hol) := cell_of hb1 6
  have c7 : w1.cell? ⟨b, 7, none⟩ = some (.int .i64 T.nxt) := cell_of hb1 7
  have c8 : w1.cell? ⟨b, 8, none⟩ = some (.int .i64 T.version) := cell_of hb1 8
  have c9 : w1.cell? ⟨b, 9, none⟩ = some (.bool dn) := cell_of hb1 9
  clear hb1 hf
  go_wp2_with fail
  refine (decimal_any T.hol _ (by omega) (by omega)).mono ?_
  rintro e w2 ⟨rfl, hf⟩
  have HF2 : Hid (Fr Non W0 w2) := HF1.out.trans hf
  have hb2 := HBb.out _ (HF0.out.trans HF2.out)
  have p0 := (HP0.out _ (HF0.out.trans HF2.out)).1
  have p1 := (HP0.out _ (HF0.out.trans HF2.out)).2
  clear c0 c1 c2 c3 c5 c6 c7 c8 c9
  have c0 : w2.cell? ⟨b, 0, none⟩ = some (.int .i64 T.id) := cell_of hb2 0
  have c1 : w2.cell? ⟨b, 1, none⟩ = some (.slice (some ⟨pb, 0, none⟩) T.parts.length pc) := cell_of hb2 1
  have c2 : w2.cell? ⟨b, 2, none⟩ = some (.string ⟨#[104, 111, 108, 100]⟩) := cell_of hb2 2
  have c3 : w2.cell? ⟨b, 3, none⟩ = some (.int .i64 T.at_) := cell_of hb2 3
  have c5 : w2.cell? ⟨b, 5, none⟩ = some (.int .i64 T.num) := cell_of hb2 5
  have c6 : w2.cell? ⟨b, 6, none⟩ = some (.int .i64 T.hol) := cell_of hb2 6
  have c7 : w2.cell? ⟨b, 7, none⟩ = some (.int .i64 T.nxt) := cell_of hb2 7
  have c8 : w2.cell? ⟨b, 8, none⟩ = some (.int .i64 T.version) := cell_of hb2 8
  have c9 : w2.cell? ⟨b, 9, none⟩ = some (.bool dn) := cell_of hb2 9
  have hl2 : b < w2.heap.size := lt_of_heap hb2
  have hp2l : pb < w2.heap.size := by have h1 := HF0.out.size; have h2 := HF2.out.size; omega
  clear hb2 hf
  go_wp2_with fail
  go_quiet (fail)
  have hR0 := HR0.out
  generalize hWd : World.drewN _ _ = wd
  have hFd : Fr Non W0 wd := by rw [← hWd]; exact HF2.out.drewN _
  have HFd := Lib.hid hFd
  have hR := hFd.blk HR0.out (fun h => h)
  have hrl := lt_of_heap hR
  have r0 : wd.cell? ⟨w.heap.size, 0, none⟩ = some (.int .i64 0) := cell_of hR 0
  have q0 := free_of hR 0
  have r1 : wd.cell? ⟨w.heap.size, 1, none⟩ = some (.string ⟨#[]⟩) := cell_of hR 1
  have q1 := free_of hR 1
  have r2 : wd.cell? ⟨w.heap.size, 2, none⟩ = some (.string ⟨#[]⟩) := cell_of hR 2
  have q2 := free_of hR 2
  have r3 : wd.cell? ⟨w.heap.size, 3, none⟩ = some (.int .i64 0) := cell_of hR 3
  have q3 := free_of hR 3
  have hbd := HBb.out _ (HF0.out.trans hFd)
  have hld := lt_of_heap hbd
  have p0 := (HP0.out _ (HF0.out.trans hFd)).1
  have p1 := (HP0.out _ (HF0.out.trans hFd)).2
  clear c0 c1 c2 c3 c5 c6 c7 c8 c9
  have c0 : wd.cell? ⟨b, 0, none⟩ = some (.int .i64 T.id) := cell_of hbd 0
  have c1 : wd.cell? ⟨b, 1, none⟩ = some (.slice (some ⟨pb, 0, none⟩) T.parts.length pc) := cell_of hbd 1
  have c2 : wd.cell? ⟨b, 2, none⟩ = some (.string ⟨#[104, 111, 108, 100]⟩) := cell_of hbd 2
  have c3 : wd.cell? ⟨b, 3, none⟩ = some (.int .i64 T.at_) := cell_of hbd 3
  have c5 : wd.cell? ⟨b, 5, none⟩ = some (.int .i64 T.num) := cell_of hbd 5
  have c6 : wd.cell? ⟨b, 6, none⟩ = some (.int .i64 T.hol) := cell_of hbd 6
  have c7 : wd.cell? ⟨b, 7, none⟩ = some (.int .i64 T.nxt) := cell_of hbd 7
  have c8 : wd.cell? ⟨b, 8, none⟩ = some (.int .i64 T.version) := cell_of hbd 8
  have c9 : wd.cell? ⟨b, 9, none⟩ = some (.bool dn) := cell_of hbd 9
  have hne : w.heap.size ≠ b := by omega
  have hnp : w.heap.size ≠ pb := by omega
  have hpl : pb < wd.heap.size := by have h1 := HF0.out.size; have h2 := hFd.size; omega
  have HRd := Lib.hid hR
  have Hbd := Lib.hid hbd
  clear hWd hFd hR hbd hR0
  go_wp2_with fail
  all_goals
    generalize hWa : World.alloc _ _ = A
    have hFA : Fr Non wd A := by rw [← hWa]; exact (Fr.refl _ _).alloc _
    have hA31 : A.heap[wd.heap.size]? = some (.cells #[.int .i64 4, .string (⟨#[116]⟩ ++ itoaB T.id), .string ⟨#[]⟩, .int .i64 0] 31 (0, 0)) := by rw [← hWa]; exact heap_alloc_new _ _
    have hAs : A.heap.size = wd.heap.size + 1 := by rw [← hWa, size_alloc]
    have hbA := hFA.blk Hbd.out (fun h => h)
    have hldA := lt_of_heap hbA
    have p1' : A.cell? ⟨pb, T.at_ * 2 + 1, none⟩ = some (.int .i64 z) := (hFA.cell (p := ⟨pb, T.at_ * 2 + 1, none⟩) hpl (fun h => h)).trans p1
    have c8' := c8
    clear p0 p1
    clear c0 c1 c2 c3 c5 c6 c7 c8 c9
    have c0 : A.cell? ⟨b, 0, none⟩ = some (.int .i64 T.id) := cell_of hbA 0
    have c1 : A.cell? ⟨b, 1, none⟩ = some (.slice (some ⟨pb, 0, none⟩) T.parts.length pc) := cell_of hbA 1
    have c2 : A.cell? ⟨b, 2, none⟩ = some (.string ⟨#[104, 111, 108, 100]⟩) := cell_of hbA 2
    have c3 : A.cell? ⟨b, 3, none⟩ = some (.int .i64 T.at_) := cell_of hbA 3
    have c5 : A.cell? ⟨b, 5, none⟩ = some (.int .i64 T.num) := cell_of hbA 5
    have c6 : A.cell? ⟨b, 6, none⟩ = some (.int .i64 T.hol) := cell_of hbA 6
    have c7 : A.cell? ⟨b, 7, none⟩ = some (.int .i64 T.nxt) := cell_of hbA 7
    have c8 : A.cell? ⟨b, 8, none⟩ = some (.int .i64 T.version) := cell_of hbA 8
    have c9 : A.cell? ⟨b, 9, none⟩ = some (.bool dn) := cell_of hbA 9
    have hplA : pb < A.heap.size := by omega
    have HFA := Lib.hid hFA
    have HA31 := Lib.hid hA31
    have HAs := Lib.hid hAs
    clear hWa hFA hA31 hbA hAs
    have keepA : ∀ w', Fr Non A w' → (Fr Non A w' ∧ w'.cell? ⟨b, 0, none⟩ = some (.int .i64 T.id) ∧ w'.cell? ⟨b, 1, none⟩ = some (.slice (some ⟨pb, 0, none⟩) T.parts.length pc) ∧ w'.cell? ⟨b, 3, none⟩ = some (.int .i64 T.at_) ∧ w'.cell? ⟨b, 5, none⟩ = some (.int .i64 T.num) ∧ w'.cell? ⟨pb, T.at_ * 2 + 1, none⟩ = some (.int .i64 z)) :=
      fun w' hf => ⟨hf, (hf.cell hldA (fun h => h)).trans c0, (hf.cell hldA (fun h => h)).trans c1, (hf.cell hldA (fun h => h)).trans c3, (hf.cell hldA (fun h => h)).trans c5, (hf.cell (p := ⟨pb, T.at_ * 2 + 1, none⟩) hplA (fun h => h)).trans p1'⟩
    have hwr : IntKind.i64.wrap (T.num + z) = T.num + z := IntWalk.i64_in _ (by obtain ⟨h1, h2⟩ := Hhold.out; omega)
    go_region_held3 (fun w' => Fr Non A w' ∧ w'.cell? ⟨b, 0, none⟩ = some (.int .i64 T.id) ∧ w'.cell? ⟨b, 1, none⟩ = some (.slice (some ⟨pb, 0, none⟩) T.parts.length pc) ∧ w'.cell? ⟨b, 3, none⟩ = some (.int .i64 T.at_) ∧ w'.cell? ⟨b, 5, none⟩ = some (.int .i64 T.num) ∧ w'.cell? ⟨pb, T.at_ * 2 + 1, none⟩ = some (.int .i64 z))
      ((refine keepA _ ?_; with_reducible repeat (first | assumption | exact Fr.refl _ _ | apply Fr.drew | apply Fr.alloc | (refine Fr.setCell ?_ (fun h => absurd h (by simp)) _))))
      (first | fail)
    clear hwr
    go_wp2_with fail
    obtain ⟨W, hWe⟩ : ∃ W, W = (A.alloc (.cells #[.int .i64 T.num, .int .i64 T.id, .int .i64 (T.num + z)] 43)).drew := ⟨_, rfl⟩
    rw [← hWe]
    clear c8
    have c8 := c8'
    have hAs := HAs.out
    have p0 := p1'
    have p1 := p1'
    have hFW : Fr Non wd W := by rw [hWe]; exact ((HFA.out.alloc _).drew)
    have h31 : W.heap[wd.heap.size]? = some (.cells #[.int .i64 4, .string (⟨#[116]⟩ ++ itoaB T.id), .string ⟨#[]⟩, .int .i64 0] 31 (0, 0)) := by rw [hWe]; exact (((Fr.refl Non A).alloc _).drew).blk HA31.out (fun h => h)
    have h43 : W.heap[A.heap.size]? = some (.cells #[.int .i64 T.num, .int .i64 T.id, .int .i64 (T.num + z)] 43 (0, 0)) := by rw [hWe]; exact heap_alloc_new _ _
    generalize hM : A.heap.size = M at h43 hAs ⊢
    clear c8' p1' hM hldA hplA
    obtain ⟨hh1, hh2⟩ : 0 ≤ T.num + z ∧ T.num + z ≤ 999999999 := Hhold.out
    generalize hN : wd.heap.size = N at *
    have HN := Lib.hid hN
    have v0 : W.cell? ⟨M, 0, none⟩ = some (.int .i64 T.num) := cell_of h43 0
    have v1 : W.cell? ⟨M, 1, none⟩ = some (.int .i64 T.id) := cell_of h43 1
    have v2 : W.cell? ⟨M, 2, none⟩ = some (.int .i64 (T.num + z)) := cell_of h43 2
    have hvl := lt_of_heap h43
    have hMN : M ≠ N := by omega
    have hnl := lt_of_heap h31
    have m8 : W.cell? ⟨b, 8, none⟩ = some (.int .i64 T.version) := (hFW.cell (p := ⟨b, 8, none⟩) (by show b < wd.heap.size; omega) (fun f => f)).trans c8
    have hbW : b < W.heap.size := by omega
    have hbN : b ≠ N := by omega
    have hRN : w.heap.size ≠ N := by omega
    have hRl : w.heap.size < W.heap.size := by omega
    have HFW := Lib.hid hFW
    have H31 := Lib.hid h31
    clear hAs hWe hFW h31 h43 hN p0 p1 r0 r1 r2 r3 q0 q1 q2 q3
    clear c0 c1 c2 c3 c5 c6 c7 c8 c9
    have keep : ∀ w', Fr (Only N) W w' → (Fr (Only N) W w' ∧ w'.cell? ⟨b, 8, none⟩ = some (.int .i64 T.version) ∧ w'.cell? ⟨M, 0, none⟩ = some (.int .i64 T.num) ∧ w'.cell? ⟨M, 1, none⟩ = some (.int .i64 T.id) ∧ w'.cell? ⟨M, 2, none⟩ = some (.int .i64 (T.num + z))) :=
      fun w' hf => ⟨hf, (hf.cell hbW (fun h => hbN h)).trans m8, (hf.cell hvl hMN).trans v0, (hf.cell hvl hMN).trans v1, (hf.cell hvl hMN).trans v2⟩
    go_region_held3 (fun w' => Fr (Only N) W w' ∧ w'.cell? ⟨b, 8, none⟩ = some (.int .i64 T.version) ∧ w'.cell? ⟨M, 0, none⟩ = some (.int .i64 T.num) ∧ w'.cell? ⟨M, 1, none⟩ = some (.int .i64 T.id) ∧ w'.cell? ⟨M, 2, none⟩ = some (.int .i64 (T.num + z)))
      ((refine keep _ ?_; with_reducible repeat (first | assumption | exact Fr.refl _ _ | apply Fr.drew | apply Fr.setOnly)))
      (first | (go_at_call 22; refine (heldText_any (T.num) (T.id) ((T.num + z)) _ (by omega) (by omega) (by omega) (by omega) (by omega) (by omega)).mono ?_; rintro e w3 ⟨rfl, hf⟩; have hA : Fr Non W w3 := Fr.trans (Fr.refl _ _).drew hf; have hA2 : Fr (Only N) W w3 := hA.lift; have HA := Lib.hid hA; have hnb := HA.out.blk H31.out (fun h => h); have g0 := cell_of hnb 0; have e0 := free_of hnb 0; have g1 := cell_of hnb 1; have e1 := free_of hnb 1; have g2 := cell_of hnb 2; have e2 := free_of hnb 2; have g3 := cell_of hnb 3; have e3 := free_of hnb 3; have hrb := (HFW.out.trans HA.out).blk HRd.out (fun h => h); have r0 := cell_of hrb 0; have q0 := free_of hrb 0; have r1 := cell_of hrb 1; have q1 := free_of hrb 1; have r2 := cell_of hrb 2; have q2 := free_of hrb 2; have r3 := cell_of hrb 3; have q3 := free_of hrb 3; simp only [List.getElem?_toArray, List.getElem?_cons_zero, List.getElem?_cons_succ] at r0 r1 r2 r3 g0 g1 g2 g3; have hnl3 := lt_of_heap hnb; have hrl3 := lt_of_heap hrb; clear hf hA hrb hnb))
    go_wp2_with fail
    refine bodyPost_ret (v := .tuple #[cmdV 4 (dataB y) (textB (T.num) (T.id) ((T.num + z))) T.version, .bool true]) (by simp [results, Tryd.results7, go_sem, r0, r1, r2, r3, hrl3, recordB, openB, doneB, offB, dataB]) rfl ⟨by rw [hE.out], ?_⟩
    have HF3 : Fr Non W0 w3 := (HFd.out.trans HFW.out).trans HA.out
    refine Fr.then (S := Non) (T := fun i => W0.heap.size ≤ i ∨ i = w.heap.size) HF0.out (HF3.lift.trans ?_) (fun i hi e => ?_)
    · have hWN : W0.heap.size ≤ N := by have := HFd.out.size; have := HN.out; omega
      with_reducible repeat (first | exact Fr.refl _ _ | refine Fr.drew ?_ | exact Fr.setCell (Fr.refl _ _) (fun _ => Or.inr rfl) _ | refine Fr.setCell ?_ (fun _ => Or.inr rfl) _ | refine Fr.setCell ?_ (fun _ => Or.inl hWN) _)
    · have := HF0.out.size
      rcases e with e | e
      · omega
      · omega

/-- quorateref's (*Txn).Command, whatever the phase. -/
theorem cmd_any {B : Nat} (w : World) (b pb pc : Nat) (ov : Value) (T : Tx) (dn : Bool) (hT : IsRx B w b T pb pc ov dn) :
    Calls Tryd.prog 7 #[.pointer (some ⟨b, 0, none⟩)] w (NextPost w T) := by
  have hp := hT.wf.phase
  have h : T.phase = 0 ∨ T.phase = 1 ∨ T.phase = 2 ∨ T.phase = 3 ∨ T.phase = 4 ∨ T.phase = 5 ∨ T.phase = 6 ∨ T.phase = 7 ∨ T.phase = 8 ∨ T.phase = 9 ∨ T.phase = 10 := by omega
  rcases h with h | h | h | h | h | h | h | h | h | h | h
  · exact cmd_p0 w b pb pc ov T dn hT h
  · exact cmd_p1 w b pb pc ov T dn hT h
  · exact cmd_p2 w b pb pc ov T dn hT h
  · exact cmd_p3 w b pb pc ov T dn hT h
  · exact cmd_p4 w b pb pc ov T dn hT h
  · exact cmd_p5 w b pb pc ov T dn hT h
  · exact cmd_p6 w b pb pc ov T dn hT h
  · exact cmd_p7 w b pb pc ov T dn hT h
  · exact cmd_p8 w b pb pc ov T dn hT h
  · exact cmd_p9 w b pb pc ov T dn hT h
  · exact cmd_p10 w b pb pc ov T dn hT h
end Go.Proofs.YtbfahkpckhbajaaDoor
