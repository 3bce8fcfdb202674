/- (*Txn).Answer: phases hold and clear, and all phases together. Conditions: the object is whole, the text read at most 2,000,000 bytes long. -/
import Derived.Test.YtbfahkpckhbajaaDoorQAnswer
namespace Go.Proofs.YtbfahkpckhbajaaDoor
open Go.RowKit
set_option linter.unusedSimpArgs false
set_option linter.unusedVariables false

set_option maxRecDepth 100000 in
set_option maxHeartbeats 2000000 in
theorem answer_p2 {B : Nat} (w : World) (b pb pc : Nat) (ov : Value) (T : Tx) (k : Int) (v : ByteArray) (ver : Int) (kv : Value) (hs : v.size ≤ 2000000) (hT : IsTx B w b T pb pc ov) (ht : Gl B w) (hph : T.phase = 2) :
    Calls Tryd.prog 11 #[.pointer (some ⟨b, 0, none⟩), .agg #[.int .i64 k, .string v, .int .i64 ver, kv]] w (TxPost B w b (T.answer k v ver) pb pc ov) := by
  have hb := hT.blk
  have c2 : w.cell? ⟨b, 2, none⟩ = some (.int .i64 2) := by rw [← hph]; exact cell_of hb 2
  have f2 := free_of hb 2
  have Hwf := Lib.hid (answer_wf hT.wf k v ver)
  have Hb := Lib.hid hb
  have HT := Lib.hid hT
  have Hph := Lib.hid hph
  have hlt := lt_of_heap hb
  have hne : b ≠ w.heap.size := by omega
  by_cases hk : k = 1
  · have h0 : (k == 1) = true := by rw [beq_iff_eq]; exact hk
    have hLe : Hid (T.answer k v ver = ({ T with phase := 1, old := T.old ++ [T.num] } : Tx).further 6) := by
      show T.answer k v ver = _
      unfold Tx.answer; rw [if_neg (by omega), if_neg (by omega), if_pos Hph.out, if_pos hk]
    have hol := hT.wf.old.1
    have hlen := hT.wf.len.2
    have hBw := ht.big
    obtain ⟨i0, hi, hz0, hz1, hz2⟩ := info_parts infoInt
    obtain ⟨oa, oc, hov, hoc1, hoc2⟩ := own_shape hT.old
    have Hi := Lib.hid hi
    have Hz0 := Lib.hid hz0
    have Hz1 := Lib.hid hz1
    have Hz2 := Lib.hid hz2
    clear hb hT hph hk hi hz0 hz1 hz2 hov
    go_enter Tryd.func11, Tryd.ntmps11
    go_wp2_with fail
    obtain ⟨wd, hwd⟩ : ∃ wd, wd = (w.setCell ⟨b, 2, none⟩ (.int .i64 1)).alloc (.cells #[.int .i64 k, .string v, .int .i64 ver, kv] 50) := ⟨_, rfl⟩
    have hFd : Fr (Only b) w wd := by rw [hwd]; exact ((Fr.refl _ _).setOnly 2 _).alloc _
    have hBd : wd.heap[b]? = some (.cells #[.int .i64 ({ T with phase := 1 } : Tx).id, .slice (some ⟨pb, 0, none⟩) ({ T with phase := 1 } : Tx).parts.length pc, .int .i64 ({ T with phase := 1 } : Tx).phase, .int .i64 ({ T with phase := 1 } : Tx).at_, ov, .int .i64 ({ T with phase := 1 } : Tx).num, .int .i64 ({ T with phase := 1 } : Tx).hol, .int .i64 ({ T with phase := 1 } : Tx).nxt, .int .i64 ({ T with phase := 1 } : Tx).version, .bool ({ T with phase := 1 } : Tx).will, .int .i64 ({ T with phase := 1 } : Tx).state] 59 (0, 0)) := by
      show At wd b = _
      rw [hwd]; simp [At_set_same, At_alloc, At_iff Hb.out, hlt, upd_cells]
    rw [← hwd]
    clear hwd c2 f2
    have hld : b < wd.heap.size := Nat.lt_of_lt_of_le hlt hFd.size
    have d4 : wd.cell? ⟨b, 4, none⟩ = some ov := cell_of hBd 4
    have d5 : wd.cell? ⟨b, 5, none⟩ = some (.int .i64 T.num) := cell_of hBd 5
    have HBd := Lib.hid hBd
    have hBwd : B ≤ wd.heap.size := Nat.le_trans hBw hFd.size
    have HFd := Lib.hid hFd
    have HOld2 := Lib.hid (hFd.own HT.out.old (fun i hi e => HT.out.dj.2.1 (by rw [hi, e])))
    clear hFd hBd
    go_region_law (first | (guard_target = (if Region.wanted _ _ = true then Oper.wp _ (Oper.mk (some 47) _ _ _ _ _) _ _ _ _ else _); refine step_append_lies _ rfl (.tmp 40) (.tmp 46) 37 rfl B 3 i0 (.int .i64 0) 1 8 Tryd.underlying37 Hi.out Hz0.out Hz1.out Hz2.out rfl (by decide) ov T.old.length (T.old.map (Value.int .i64)) rfl (Fr.own (((Fr.refl Non wd).alloc _).drew) HOld2.out (fun _ _ f => f)) ⟨wd.heap.size, 0, none⟩ 1 1 [.int .i64 T.num] rfl rfl (news_at (by exact heap_alloc_new wd _)) (fun u hu => by simp at hu; subst hu; rfl) (by decide) (by unfold maxLen; omega) (by omega) (by simp; omega) _ rfl ?_; intro g cap w1 hown1 hgrow1 hat1 hlt1; have hF1 : Fr (fun i => ov.ownBlock = some i) wd w1 := (((Fr.refl _ wd).alloc _).drew).grown hgrow1 (fun _ _ e => e); have hB1 := hF1.blk HBd.out (fun e => HT.out.dj.2.1 e); have g4 := cell_of hB1 4; have e4 := free_of hB1 4; simp only [List.getElem?_toArray, List.getElem?_cons_zero, List.getElem?_cons_succ] at g4; have HB1 := Lib.hid hB1; have HF1 := Lib.hid hF1; have Hown1 := Lib.hid hown1; have Hat1 := Lib.hid hat1; clear hown1 hgrow1 hat1 hB1 hF1))
    all_goals
      have hB1 := HB1.out
      have HY4 : Hid ((w1.setCell ⟨b, 4, none⟩ (.slice (some ⟨g, 0, none⟩) (T.old.length + 1) cap)).heap[b]? = some (.cells #[.int .i64 ({ T with phase := 1, old := T.old ++ [T.num] } : Tx).id, .slice (some ⟨pb, 0, none⟩) ({ T with phase := 1, old := T.old ++ [T.num] } : Tx).parts.length pc, .int .i64 ({ T with phase := 1, old := T.old ++ [T.num] } : Tx).phase, .int .i64 ({ T with phase := 1, old := T.old ++ [T.num] } : Tx).at_, (.slice (some ⟨g, 0, none⟩) (T.old.length + 1) cap), .int .i64 ({ T with phase := 1, old := T.old ++ [T.num] } : Tx).num, .int .i64 ({ T with phase := 1, old := T.old ++ [T.num] } : Tx).hol, .int .i64 ({ T with phase := 1, old := T.old ++ [T.num] } : Tx).nxt, .int .i64 ({ T with phase := 1, old := T.old ++ [T.num] } : Tx).version, .bool ({ T with phase := 1, old := T.old ++ [T.num] } : Tx).will, .int .i64 ({ T with phase := 1, old := T.old ++ [T.num] } : Tx).state] 59 (0, 0))) := by
        show At _ b = _
        simp [At_set_same, At_iff hB1, upd_cells]
      clear hB1
      go_wp2_with fail
      refine (further_blk _ b pb pc _ ({ T with phase := 1, old := T.old ++ [T.num] } : Tx) 6 (by exact HY4.out) HT.out.wf.at_ HT.out.wf.len.2).mono ?_
      rintro e w2 ⟨rfl, hf2, hB2⟩
      have Hf2 := Lib.hid hf2
      have HB2 := Lib.hid hB2
      clear hf2 hB2
      go_wp2_with fail
      go_end0
      have hfp := Tx.further_parts ({ T with phase := 1, old := T.old ++ [T.num] } : Tx) 6
      have hfr : Fr (OnlyRow b ov) w w2 := by
        refine ((HFd.out.mono (fun i _ e => Or.inl e)).trans (HF1.out.mono (fun i _ e => Or.inr e))).trans ?_
        exact (((Fr.refl _ _).setOnly 4 _).trans Hf2.out).mono (fun i _ e => Or.inl e)
      have hgb : (Value.slice (some ⟨g, 0, none⟩) (T.old.length + 1) cap).ownBlock = ov.ownBlock ∨ ∃ g', (Value.slice (some ⟨g, 0, none⟩) (T.old.length + 1) cap).ownBlock = some g' ∧ w.heap.size ≤ g' := by
        rcases Hat1.out with h | h
        · exact .inl h.symm
        · refine .inr ⟨g, rfl, ?_⟩
          have h1 := HFd.out.size
          rw [h]; simp; omega
      refine ⟨rfl, _, HT.out.grew hfr (ov' := .slice (some ⟨g, 0, none⟩) (T.old.length + 1) cap) (by rw [hLe.out]; exact HB2.out) ?_ (by rw [hLe.out, hfp.1]) Hwf.out hgb, hfr, hgb⟩
      rw [hLe.out, hfp.2]
      have ho := (((Fr.refl (Only b) w1).setOnly 4 (.slice (some ⟨g, 0, none⟩) (T.old.length + 1) cap)).trans Hf2.out).own Hown1.out (fun i hi e => by
        cases hi
        rcases Hat1.out with h | h
        · exact HT.out.dj.2.1 (h.trans (congrArg some e))
        · have h1 := HFd.out.size
          rw [h] at e; simp at e; omega)
      simpa using ho
  · have h0 : (k == 1) = false := by rw [beq_eq_false_iff_ne]; exact hk
    have hLe : Hid (T.answer k v ver = { T with phase := 1 }) := by
      show T.answer k v ver = _
      unfold Tx.answer; rw [if_neg (by omega), if_neg (by omega), if_pos Hph.out, if_neg hk]
    clear hb hT hph hk
    go_enter Tryd.func11, Tryd.ntmps11
    go_wp2
    go_end0
    refine ⟨rfl, ov, HT.out.to (by with_reducible repeat (first | exact Fr.refl _ _ | refine Fr.drew ?_ | refine Fr.drewN ?_ _ | refine Fr.alloc ?_ _ | refine Fr.setOnly ?_ _ _)) ?_ (by rw [hLe.out]) (by rw [hLe.out]) Hwf.out, (Fr.mono (S := Only b) (by with_reducible repeat (first | exact Fr.refl _ _ | refine Fr.drew ?_ | refine Fr.drewN ?_ _ | refine Fr.alloc ?_ _ | refine Fr.setOnly ?_ _ _)) (fun _ _ e => Or.inl e)), .inl rfl⟩
    rw [hLe.out]; show At _ b = _; simp [At_set_same, At_alloc, At_drew, At_drewN, At_iff Hb.out, hlt, upd_cells]

set_option maxRecDepth 100000 in
set_option maxHeartbeats 2000000 in
theorem answer_p8 {B : Nat} (w : World) (b pb pc : Nat) (ov : Value) (T : Tx) (k : Int) (v : ByteArray) (ver : Int) (kv : Value) (hs : v.size ≤ 2000000) (hT : IsTx B w b T pb pc ov) (ht : Gl B w) (hph : T.phase = 8) :
    Calls Tryd.prog 11 #[.pointer (some ⟨b, 0, none⟩), .agg #[.int .i64 k, .string v, .int .i64 ver, kv]] w (TxPost B w b (T.answer k v ver) pb pc ov) := by
  have hb := hT.blk
  have c2 : w.cell? ⟨b, 2, none⟩ = some (.int .i64 8) := by rw [← hph]; exact cell_of hb 2
  have f2 := free_of hb 2
  have Hwf := Lib.hid (answer_wf hT.wf k v ver)
  have Hb := Lib.hid hb
  have HT := Lib.hid hT
  have Hph := Lib.hid hph
  have hlt := lt_of_heap hb
  have hne : b ≠ w.heap.size := by omega
  have c0 : w.cell? ⟨b, 0, none⟩ = some (.int .i64 T.id) := cell_of hb 0
  have c5 : w.cell? ⟨b, 5, none⟩ = some (.int .i64 T.num) := cell_of hb 5
  have c6 : w.cell? ⟨b, 6, none⟩ = some (.int .i64 T.hol) := cell_of hb 6
  have c7 : w.cell? ⟨b, 7, none⟩ = some (.int .i64 T.nxt) := cell_of hb 7
  have c8 : w.cell? ⟨b, 8, none⟩ = some (.int .i64 T.version) := cell_of hb 8
  have hG := ht
  have hEq : Hid (T.answer k v ver = if k ≠ 1 ∨ (readB v).2.1 ≠ T.id then ({ T with num := (readB v).1, hol := (readB v).2.1, nxt := (readB v).2.2, version := ver } : Tx).further 10 else ({ T with num := (readB v).1, hol := (readB v).2.1, nxt := (readB v).2.2, version := ver, phase := 9 } : Tx)) := by
    show T.answer k v ver = _
    unfold Tx.answer; rw [if_neg (by omega), if_neg (by omega), if_neg (by omega), if_neg (by omega), if_neg (by omega), if_neg (by omega), if_pos Hph.out]
  have hB0 : Hid ((w.alloc (.cells #[.int .i64 k, .string v, .int .i64 ver, kv] 50)).heap[b]? = some (.cells #[.int .i64 T.id, .slice (some ⟨pb, 0, none⟩) T.parts.length pc, .int .i64 T.phase, .int .i64 T.at_, ov, .int .i64 T.num, .int .i64 T.hol, .int .i64 T.nxt, .int .i64 T.version, .bool T.will, .int .i64 T.state] 59 (0, 0))) := ((Fr.refl Non w).alloc _).blk hb (fun f => f)
  have Hk : Hid (((k == 1) = true ∧ k = 1) ∨ ((k == 1) = false ∧ k ≠ 1)) := by
    by_cases hk : k = 1
    · exact .inl ⟨by rw [beq_iff_eq]; exact hk, hk⟩
    · exact .inr ⟨by rw [beq_eq_false_iff_ne]; exact hk, hk⟩
  clear hb hT hph
  go_enter Tryd.func11, Tryd.ntmps11
  go_wp2_with fail
  obtain ⟨W, hW⟩ : ∃ W, W = w.alloc (.cells #[.int .i64 k, .string v, .int .i64 ver, kv] 50) := ⟨_, rfl⟩
  have hF0 : Fr Non w W := by rw [hW]; exact (Fr.refl _ _).alloc _
  have hX0 : W.heap[w.heap.size]? = some (.cells #[.int .i64 k, .string v, .int .i64 ver, kv] 50 (0, 0)) := by rw [hW]; exact heap_alloc_new _ _
  rw [← hW] at hB0
  rw [← hW]
  clear hW c0 c2 c5 c6 c7 c8 f2
  have x1 : W.cell? ⟨w.heap.size, 1, none⟩ = some (.string v) := cell_of hX0 1
  have x2 : W.cell? ⟨w.heap.size, 2, none⟩ = some (.int .i64 ver) := cell_of hX0 2
  have hxl := lt_of_heap hX0
  have hGW : Gl B W := hG.non hF0
  have keep : ∀ w', Fr (Only b) W w' → (Fr (Only b) W w' ∧ w'.cell? ⟨w.heap.size, 1, none⟩ = some (.string v) ∧ w'.cell? ⟨w.heap.size, 2, none⟩ = some (.int .i64 ver)) :=
    fun w' hf => ⟨hf, (hf.cell hxl (by simp; omega)).trans x1, (hf.cell hxl (by simp; omega)).trans x2⟩
  have HF0 := Lib.hid hF0
  clear hX0 hF0
  go_region_held3 (fun w' => Fr (Only b) W w' ∧ w'.cell? ⟨w.heap.size, 1, none⟩ = some (.string v) ∧ w'.cell? ⟨w.heap.size, 2, none⟩ = some (.int .i64 ver))
    ((refine keep _ ?_; with_reducible repeat (first | assumption | exact Fr.refl _ _ | apply Fr.drew | apply Fr.setOnly)))
    (first | (go_at_call 27; refine (read_any (B := B) v _ hs (hGW.non (Fr.refl _ _).drew)).mono ?_; rintro e w2 ⟨rfl, hf⟩; have hB2 := (((Fr.refl Non W).drew).trans hf).blk hB0.out (fun h => h); have g5 := cell_of hB2 5; have g6 := cell_of hB2 6; have g7 := cell_of hB2 7; have g8 := cell_of hB2 8; have e5 := free_of hB2 5; have e6 := free_of hB2 6; have e7 := free_of hB2 7; have e8 := free_of hB2 8; have HB2 := Lib.hid hB2; clear hB2; simp only [List.getElem?_toArray, List.getElem?_cons_zero, List.getElem?_cons_succ] at g5 g6 g7 g8; have hF2 : Fr (Only b) W w2 := (((Fr.refl Non W).drew).trans hf).lift; clear hf))
  obtain ⟨w3, hw3⟩ : ∃ w3, w3 = (((w2.setCell ⟨b, 5, none⟩ (.int .i64 (readB v).1)).setCell ⟨b, 6, none⟩ (.int .i64 (readB v).2.1)).setCell ⟨b, 7, none⟩ (.int .i64 (readB v).2.2)).setCell ⟨b, 8, none⟩ (.int .i64 ver) := ⟨_, rfl⟩
  have hB3 : w3.heap[b]? = some (.cells #[.int .i64 ({ T with num := (readB v).1, hol := (readB v).2.1, nxt := (readB v).2.2, version := ver } : Tx).id, .slice (some ⟨pb, 0, none⟩) ({ T with num := (readB v).1, hol := (readB v).2.1, nxt := (readB v).2.2, version := ver } : Tx).parts.length pc, .int .i64 ({ T with num := (readB v).1, hol := (readB v).2.1, nxt := (readB v).2.2, version := ver } : Tx).phase, .int .i64 ({ T with num := (readB v).1, hol := (readB v).2.1, nxt := (readB v).2.2, version := ver } : Tx).at_, ov, .int .i64 ({ T with num := (readB v).1, hol := (readB v).2.1, nxt := (readB v).2.2, version := ver } : Tx).num, .int .i64 ({ T with num := (readB v).1, hol := (readB v).2.1, nxt := (readB v).2.2, version := ver } : Tx).hol, .int .i64 ({ T with num := (readB v).1, hol := (readB v).2.1, nxt := (readB v).2.2, version := ver } : Tx).nxt, .int .i64 ({ T with num := (readB v).1, hol := (readB v).2.1, nxt := (readB v).2.2, version := ver } : Tx).version, .bool ({ T with num := (readB v).1, hol := (readB v).2.1, nxt := (readB v).2.2, version := ver } : Tx).will, .int .i64 ({ T with num := (readB v).1, hol := (readB v).2.1, nxt := (readB v).2.2, version := ver } : Tx).state] 59 (0, 0)) := by
    show At w3 b = _
    rw [hw3]; simp [At_set_same, At_iff HB2.out, upd_cells]
  have hF3 : Fr (Only b) w w3 := by
    rw [hw3]
    refine HF0.out.lift.trans (Fr.trans (by assumption) ?_)
    exact (by with_reducible repeat (first | exact Fr.refl _ _ | refine Fr.drew ?_ | refine Fr.drewN ?_ _ | refine Fr.alloc ?_ _ | refine Fr.setOnly ?_ _ _))
  rw [← hw3]
  have HB3 := Lib.hid hB3
  have HF3 := Lib.hid hF3
  have k0 : w3.cell? ⟨b, 0, none⟩ = some (.int .i64 T.id) := cell_of hB3 0
  have k2 : w3.cell? ⟨b, 2, none⟩ = some (.int .i64 T.phase) := cell_of hB3 2
  have k6 : w3.cell? ⟨b, 6, none⟩ = some (.int .i64 (readB v).2.1) := cell_of hB3 6
  have q2 := free_of hB3 2
  have hlt3 := lt_of_heap hB3
  clear hw3 hB3 hF3
  by_cases hg : k ≠ 1 ∨ (readB v).2.1 ≠ T.id
  · have hLe : Hid (T.answer k v ver = ({ T with num := (readB v).1, hol := (readB v).2.1, nxt := (readB v).2.2, version := ver } : Tx).further 10) := by
      show T.answer k v ver = _
      rw [hEq.out, if_pos hg]
    have hgo : (k == 1) = false ∨ ((k == 1) = true ∧ ((readB v).2.1 != T.id) = true) := by
      rcases Hk.out with ⟨h1, h2⟩ | ⟨h1, h2⟩
      · right
        refine ⟨h1, ?_⟩
        rw [bne_iff_ne]
        exact hg.resolve_left (fun h => h h2)
      · exact .inl h1
    clear hg
    have Hfin : ∀ w4 : World, Hid (Fr (Only b) w3 w4) → Hid (w4.heap[b]? = some (.cells #[.int .i64 (({ T with num := (readB v).1, hol := (readB v).2.1, nxt := (readB v).2.2, version := ver } : Tx).further 10).id, .slice (some ⟨pb, 0, none⟩) (({ T with num := (readB v).1, hol := (readB v).2.1, nxt := (readB v).2.2, version := ver } : Tx).further 10).parts.length pc, .int .i64 (({ T with num := (readB v).1, hol := (readB v).2.1, nxt := (readB v).2.2, version := ver } : Tx).further 10).phase, .int .i64 (({ T with num := (readB v).1, hol := (readB v).2.1, nxt := (readB v).2.2, version := ver } : Tx).further 10).at_, ov, .int .i64 (({ T with num := (readB v).1, hol := (readB v).2.1, nxt := (readB v).2.2, version := ver } : Tx).further 10).num, .int .i64 (({ T with num := (readB v).1, hol := (readB v).2.1, nxt := (readB v).2.2, version := ver } : Tx).further 10).hol, .int .i64 (({ T with num := (readB v).1, hol := (readB v).2.1, nxt := (readB v).2.2, version := ver } : Tx).further 10).nxt, .int .i64 (({ T with num := (readB v).1, hol := (readB v).2.1, nxt := (readB v).2.2, version := ver } : Tx).further 10).version, .bool (({ T with num := (readB v).1, hol := (readB v).2.1, nxt := (readB v).2.2, version := ver } : Tx).further 10).will, .int .i64 (({ T with num := (readB v).1, hol := (readB v).2.1, nxt := (readB v).2.2, version := ver } : Tx).further 10).state] 59 (0, 0))) → TxPost B w b (T.answer k v ver) pb pc ov (.returned (.tuple #[])) w4 := fun w4 h1 h2 => by
      have hfr : Fr (Only b) w w4 := HF3.out.trans h1.out
      have hfp := Tx.further_parts ({ T with num := (readB v).1, hol := (readB v).2.1, nxt := (readB v).2.2, version := ver } : Tx) 10
      exact ⟨rfl, ov, HT.out.to hfr (by rw [hLe.out]; exact h2.out) (by rw [hLe.out]; exact hfp.1) (by rw [hLe.out]; exact hfp.2) Hwf.out, hfr.mono (fun _ _ e => Or.inl e), .inl rfl⟩
    have HFin := Lib.hid Hfin
    clear Hfin
    rcases hgo with hgo | ⟨hgo, hgo2⟩
    all_goals
      go_wp2_with fail
      go_quiet (fail)
      go_wp2_with fail
      generalize hwd : World.drewN _ _ = wd
      have hFd : Fr (Only b) w3 wd := by rw [← hwd]; exact ((Fr.refl _ _).setOnly 2 _).drewN _
      have hBd : (wd.setCell ⟨b, 2, none⟩ (.int .i64 8)).heap[b]? = some (.cells #[.int .i64 ({ T with num := (readB v).1, hol := (readB v).2.1, nxt := (readB v).2.2, version := ver } : Tx).id, .slice (some ⟨pb, 0, none⟩) ({ T with num := (readB v).1, hol := (readB v).2.1, nxt := (readB v).2.2, version := ver } : Tx).parts.length pc, .int .i64 ({ T with num := (readB v).1, hol := (readB v).2.1, nxt := (readB v).2.2, version := ver } : Tx).phase, .int .i64 ({ T with num := (readB v).1, hol := (readB v).2.1, nxt := (readB v).2.2, version := ver } : Tx).at_, ov, .int .i64 ({ T with num := (readB v).1, hol := (readB v).2.1, nxt := (readB v).2.2, version := ver } : Tx).num, .int .i64 ({ T with num := (readB v).1, hol := (readB v).2.1, nxt := (readB v).2.2, version := ver } : Tx).hol, .int .i64 ({ T with num := (readB v).1, hol := (readB v).2.1, nxt := (readB v).2.2, version := ver } : Tx).nxt, .int .i64 ({ T with num := (readB v).1, hol := (readB v).2.1, nxt := (readB v).2.2, version := ver } : Tx).version, .bool ({ T with num := (readB v).1, hol := (readB v).2.1, nxt := (readB v).2.2, version := ver } : Tx).will, .int .i64 ({ T with num := (readB v).1, hol := (readB v).2.1, nxt := (readB v).2.2, version := ver } : Tx).state] 59 (0, 0)) := by
        show At _ b = _
        rw [← hwd]; simp [At_set_same, At_drewN, At_iff HB3.out, upd_cells, Hph.out]
      clear hwd
      refine (further_blk _ b pb pc ov ({ T with num := (readB v).1, hol := (readB v).2.1, nxt := (readB v).2.2, version := ver } : Tx) 10 hBd HT.out.wf.at_ HT.out.wf.len.2).mono ?_
      rintro e w4 ⟨rfl, h1, h2⟩
      have H1 := Lib.hid ((hFd.setOnly 2 _).trans h1)
      have H2 := Lib.hid h2
      clear h1 h2 hFd hBd
      go_wp2_with fail
      go_end0
      exact HFin.out _ H1 H2
  · have hLe : Hid (T.answer k v ver = ({ T with num := (readB v).1, hol := (readB v).2.1, nxt := (readB v).2.2, version := ver, phase := 9 } : Tx)) := by
      show T.answer k v ver = _
      rw [hEq.out, if_neg hg]
    have hgo : (k == 1) = true ∧ ((readB v).2.1 != T.id) = false := by
      rcases Hk.out with ⟨h1, h2⟩ | ⟨h1, h2⟩
      · refine ⟨h1, ?_⟩
        rw [bne_eq_false_iff_eq]
        exact Classical.byContradiction (fun h => hg (.inr h))
      · exact absurd (.inl h2) hg
    obtain ⟨hgo, hgo2⟩ := hgo
    clear hg
    go_wp2_with fail
    go_quiet (fail)
    go_wp2_with fail
    go_end0
    generalize hwd : World.drewN _ _ = wd
    have hFd : Fr (Only b) w3 wd := by rw [← hwd]; exact ((Fr.refl _ _).setOnly 2 _).drewN _
    have hBd : wd.heap[b]? = some (.cells #[.int .i64 ({ T with num := (readB v).1, hol := (readB v).2.1, nxt := (readB v).2.2, version := ver, phase := 9 } : Tx).id, .slice (some ⟨pb, 0, none⟩) ({ T with num := (readB v).1, hol := (readB v).2.1, nxt := (readB v).2.2, version := ver, phase := 9 } : Tx).parts.length pc, .int .i64 ({ T with num := (readB v).1, hol := (readB v).2.1, nxt := (readB v).2.2, version := ver, phase := 9 } : Tx).phase, .int .i64 ({ T with num := (readB v).1, hol := (readB v).2.1, nxt := (readB v).2.2, version := ver, phase := 9 } : Tx).at_, ov, .int .i64 ({ T with num := (readB v).1, hol := (readB v).2.1, nxt := (readB v).2.2, version := ver, phase := 9 } : Tx).num, .int .i64 ({ T with num := (readB v).1, hol := (readB v).2.1, nxt := (readB v).2.2, version := ver, phase := 9 } : Tx).hol, .int .i64 ({ T with num := (readB v).1, hol := (readB v).2.1, nxt := (readB v).2.2, version := ver, phase := 9 } : Tx).nxt, .int .i64 ({ T with num := (readB v).1, hol := (readB v).2.1, nxt := (readB v).2.2, version := ver, phase := 9 } : Tx).version, .bool ({ T with num := (readB v).1, hol := (readB v).2.1, nxt := (readB v).2.2, version := ver, phase := 9 } : Tx).will, .int .i64 ({ T with num := (readB v).1, hol := (readB v).2.1, nxt := (readB v).2.2, version := ver, phase := 9 } : Tx).state] 59 (0, 0)) := by
      show At _ b = _
      rw [← hwd]; simp [At_set_same, At_drewN, At_iff HB3.out, upd_cells]
    have hfr : Fr (Only b) w wd := HF3.out.trans hFd
    exact ⟨rfl, ov, HT.out.to hfr (by rw [hLe.out]; exact hBd) (by rw [hLe.out]) (by rw [hLe.out]) Hwf.out, hfr.mono (fun _ _ e => Or.inl e), .inl rfl⟩

/-- (*Txn).Answer, whatever the phase. -/
theorem answer_any {B : Nat} (w : World) (b pb pc : Nat) (ov : Value) (T : Tx) (k : Int) (v : ByteArray) (ver : Int) (kv : Value) (hs : v.size ≤ 2000000) (hT : IsTx B w b T pb pc ov) (ht : Gl B w) :
    Calls Tryd.prog 11 #[.pointer (some ⟨b, 0, none⟩), .agg #[.int .i64 k, .string v, .int .i64 ver, kv]] w (TxPost B w b (T.answer k v ver) pb pc ov) := by
  have hp := hT.wf.phase
  have h : T.phase = 0 ∨ T.phase = 1 ∨ T.phase = 2 ∨ T.phase = 3 ∨ T.phase = 4 ∨ T.phase = 5 ∨ T.phase = 6 ∨ T.phase = 7 ∨ T.phase = 8 ∨ T.phase = 9 ∨ T.phase = 10 := by omega
  rcases h with h | h | h | h | h | h | h | h | h | h | h
  · exact answer_p0 w b pb pc ov T k v ver kv hs hT ht h
  · exact answer_p1 w b pb pc ov T k v ver kv hs hT ht h
  · exact answer_p2 w b pb pc ov T k v ver kv hs hT ht h
  · exact answer_p3 w b pb pc ov T k v ver kv hs hT ht h
  · exact answer_p4 w b pb pc ov T k v ver kv hs hT ht h
  · exact answer_p5 w b pb pc ov T k v ver kv hs hT ht h
  · exact answer_p6 w b pb pc ov T k v ver kv hs hT ht h
  · exact answer_p7 w b pb pc ov T k v ver kv hs hT ht h
  · exact answer_p8 w b pb pc ov T k v ver kv hs hT ht h
  · exact answer_p9 w b pb pc ov T k v ver kv hs hT ht h
  · exact answer_p10 w b pb pc ov T k v ver kv hs hT ht h
end Go.Proofs.YtbfahkpckhbajaaDoor
