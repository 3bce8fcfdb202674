/- quorateref's (*Txn).Answer: phases hold and look, and all phases together. Conditions: the object is whole, the text read at most 2,000,000 bytes long. -/
import Derived.Test.YtbfahkpckhbajaaDoorQRans
import Derived.Deep.RegionLaw
import Derived.Deep.DeepCutAuto
namespace Go.Proofs.YtbfahkpckhbajaaDoor
open Go.RowKit
set_option linter.unusedSimpArgs false
set_option linter.unusedVariables false

set_option maxRecDepth 100000 in
set_option maxHeartbeats 4000000 in
theorem rans_p2 {B : Nat} (w : World) (b pb pc : Nat) (ov : Value) (T : Tx) (dn : Bool) (k : Int) (v : ByteArray) (ver : Int) (kv : Value) (hs : v.size ≤ 2000000) (hT : IsRx B w b T pb pc ov dn) (hB : B ≤ w.heap.size) (hph : T.phase = 2) :
    Calls Tryd.prog 12 #[.pointer (some ⟨b, 0, none⟩), .agg #[.int .i64 k, .string v, .int .i64 ver, kv]] w (RxPost B w b (T.answer k v ver) pb pc ov) := by
  have hb := hT.word ⟨#[104, 111, 108, 100]⟩ (by rw [hph]; rfl)
  have c2 : w.cell? ⟨b, 2, none⟩ = some (.string ⟨#[104, 111, 108, 100]⟩) := cell_of hb 2
  have f2 := free_of hb 2
  have Hwf := Lib.hid (answer_wf hT.wf k v ver)
  have Hb := Lib.hid hb
  have HT := Lib.hid hT
  have Hph := Lib.hid hph
  have hlt := lt_of_heap hb
  have hne : b ≠ w.heap.size := by omega
  have HL := Lib.hid (And.intro hT.wf.at_ hT.wf.len.2)
  by_cases hk : k = 1
  · have h0 : (k == 1) = true := by rw [beq_iff_eq]; exact hk
    have hLe : Hid (T.answer k v ver = ({ T with phase := 1, old := T.old ++ [T.num] } : Tx).further 6) := by
      show T.answer k v ver = _
      unfold Tx.answer; rw [if_neg (by omega), if_neg (by omega), if_pos Hph.out, if_pos hk]
    have hol := hT.wf.old.1
    have hlen := hT.wf.len.2
    obtain ⟨i0, hi, hz0, hz1, hz2⟩ := info_parts infoInt
    have Hi := Lib.hid hi
    have Hz0 := Lib.hid hz0
    have Hz1 := Lib.hid hz1
    have Hz2 := Lib.hid hz2
    clear hi hz0 hz1 hz2
    clear hb hT hph hk
    go_enter Tryd.func12, Tryd.ntmps12
    go_wp2_with fail
    obtain ⟨wd, hwd⟩ : ∃ wd, wd = (w.setCell ⟨b, 2, none⟩ (.string ⟨#[108, 111, 111, 107]⟩)).alloc (.cells #[.int .i64 k, .string v, .int .i64 ver, kv] 50) := ⟨_, rfl⟩
    have hFd : Fr (Only b) w wd := by rw [hwd]; exact ((Fr.refl _ _).setOnly 2 _).alloc _
    have hBd : wd.heap[b]? = some (.cells #[.int .i64 ({ T with phase := 1 } : Tx).id, .slice (some ⟨pb, 0, none⟩) ({ T with phase := 1 } : Tx).parts.length pc, .string ⟨#[108, 111, 111, 107]⟩, .int .i64 ({ T with phase := 1 } : Tx).at_, ov, .int .i64 ({ T with phase := 1 } : Tx).num, .int .i64 ({ T with phase := 1 } : Tx).hol, .int .i64 ({ T with phase := 1 } : Tx).nxt, .int .i64 ({ T with phase := 1 } : Tx).version, .bool dn, .int .i64 ({ T with phase := 1 } : Tx).state] 45 (0, 0)) := by
      show At wd b = _
      rw [hwd]; simp [At_set_same, At_alloc, At_iff Hb.out, hlt, upd_cells]
    rw [← hwd]
    clear hwd c2 f2
    have hld : b < wd.heap.size := Nat.lt_of_lt_of_le hlt hFd.size
    have d4 : wd.cell? ⟨b, 4, none⟩ = some ov := cell_of hBd 4
    have d5 : wd.cell? ⟨b, 5, none⟩ = some (.int .i64 T.num) := cell_of hBd 5
    have HBd := Lib.hid hBd
    have hBwd : B ≤ wd.heap.size := Nat.le_trans hB hFd.size
    have HFd := Lib.hid hFd
    have HOld2 := Lib.hid (hFd.own HT.out.old (fun i hi e => HT.out.dj.2.1 (by rw [hi, e])))
    clear hFd hBd
    go_region_law (first | (guard_target = (if Region.wanted _ _ = true then Oper.wp _ (Oper.mk (some 126) _ _ _ _ _) _ _ _ _ else _); refine step_append_row rfl _ _ 37 rfl 3 i0 (.int .i64 0) 1 8 wd.heap.size Tryd.underlying37 Hi.out Hz0.out Hz1.out Hz2.out rfl (by decide) (.slice none 0 0) 0 [] rfl ⟨rfl, .inl ⟨rfl, rfl⟩⟩ ov T.old.length (T.old.map (Value.int .i64)) rfl (SrcAt.own (Fr.own (S := Non) (w := wd) (by with_reducible repeat (first | exact Fr.refl _ _ | assumption | refine Fr.drew ?_ | refine Fr.drewN ?_ _ | refine Fr.alloc ?_ _)) HOld2.out (fun _ _ f => f))) (fun u hu => by simp at hu; obtain ⟨y, _, rfl⟩ := hu; rfl) (by unfold maxLen; omega) (by omega) (by simp) ?_; intro v1 w1 hown1 hgrow1 hat1; have hG1 := Fr.grown (S := Non) (Fr.refl _ _) hgrow1 (fun _ _ e => by cases e); have hF1 : Fr Non wd w1 := Fr.trans (b := _) (by with_reducible repeat (first | exact Fr.refl _ _ | assumption | refine Fr.drew ?_ | refine Fr.drewN ?_ _ | refine Fr.alloc ?_ _)) hG1; simp only [Nat.zero_add, List.nil_append] at hown1; have hB1 := hF1.blk HBd.out (fun h => h); have k4 := cell_of hB1 4; have k5 := cell_of hB1 5; have q4 := free_of hB1 4; simp only [List.getElem?_toArray, List.getElem?_cons_zero, List.getElem?_cons_succ] at k4 k5; have hl1 := lt_of_heap hB1; have HF1 := Lib.hid hF1; have HG1 := Lib.hid hG1; have Hown1 := Lib.hid hown1; clear hown1 hgrow1 hat1 hG1 hF1 hB1) | (guard_target = (if Region.wanted _ _ = true then Oper.wp _ (Oper.mk (some 133) _ _ _ _ _) _ _ _ _ else _); first | (refine step_append_row rfl _ _ 37 rfl 3 i0 (.int .i64 0) 1 8 wd.heap.size Tryd.underlying37 Hi.out Hz0.out Hz1.out Hz2.out rfl (by decide) v1 T.old.length (T.old.map (Value.int .i64)) rfl (Fr.own (S := Non) (w := w1) (by with_reducible repeat (first | exact Fr.refl _ _ | assumption | refine Fr.drew ?_ | refine Fr.drewN ?_ _ | refine Fr.alloc ?_ _)) Hown1.out (fun _ _ f => f)) _ 1 [.int .i64 T.num] rfl ⟨rfl, .inr ⟨_, _, rfl, World.news_of_block (HG1.out.blk (by exact heap_alloc_new wd _) (fun f => f))⟩⟩ (fun u hu => by simp at hu; subst hu; rfl) (by unfold maxLen; omega) (by omega) (by have := HF1.out.size; simp; omega) ?_; intro v2 w2 hown2 hgrow2 hat2; obtain ⟨g2, cap2, rfl, hgc, hgm, hgb2, hgl2, hgcell⟩ := own_full hown2 (by omega); clear hgc hgm hgcell; have hF2 : Fr Non wd w2 := Fr.grown (Fr.trans HF1.out (by with_reducible repeat (first | exact Fr.refl _ _ | assumption | refine Fr.drew ?_ | refine Fr.drewN ?_ _ | refine Fr.alloc ?_ _))) hgrow2 (fun k hk e => absurd (own_block_lt Hown1.out e).2 (by omega)); have hB2 := hF2.blk HBd.out (fun h => h); have g4 := cell_of hB2 4; have e4 := free_of hB2 4; simp only [List.getElem?_toArray, List.getElem?_cons_zero, List.getElem?_cons_succ] at g4; have hl2 := lt_of_heap hB2; have HB2 := Lib.hid hB2; have HF2 := Lib.hid hF2; have Hown2 := Lib.hid hown2; clear hown2 hgrow2 hat2 hF2 hB2) | (refine step_append_row rfl _ _ 37 rfl 3 i0 (.int .i64 0) 1 8 wd.heap.size Tryd.underlying37 Hi.out Hz0.out Hz1.out Hz2.out rfl (by decide) v1 T.old.length (T.old.map (Value.int .i64)) rfl (Fr.own (S := Non) (w := w1) (by with_reducible repeat (first | exact Fr.refl _ _ | assumption | refine Fr.drew ?_ | refine Fr.drewN ?_ _ | refine Fr.alloc ?_ _)) Hown1.out (fun _ _ f => f)) _ 1 [.int .i64 T.num] rfl ⟨rfl, .inr ⟨_, _, rfl, World.news_of_block (by exact heap_alloc_new w1 _)⟩⟩ (fun u hu => by simp at hu; subst hu; rfl) (by unfold maxLen; omega) (by omega) (by have := HF1.out.size; simp; omega) ?_; intro v2 w2 hown2 hgrow2 hat2; obtain ⟨g2, cap2, rfl, hgc, hgm, hgb2, hgl2, hgcell⟩ := own_full hown2 (by omega); clear hgc hgm hgcell; have hF2 : Fr Non wd w2 := Fr.grown (Fr.trans HF1.out (by with_reducible repeat (first | exact Fr.refl _ _ | assumption | refine Fr.drew ?_ | refine Fr.drewN ?_ _ | refine Fr.alloc ?_ _))) hgrow2 (fun k hk e => absurd (own_block_lt Hown1.out e).2 (by omega)); have hB2 := hF2.blk HBd.out (fun h => h); have g4 := cell_of hB2 4; have e4 := free_of hB2 4; simp only [List.getElem?_toArray, List.getElem?_cons_zero, List.getElem?_cons_succ] at g4; have hl2 := lt_of_heap hB2; have HB2 := Lib.hid hB2; have HF2 := Lib.hid hF2; have Hown2 := Lib.hid hown2; clear hown2 hgrow2 hat2 hF2 hB2)))
    all_goals
      have HY4 : Hid ((w2.setCell ⟨b, 4, none⟩ (.slice (some ⟨g2, 0, none⟩) (T.old.length + 1) cap2)).heap[b]? = some (.cells #[.int .i64 ({ T with phase := 1, old := T.old ++ [T.num] } : Tx).id, .slice (some ⟨pb, 0, none⟩) ({ T with phase := 1, old := T.old ++ [T.num] } : Tx).parts.length pc, .string ⟨#[108, 111, 111, 107]⟩, .int .i64 ({ T with phase := 1, old := T.old ++ [T.num] } : Tx).at_, (.slice (some ⟨g2, 0, none⟩) (T.old.length + 1) cap2), .int .i64 ({ T with phase := 1, old := T.old ++ [T.num] } : Tx).num, .int .i64 ({ T with phase := 1, old := T.old ++ [T.num] } : Tx).hol, .int .i64 ({ T with phase := 1, old := T.old ++ [T.num] } : Tx).nxt, .int .i64 ({ T with phase := 1, old := T.old ++ [T.num] } : Tx).version, .bool dn, .int .i64 ({ T with phase := 1, old := T.old ++ [T.num] } : Tx).state] 45 (0, 0))) := by
        show At _ b = _
        simp [At_set_same, At_iff HB2.out, upd_cells]
      go_wp2_with fail
      refine (on_blk _ b pb pc (.slice (some ⟨g2, 0, none⟩) (T.old.length + 1) cap2) ({ T with phase := 1, old := T.old ++ [T.num] } : Tx) dn 6 ⟨#[108, 111, 111, 107]⟩ ⟨#[99, 111, 109, 109, 105, 116]⟩ (by show _ = _; first | rfl | exact Hwd.out) rfl (by exact HY4.out) HL.out.1 HL.out.2).mono ?_
      rintro e w3 ⟨rfl, h1, h2⟩
      have H1 := Lib.hid h1
      have H2 := Lib.hid h2
      clear h1 h2
      go_wp2_with fail
      go_end0
      have hfp := Tx.further_parts ({ T with phase := 1, old := T.old ++ [T.num] } : Tx) 6
      have hfr : Fr (Only b) w w3 := ((HFd.out).trans (HF2.out.lift.trans ((Fr.refl _ _).setOnly 4 _))).trans H1.out
      have hwd2 : w.heap.size ≤ wd.heap.size := (HFd.out).size
      have hgb : (Value.slice (some ⟨g2, 0, none⟩) (T.old.length + 1) cap2).ownBlock = ov.ownBlock ∨ ∃ g', (Value.slice (some ⟨g2, 0, none⟩) (T.old.length + 1) cap2).ownBlock = some g' ∧ w.heap.size ≤ g' := .inr ⟨g2, rfl, by omega⟩
      refine ⟨rfl, (.slice (some ⟨g2, 0, none⟩) (T.old.length + 1) cap2), dn, HT.out.grew hfr (by rw [hLe.out]; exact H2.out) ?_ (by rw [hLe.out]; exact hfp.1) Hwf.out (fun h => ?_) hgb, hfr, hgb⟩
      · rw [hLe.out, hfp.2]
        have ho := (((Fr.refl (Only b) w2).setOnly 4 (.slice (some ⟨g2, 0, none⟩) (T.old.length + 1) cap2)).trans H1.out).own (own_mono Hown2.out (show B ≤ wd.heap.size by omega)) (fun i hi e => by
          cases hi
          have := HT.out.lt
          have e' : g2 = b := e
          omega)
        simpa using ho
      · exfalso
        rw [hLe.out] at h
        unfold Tx.further at h
        split at h
        · simp at h
        · simp [Hph.out] at h
  · have h0 : (k == 1) = false := by rw [beq_eq_false_iff_ne]; exact hk
    have hLe : Hid (T.answer k v ver = { T with phase := 1 }) := by
      show T.answer k v ver = _
      unfold Tx.answer; rw [if_neg (by omega), if_neg (by omega), if_pos Hph.out, if_neg hk]
    clear hb hT hph hk
    go_enter Tryd.func12, Tryd.ntmps12
    go_wp2
    go_end0
    exact ⟨rfl, ov, dn, HT.out.to (by with_reducible repeat (first | exact Fr.refl _ _ | refine Fr.drew ?_ | refine Fr.drewN ?_ _ | refine Fr.alloc ?_ _ | refine Fr.setOnly ?_ _ _)) (by rw [hLe.out]; show At _ b = _; simp [At_set_same, At_alloc, At_drew, At_drewN, At_iff Hb.out, hlt, upd_cells, wordOf_1]) (by rw [hLe.out]) (by rw [hLe.out]) Hwf.out (by rw [hLe.out]; simp), (by with_reducible repeat (first | exact Fr.refl _ _ | refine Fr.drew ?_ | refine Fr.drewN ?_ _ | refine Fr.alloc ?_ _ | refine Fr.setOnly ?_ _ _)), .inl rfl⟩

set_option maxRecDepth 100000 in
set_option maxHeartbeats 8000000 in
theorem rans_p1 {B : Nat} (w : World) (b pb pc : Nat) (ov : Value) (T : Tx) (dn : Bool) (k : Int) (v : ByteArray) (ver : Int) (kv : Value) (hs : v.size ≤ 2000000) (hT : IsRx B w b T pb pc ov dn) (hB : B ≤ w.heap.size) (hph : T.phase = 1) :
    Calls Tryd.prog 12 #[.pointer (some ⟨b, 0, none⟩), .agg #[.int .i64 k, .string v, .int .i64 ver, kv]] w (RxPost B w b (T.answer k v ver) pb pc ov) := by
  have hb := hT.word ⟨#[108, 111, 111, 107]⟩ (by rw [hph]; rfl)
  have c2 : w.cell? ⟨b, 2, none⟩ = some (.string ⟨#[108, 111, 111, 107]⟩) := cell_of hb 2
  have f2 := free_of hb 2
  have Hwf := Lib.hid (answer_wf hT.wf k v ver)
  have Hb := Lib.hid hb
  have HT := Lib.hid hT
  have Hph := Lib.hid hph
  have hlt := lt_of_heap hb
  have hne : b ≠ w.heap.size := by omega
  have hLA : T.answer k v ver = T.looked k v ver := by
    unfold Tx.answer; rw [if_neg (by omega), if_pos hph]
  have HLA := Lib.hid hLA
  have Hwd : Hid (wordOf T.phase = ⟨#[108, 111, 111, 107]⟩) := by show _ = _; rw [hph]; rfl
  clear hb hT hph hLA
  go_enter Tryd.func12, Tryd.ntmps12
  go_wp2_with fail
  obtain ⟨W, hW⟩ : ∃ W, W = w.alloc (.cells #[.int .i64 k, .string v, .int .i64 ver, kv] 50) := ⟨_, rfl⟩
  have hF0 : Fr Non w W := by rw [hW]; exact (Fr.refl _ _).alloc _
  have hX0 : W.heap[w.heap.size]? = some (.cells #[.int .i64 k, .string v, .int .i64 ver, kv] 50 (0, 0)) := by rw [hW]; exact heap_alloc_new _ _
  rw [← hW]
  have HX0 := Lib.hid hX0
  have HF0 := Lib.hid hF0
  clear hW hX0 hF0 c2 f2
  refine (heldOf_any ⟨#[]⟩ W (by show 0 ≤ 2000000; omega)).mono ?_
  rintro e w2 ⟨rfl, hf⟩
  rw [held_empty]
  have hX2 := hf.blk HX0.out (fun h => h)
  have hB2 := (HF0.out.trans hf).blk Hb.out (fun h => h)
  have c5 : w2.cell? ⟨b, 5, none⟩ = some (.int .i64 T.num) := cell_of hB2 5
  have c6 : w2.cell? ⟨b, 6, none⟩ = some (.int .i64 T.hol) := cell_of hB2 6
  have c7 : w2.cell? ⟨b, 7, none⟩ = some (.int .i64 T.nxt) := cell_of hB2 7
  have c8 : w2.cell? ⟨b, 8, none⟩ = some (.int .i64 T.version) := cell_of hB2 8
  have f5 := free_of hB2 5
  have f6 := free_of hB2 6
  have f7 := free_of hB2 7
  have f8 := free_of hB2 8
  have hl2 := lt_of_heap hB2
  have HB2 := Lib.hid hB2
  have HX2 := Lib.hid hX2
  have HF2 := Lib.hid (HF0.out.trans hf)
  clear hX2 hB2 hf
  go_upto_if 35 with fail
  go_cut [4] (fun v4 wx => Fr (Only b) w wx ∧ Hid (wx.heap[b]? = some (.cells #[.int .i64 (T.saw k v ver).id, .slice (some ⟨pb, 0, none⟩) (T.saw k v ver).parts.length pc, .string ⟨#[108, 111, 111, 107]⟩, .int .i64 (T.saw k v ver).at_, ov, .int .i64 (T.saw k v ver).num, .int .i64 (T.saw k v ver).hol, .int .i64 (T.saw k v ver).nxt, .int .i64 (T.saw k v ver).version, .bool dn, .int .i64 (T.saw k v ver).state] 45 (0, 0))))
  case first =>
    obtain ⟨w3, hw3⟩ : ∃ w3, w3 = (((w2.setCell ⟨b, 5, none⟩ (.int .i64 0)).setCell ⟨b, 6, none⟩ (.int .i64 0)).setCell ⟨b, 7, none⟩ (.int .i64 0)).setCell ⟨b, 8, none⟩ (.int .i64 0) := ⟨_, rfl⟩
    have hB3 : w3.heap[b]? = some (.cells #[.int .i64 ({ T with num := 0, hol := 0, nxt := 0, version := 0 } : Tx).id, .slice (some ⟨pb, 0, none⟩) ({ T with num := 0, hol := 0, nxt := 0, version := 0 } : Tx).parts.length pc, .string ⟨#[108, 111, 111, 107]⟩, .int .i64 ({ T with num := 0, hol := 0, nxt := 0, version := 0 } : Tx).at_, ov, .int .i64 ({ T with num := 0, hol := 0, nxt := 0, version := 0 } : Tx).num, .int .i64 ({ T with num := 0, hol := 0, nxt := 0, version := 0 } : Tx).hol, .int .i64 ({ T with num := 0, hol := 0, nxt := 0, version := 0 } : Tx).nxt, .int .i64 ({ T with num := 0, hol := 0, nxt := 0, version := 0 } : Tx).version, .bool dn, .int .i64 ({ T with num := 0, hol := 0, nxt := 0, version := 0 } : Tx).state] 45 (0, 0)) := by
      show At w3 b = _
      rw [hw3]; simp [At_set_same, At_iff HB2.out, upd_cells]
    have hF3 : Fr (Only b) w w3 := by rw [hw3]; exact HF2.out.lift.trans (by with_reducible repeat (first | exact Fr.refl _ _ | refine Fr.drew ?_ | refine Fr.drewN ?_ _ | refine Fr.alloc ?_ _ | refine Fr.setOnly ?_ _ _))
    have hX3 : w3.heap[w.heap.size]? = some (.cells #[.int .i64 k, .string v, .int .i64 ver, kv] 50 (0, 0)) := by
      rw [hw3]; exact ((by with_reducible repeat (first | exact Fr.refl _ _ | refine Fr.drew ?_ | refine Fr.drewN ?_ _ | refine Fr.alloc ?_ _ | refine Fr.setOnly ?_ _ _)) : Fr (Only b) w2 _).blk HX2.out (fun e => by have e' : w.heap.size = b := e; omega)
    rw [← hw3]
    have HB3 := Lib.hid hB3
    have HF3 := Lib.hid hF3
    have HX3 := Lib.hid hX3
    have x1 : w3.cell? ⟨w.heap.size, 1, none⟩ = some (.string v) := cell_of hX3 1
    clear hw3 hB3 hF3 hX3 c5 c6 c7 c8 f5 f6 f7 f8
    by_cases hk : k = 1
    · have h0 : (k == 1) = true := by rw [beq_iff_eq]; exact hk
      have hE : Hid (T.saw k v ver = ({ T with num := (readB v).1, hol := (readB v).2.1, nxt := (readB v).2.2, version := ver } : Tx)) := by
        show T.saw k v ver = _
        unfold Tx.saw; simp [hk]
      clear hk
      go_wp2_with fail
      refine (heldOf_any v w3 hs).mono ?_
      rintro e w4 ⟨rfl, hf⟩
      rw [held_read]
      have hX4 := hf.blk HX3.out (fun h => h)
      have x2 : w4.cell? ⟨w.heap.size, 2, none⟩ = some (.int .i64 ver) := cell_of hX4 2
      have hB4 := hf.blk HB3.out (fun h => h)
      have c5 : w4.cell? ⟨b, 5, none⟩ = some (.int .i64 ({ T with num := 0, hol := 0, nxt := 0, version := 0 } : Tx).num) := cell_of hB4 5
      have c6 : w4.cell? ⟨b, 6, none⟩ = some (.int .i64 ({ T with num := 0, hol := 0, nxt := 0, version := 0 } : Tx).hol) := cell_of hB4 6
      have c7 : w4.cell? ⟨b, 7, none⟩ = some (.int .i64 ({ T with num := 0, hol := 0, nxt := 0, version := 0 } : Tx).nxt) := cell_of hB4 7
      have c8 : w4.cell? ⟨b, 8, none⟩ = some (.int .i64 ({ T with num := 0, hol := 0, nxt := 0, version := 0 } : Tx).version) := cell_of hB4 8
      have f5 := free_of hB4 5
      have f6 := free_of hB4 6
      have f7 := free_of hB4 7
      have f8 := free_of hB4 8
      have hl4 := lt_of_heap hB4
      have HB4 := Lib.hid hB4
      have HF4 := Lib.hid (HF3.out.trans hf.lift)
      clear hX4 hB4 hf x1
      generalize hr : readB v = r at hE ⊢
      obtain ⟨r0, r1, r2⟩ := r
      clear hr
      go_wp2_with fail
      go_meet
      exact ⟨HF4.out.trans (by with_reducible repeat (first | exact Fr.refl _ _ | refine Fr.drew ?_ | refine Fr.drewN ?_ _ | refine Fr.alloc ?_ _ | refine Fr.setOnly ?_ _ _)), by rw [hE.out]; show At _ b = _; simp [At_set_same, At_iff HB4.out, upd_cells]⟩
    · have h0 : (k == 1) = false := by rw [beq_eq_false_iff_ne]; exact hk
      have hE : Hid (T.saw k v ver = ({ T with num := 0, hol := 0, nxt := 0, version := 0 } : Tx)) := by
        show T.saw k v ver = _
        unfold Tx.saw; simp [hk]
      clear hk
      go_wp2_with fail
      go_meet
      exact ⟨HF3.out, by rw [hE.out]; exact HB3.out⟩
  case rest =>
    obtain ⟨hfx, HBx⟩ := hcut
    have hpp : (T.saw k v ver).parts = T.parts := rfl
    have Hpart := Lib.hid (HT.out.parts T.at_ HT.out.wf.at_)
    have Hfx := Lib.hid hfx
    clear hfx c5 c6 c7 c8 f5 f6 f7 f8
    have hb := HBx.out
    have hlx := lt_of_heap hb
    have c0 : wc.cell? ⟨b, 0, none⟩ = some (.int .i64 (T.saw k v ver).id) := cell_of hb 0
    have c1 : wc.cell? ⟨b, 1, none⟩ = some (.slice (some ⟨pb, 0, none⟩) (T.saw k v ver).parts.length pc) := cell_of hb 1
    have c2 : wc.cell? ⟨b, 2, none⟩ = some (.string ⟨#[108, 111, 111, 107]⟩) := cell_of hb 2
    have c3 : wc.cell? ⟨b, 3, none⟩ = some (.int .i64 (T.saw k v ver).at_) := cell_of hb 3
    have c4 : wc.cell? ⟨b, 4, none⟩ = some (ov) := cell_of hb 4
    have c5 : wc.cell? ⟨b, 5, none⟩ = some (.int .i64 (T.saw k v ver).num) := cell_of hb 5
    have c6 : wc.cell? ⟨b, 6, none⟩ = some (.int .i64 (T.saw k v ver).hol) := cell_of hb 6
    have f2 := free_of hb 2
    clear hb
    have p1 : wc.cell? ⟨pb, T.at_ * 2 + 1, none⟩ = some (.int .i64 T.part.2) := (Hfx.out.cell (p := ⟨pb, T.at_ * 2 + 1, none⟩) HT.out.base.2.2 HT.out.dj.1).trans Hpart.out.2
    have HYw : Hid ((T.saw k v ver).will = T.will ∧ (T.saw k v ver).phase = T.phase) := ⟨rfl, rfl⟩
    generalize hY : T.saw k v ver = Y at *
    have HY := Lib.hid hY
    clear hY
    have Hpp := Lib.hid hpp
    have hat := HT.out.wf.at_
    have hlen := HT.out.wf.len.2
    have hpart := HT.out.wf.part
    have hbase := HT.out.base.2.2
    have hlY : Y.parts.length = T.parts.length := by rw [Hpp.out]
    have haY : Y.at_ = T.at_ := by rw [← HY.out]; rfl
    have hn : 0 ≤ Y.num ∧ Y.num ≤ 999999999 := by rw [← HY.out]; exact saw_num T k v ver
    have hq1 : (0 : Int) ≤ ((T.at_ : Nat) : Int) := by omega
    have hq2 : ((T.at_ : Nat) : Int) < ((T.parts.length : Nat) : Int) := by omega
    have HL : Hid (Y.at_ < Y.parts.length ∧ Y.parts.length ≤ 4) := ⟨by rw [hlY, haY]; exact hat, by rw [hlY]; exact hlen⟩
    rw [hlY] at c1
    rw [haY] at c3
    generalize hz : T.part.2 = z at *
    have Hz := Lib.hid hz
    clear hz hlY haY hpp
    obtain ⟨hn1, hn2⟩ := hn
    obtain ⟨hp1, hp2, hp3⟩ := hpart
    by_cases h1 : Y.hol = Y.id
    · have h1' : (Y.hol == Y.id) = true := by rw [beq_iff_eq]; exact h1
      have H1a := Lib.hid h1
      clear h1
      have hLe : Hid (T.answer k v ver = ({ Y with old := T.old ++ [Y.num] } : Tx).further 6) := by
        show _ = _
        rw [HLA.out, Tx.looked_eq, HY.out, if_pos H1a.out]
      have hOld : wc.ownsRow B 3 1 ov T.old.length (T.old.map (Value.int .i64)) := Hfx.out.own HT.out.old (fun i hi e => HT.out.dj.2.1 (by rw [hi, e]))
      have HOld := Lib.hid hOld
      have hol := HT.out.wf.old.1
      have hBw : B ≤ wc.heap.size := Nat.le_trans hB Hfx.out.size
      clear hOld
      obtain ⟨i0, hi, hz0, hz1, hz2⟩ := info_parts infoInt
      have Hi := Lib.hid hi
      have Hz0 := Lib.hid hz0
      have Hz1 := Lib.hid hz1
      have Hz2 := Lib.hid hz2
      clear hi hz0 hz1 hz2
      go_wp2_with fail
      go_quiet (fail)
      go_wp2_with fail
      go_quiet (fail)
      go_wp2_with fail
      generalize hwd : World.drewN _ _ = wd
      have hFd : Fr Non wc wd := by rw [← hwd]; repeat (first | exact Fr.refl _ _ | refine Fr.drewN ?_ _)
      have hld : b < wd.heap.size := Nat.lt_of_lt_of_le hlx hFd.size
      have hBd := hFd.blk HBx.out (fun h => h)
      have d4 := cell_of hBd 4
      have d5 := cell_of hBd 5
      simp only [List.getElem?_toArray, List.getElem?_cons_zero, List.getElem?_cons_succ] at d4 d5
      have HBd := Lib.hid hBd
      have hBwd : B ≤ wd.heap.size := Nat.le_trans hBw hFd.size
      have HOld2 := Lib.hid (hFd.own HOld.out (fun _ _ f => f))
      have HFd : Hid (Fr (Only b) w wd) := Hfx.out.trans hFd.lift
      clear hwd hFd hBd c0 c1 c2 c3 c4 c5 c6 f2 p1
      go_region_law (first | (guard_target = (if Region.wanted _ _ = true then Oper.wp _ (Oper.mk (some 83) _ _ _ _ _) _ _ _ _ else _); refine step_append_row rfl _ _ 37 rfl 3 i0 (.int .i64 0) 1 8 wd.heap.size Tryd.underlying37 Hi.out Hz0.out Hz1.out Hz2.out rfl (by decide) (.slice none 0 0) 0 [] rfl ⟨rfl, .inl ⟨rfl, rfl⟩⟩ ov T.old.length (T.old.map (Value.int .i64)) rfl (SrcAt.own (Fr.own (S := Non) (w := wd) (by with_reducible repeat (first | exact Fr.refl _ _ | assumption | refine Fr.drew ?_ | refine Fr.drewN ?_ _ | refine Fr.alloc ?_ _)) HOld2.out (fun _ _ f => f))) (fun u hu => by simp at hu; obtain ⟨y, _, rfl⟩ := hu; rfl) (by unfold maxLen; omega) (by omega) (by simp) ?_; intro v1 w1 hown1 hgrow1 hat1; have hG1 := Fr.grown (S := Non) (Fr.refl _ _) hgrow1 (fun _ _ e => by cases e); have hF1 : Fr Non wd w1 := Fr.trans (b := _) (by with_reducible repeat (first | exact Fr.refl _ _ | assumption | refine Fr.drew ?_ | refine Fr.drewN ?_ _ | refine Fr.alloc ?_ _)) hG1; simp only [Nat.zero_add, List.nil_append] at hown1; have hB1 := hF1.blk HBd.out (fun h => h); have k4 := cell_of hB1 4; have k5 := cell_of hB1 5; have q4 := free_of hB1 4; simp only [List.getElem?_toArray, List.getElem?_cons_zero, List.getElem?_cons_succ] at k4 k5; have hl1 := lt_of_heap hB1; have HF1 := Lib.hid hF1; have HG1 := Lib.hid hG1; have Hown1 := Lib.hid hown1; clear hown1 hgrow1 hat1 hG1 hF1 hB1) | (guard_target = (if Region.wanted _ _ = true then Oper.wp _ (Oper.mk (some 90) _ _ _ _ _) _ _ _ _ else _); first | (refine step_append_row rfl _ _ 37 rfl 3 i0 (.int .i64 0) 1 8 wd.heap.size Tryd.underlying37 Hi.out Hz0.out Hz1.out Hz2.out rfl (by decide) v1 T.old.length (T.old.map (Value.int .i64)) rfl (Fr.own (S := Non) (w := w1) (by with_reducible repeat (first | exact Fr.refl _ _ | assumption | refine Fr.drew ?_ | refine Fr.drewN ?_ _ | refine Fr.alloc ?_ _)) Hown1.out (fun _ _ f => f)) _ 1 [.int .i64 Y.num] rfl ⟨rfl, .inr ⟨_, _, rfl, World.news_of_block (HG1.out.blk (by exact heap_alloc_new wd _) (fun f => f))⟩⟩ (fun u hu => by simp at hu; subst hu; rfl) (by unfold maxLen; omega) (by omega) (by have := HF1.out.size; simp; omega) ?_; intro v2 w2 hown2 hgrow2 hat2; obtain ⟨g2, cap2, rfl, hgc, hgm, hgb2, hgl2, hgcell⟩ := own_full hown2 (by omega); clear hgc hgm hgcell; have hF2 : Fr Non wd w2 := Fr.grown (Fr.trans HF1.out (by with_reducible repeat (first | exact Fr.refl _ _ | assumption | refine Fr.drew ?_ | refine Fr.drewN ?_ _ | refine Fr.alloc ?_ _))) hgrow2 (fun k hk e => absurd (own_block_lt Hown1.out e).2 (by omega)); have hB2 := hF2.blk HBd.out (fun h => h); have g4 := cell_of hB2 4; have e4 := free_of hB2 4; simp only [List.getElem?_toArray, List.getElem?_cons_zero, List.getElem?_cons_succ] at g4; have hl2 := lt_of_heap hB2; have HB2 := Lib.hid hB2; have HF2 := Lib.hid hF2; have Hown2 := Lib.hid hown2; clear hown2 hgrow2 hat2 hF2 hB2) | (refine step_append_row rfl _ _ 37 rfl 3 i0 (.int .i64 0) 1 8 wd.heap.size Tryd.underlying37 Hi.out Hz0.out Hz1.out Hz2.out rfl (by decide) v1 T.old.length (T.old.map (Value.int .i64)) rfl (Fr.own (S := Non) (w := w1) (by with_reducible repeat (first | exact Fr.refl _ _ | assumption | refine Fr.drew ?_ | refine Fr.drewN ?_ _ | refine Fr.alloc ?_ _)) Hown1.out (fun _ _ f => f)) _ 1 [.int .i64 Y.num] rfl ⟨rfl, .inr ⟨_, _, rfl, World.news_of_block (by exact heap_alloc_new w1 _)⟩⟩ (fun u hu => by simp at hu; subst hu; rfl) (by unfold maxLen; omega) (by omega) (by have := HF1.out.size; simp; omega) ?_; intro v2 w2 hown2 hgrow2 hat2; obtain ⟨g2, cap2, rfl, hgc, hgm, hgb2, hgl2, hgcell⟩ := own_full hown2 (by omega); clear hgc hgm hgcell; have hF2 : Fr Non wd w2 := Fr.grown (Fr.trans HF1.out (by with_reducible repeat (first | exact Fr.refl _ _ | assumption | refine Fr.drew ?_ | refine Fr.drewN ?_ _ | refine Fr.alloc ?_ _))) hgrow2 (fun k hk e => absurd (own_block_lt Hown1.out e).2 (by omega)); have hB2 := hF2.blk HBd.out (fun h => h); have g4 := cell_of hB2 4; have e4 := free_of hB2 4; simp only [List.getElem?_toArray, List.getElem?_cons_zero, List.getElem?_cons_succ] at g4; have hl2 := lt_of_heap hB2; have HB2 := Lib.hid hB2; have HF2 := Lib.hid hF2; have Hown2 := Lib.hid hown2; clear hown2 hgrow2 hat2 hF2 hB2)))
      all_goals
        have HY4 : Hid ((w2.setCell ⟨b, 4, none⟩ (.slice (some ⟨g2, 0, none⟩) (T.old.length + 1) cap2)).heap[b]? = some (.cells #[.int .i64 ({ Y with old := T.old ++ [Y.num] } : Tx).id, .slice (some ⟨pb, 0, none⟩) ({ Y with old := T.old ++ [Y.num] } : Tx).parts.length pc, .string ⟨#[108, 111, 111, 107]⟩, .int .i64 ({ Y with old := T.old ++ [Y.num] } : Tx).at_, (.slice (some ⟨g2, 0, none⟩) (T.old.length + 1) cap2), .int .i64 ({ Y with old := T.old ++ [Y.num] } : Tx).num, .int .i64 ({ Y with old := T.old ++ [Y.num] } : Tx).hol, .int .i64 ({ Y with old := T.old ++ [Y.num] } : Tx).nxt, .int .i64 ({ Y with old := T.old ++ [Y.num] } : Tx).version, .bool dn, .int .i64 ({ Y with old := T.old ++ [Y.num] } : Tx).state] 45 (0, 0))) := by
          show At _ b = _
          simp [At_set_same, At_iff HB2.out, upd_cells]
        go_wp2_with fail
        refine (on_blk _ b pb pc (.slice (some ⟨g2, 0, none⟩) (T.old.length + 1) cap2) ({ Y with old := T.old ++ [Y.num] } : Tx) dn 6 ⟨#[108, 111, 111, 107]⟩ ⟨#[99, 111, 109, 109, 105, 116]⟩ (by show _ = _; first | rfl | exact HYw.out.2 ▸ Hwd.out) rfl (by exact HY4.out) HL.out.1 HL.out.2).mono ?_
        rintro e w3 ⟨rfl, h1, h2⟩
        have H1 := Lib.hid h1
        have H2 := Lib.hid h2
        clear h1 h2
        go_wp2_with fail
        go_end0
        have hfp := Tx.further_parts ({ Y with old := T.old ++ [Y.num] } : Tx) 6
        have hfr : Fr (Only b) w w3 := ((HFd.out).trans (HF2.out.lift.trans ((Fr.refl _ _).setOnly 4 _))).trans H1.out
        have hwd2 : w.heap.size ≤ wd.heap.size := (HFd.out).size
        have hgb : (Value.slice (some ⟨g2, 0, none⟩) (T.old.length + 1) cap2).ownBlock = ov.ownBlock ∨ ∃ g', (Value.slice (some ⟨g2, 0, none⟩) (T.old.length + 1) cap2).ownBlock = some g' ∧ w.heap.size ≤ g' := .inr ⟨g2, rfl, by omega⟩
        refine ⟨rfl, (.slice (some ⟨g2, 0, none⟩) (T.old.length + 1) cap2), dn, HT.out.grew hfr (by rw [hLe.out]; exact H2.out) ?_ (by rw [hLe.out]; exact hfp.1.trans Hpp.out) Hwf.out (fun h => ?_) hgb, hfr, hgb⟩
        · rw [hLe.out, hfp.2]
          have ho := (((Fr.refl (Only b) w2).setOnly 4 (.slice (some ⟨g2, 0, none⟩) (T.old.length + 1) cap2)).trans H1.out).own (own_mono Hown2.out (show B ≤ wd.heap.size by omega)) (fun i hi e => by
            cases hi
            have := HT.out.lt
            have e' : g2 = b := e
            omega)
          simpa using ho
        · exfalso
          rw [hLe.out] at h
          unfold Tx.further at h
          split at h
          · simp at h
          · simp [HYw.out.2, Hph.out] at h
    · have h1' : (Y.hol == Y.id) = false := by rw [beq_eq_false_iff_ne]; exact h1
      have H1 := Lib.hid h1
      clear h1
      by_cases h2 : Y.hol = 0
      · have h2' : (Y.hol != 0) = false := by simp [h2]
        have H2 := Lib.hid h2
        clear h2
        by_cases h3 : Y.num + z < 0 ∨ Y.num + z > 999999999
        · have H3 := Lib.hid h3
          go_wp2_with fail
          go_quiet (fail)
          go_wp2_with fail
          go_quiet (fail)
          rcases H3.out with h3 | h3
          all_goals
            go_wp2_with fail
            go_end0
            have hLe : Hid (T.answer k v ver = { Y with phase := 7 }) := by
              show _ = _
              rw [HLA.out, Tx.looked_eq, HY.out, if_neg H1.out, if_neg (fun h => h H2.out), if_pos (by rw [Hz.out]; exact H3.out)]
            generalize hwd : World.drewN _ _ = wd
            have hFd : Fr Non wc wd := by rw [← hwd]; repeat (first | exact Fr.refl _ _ | refine Fr.drewN ?_ _)
            have hBd := hFd.blk HBx.out (fun h => h)
            have hfr : Fr (Only b) w (wd.setCell ⟨b, 2, none⟩ (.string ⟨#[97, 98, 111, 114, 116]⟩)) := (Hfx.out.trans hFd.lift).setOnly 2 _
            exact ⟨rfl, ov, dn, HT.out.to hfr (by rw [hLe.out]; show At _ b = _; simp [At_set_same, At_iff hBd, upd_cells, wordOf_7]) (by rw [hLe.out]; exact Hpp.out) (by rw [hLe.out, ← HY.out]; rfl) Hwf.out (by rw [hLe.out]; simp), hfr, .inl rfl⟩
        · have H3 := Lib.hid h3
          have h31 : ¬ (Y.num + z < 0) := fun h => h3 (Or.inl h)
          have h32 : ¬ (Y.num + z > 999999999) := fun h => h3 (Or.inr h)
          clear h3
          go_wp2_with fail
          go_quiet (fail)
          go_wp2_with fail
          go_quiet (fail)
          go_wp2_with fail
          go_end0
          have hLe : Hid (T.answer k v ver = { Y with phase := 2 }) := by
            show _ = _
            rw [HLA.out, Tx.looked_eq, HY.out, if_neg H1.out, if_neg (fun h => h H2.out), if_neg (by rw [Hz.out]; exact H3.out)]
          generalize hwd : World.drewN _ _ = wd
          have hFd : Fr Non wc wd := by rw [← hwd]; repeat (first | exact Fr.refl _ _ | refine Fr.drewN ?_ _)
          have hBd := hFd.blk HBx.out (fun h => h)
          have hfr : Fr (Only b) w (wd.setCell ⟨b, 2, none⟩ (.string ⟨#[104, 111, 108, 100]⟩)) := (Hfx.out.trans hFd.lift).setOnly 2 _
          exact ⟨rfl, ov, dn, HT.out.to hfr (by rw [hLe.out]; show At _ b = _; simp [At_set_same, At_iff hBd, upd_cells, wordOf_2]) (by rw [hLe.out]; exact Hpp.out) (by rw [hLe.out, ← HY.out]; rfl) Hwf.out (by rw [hLe.out]; simp), hfr, .inl rfl⟩
      · have h2' : (Y.hol != 0) = true := by simp [h2]
        have H2 := Lib.hid h2
        clear h2
        · go_wp2_with fail
          go_quiet (fail)
          go_wp2_with fail
          go_quiet (fail)
          go_wp2_with fail
          go_end0
          have hLe : Hid (T.answer k v ver = { Y with phase := 3 }) := by
            show _ = _
            rw [HLA.out, Tx.looked_eq, HY.out, if_neg H1.out, if_pos H2.out]
          generalize hwd : World.drewN _ _ = wd
          have hFd : Fr Non wc wd := by rw [← hwd]; repeat (first | exact Fr.refl _ _ | refine Fr.drewN ?_ _)
          have hBd := hFd.blk HBx.out (fun h => h)
          have hfr : Fr (Only b) w (wd.setCell ⟨b, 2, none⟩ (.string ⟨#[97, 115, 107]⟩)) := (Hfx.out.trans hFd.lift).setOnly 2 _
          exact ⟨rfl, ov, dn, HT.out.to hfr (by rw [hLe.out]; show At _ b = _; simp [At_set_same, At_iff hBd, upd_cells, wordOf_3]) (by rw [hLe.out]; exact Hpp.out) (by rw [hLe.out, ← HY.out]; rfl) Hwf.out (by rw [hLe.out]; simp), hfr, .inl rfl⟩

/-- quorateref's (*Txn).Answer, whatever the phase. -/
theorem rans_any {B : Nat} (w : World) (b pb pc : Nat) (ov : Value) (T : Tx) (dn : Bool) (k : Int) (v : ByteArray) (ver : Int) (kv : Value) (hs : v.size ≤ 2000000) (hT : IsRx B w b T pb pc ov dn) (hB : B ≤ w.heap.size) :
    Calls Tryd.prog 12 #[.pointer (some ⟨b, 0, none⟩), .agg #[.int .i64 k, .string v, .int .i64 ver, kv]] w (RxPost B w b (T.answer k v ver) pb pc ov) := by
  have hp := hT.wf.phase
  have h : T.phase = 0 ∨ T.phase = 1 ∨ T.phase = 2 ∨ T.phase = 3 ∨ T.phase = 4 ∨ T.phase = 5 ∨ T.phase = 6 ∨ T.phase = 7 ∨ T.phase = 8 ∨ T.phase = 9 ∨ T.phase = 10 := by omega
  rcases h with h | h | h | h | h | h | h | h | h | h | h
  · exact rans_p0 w b pb pc ov T dn k v ver kv hs hT hB h
  · exact rans_p1 w b pb pc ov T dn k v ver kv hs hT hB h
  · exact rans_p2 w b pb pc ov T dn k v ver kv hs hT hB h
  · exact rans_p3 w b pb pc ov T dn k v ver kv hs hT hB h
  · exact rans_p4 w b pb pc ov T dn k v ver kv hs hT hB h
  · exact rans_p5 w b pb pc ov T dn k v ver kv hs hT hB h
  · exact rans_p6 w b pb pc ov T dn k v ver kv hs hT hB h
  · exact rans_p7 w b pb pc ov T dn k v ver kv hs hT hB h
  · exact rans_p8 w b pb pc ov T dn k v ver kv hs hT hB h
  · exact rans_p9 w b pb pc ov T dn k v ver kv hs hT hB h
  · exact rans_p10 w b pb pc ov T dn k v ver kv hs hT hB h
end Go.Proofs.YtbfahkpckhbajaaDoor
