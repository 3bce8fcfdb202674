/- (*Txn).looked: what the transaction does with a key that was read. Conditions: the object is whole, the text read at most 2,000,000 bytes long. -/
import Derived.Test.YtbfahkpckhbajaaDoorQTxn
import Derived.Deep.RegionLaw
import Derived.Deep.AppendLies
import Derived.Deep.DeepCutAuto
namespace Go.Proofs.YtbfahkpckhbajaaDoor
open Go.RowKit
set_option linter.unusedSimpArgs false

def TxPost (B : Nat) (w : World) (b : Nat) (T' : Tx) (pb pc : Nat) (ov : Value) (e : Ending) (w' : World) : Prop :=
  e = .returned (.tuple #[]) ∧ ∃ ov', IsTx B w' b T' pb pc ov' ∧ Fr (OnlyRow b ov) w w' ∧ (ov'.ownBlock = ov.ownBlock ∨ ∃ g, ov'.ownBlock = some g ∧ w.heap.size ≤ g)
/-- what 'looked' has first: what was read -/
def Tx.saw (T : Tx) (k : Int) (v : ByteArray) (ver : Int) : Tx :=
  let s := if k = 1 then readB v else (0, 0, 0)
  { T with num := s.1, hol := s.2.1, nxt := s.2.2, version := if k = 1 then ver else 0 }

theorem news_at {W : World} {b : Nat} {v : Value} {t : TypeId} (h : W.heap[b]? = some (.cells #[v] t (0, 0))) : ∀ j u, [v][j]? = some u → W.cell? ((⟨b, 0, none⟩ : Addr).add j) = some u := by
  intro j u hu
  cases j with
  | zero => simp at hu; subst hu; exact cell_of h 0
  | succ j => simp at hu
theorem numB_le (s : ByteArray) (m : Int) (h : (numB s m).2 = true) : 0 ≤ (numB s m).1 ∧ (numB s m).1 ≤ m := by
  unfold numB at *
  simp at h
  exact ⟨h.1.1.2, h.1.2⟩
theorem rd_bd (xs : List ByteArray) : ∀ k, (rd xs k).2.2.2 = true → (0 ≤ (rd xs k).1 ∧ (rd xs k).1 ≤ 999999999) ∧ (0 ≤ (rd xs k).2.1 ∧ (rd xs k).2.1 ≤ 999) ∧ (0 ≤ (rd xs k).2.2.1 ∧ (rd xs k).2.2.1 ≤ 999999999)
  | 0, _ => by simp [rd]
  | k + 1, h => by
    by_cases hg : k < xs.length ∧ (rd xs k).2.2.2 = true
    · have ih := rd_bd xs k hg.2
      rw [rd_go hg.1 hg.2] at h ⊢
      simp only at h ⊢
      have := numB_le _ _ h
      have h2 : (if k = 1 then (999 : Int) else 999999999) ≤ 999999999 := by split <;> omega
      refine ⟨?_, ?_, ?_⟩
      · split
        · exact ⟨this.1, Int.le_trans this.2 h2⟩
        · exact ih.1
      · split
        · rename_i e; rw [if_pos e] at this; simpa using this
        · exact ih.2.1
      · split
        · exact ⟨this.1, Int.le_trans this.2 h2⟩
        · exact ih.2.2
    · rw [rd_skip hg] at h ⊢
      exact rd_bd xs k h
theorem readB_bd (s : ByteArray) : (0 ≤ (readB s).1 ∧ (readB s).1 ≤ 999999999) ∧ (0 ≤ (readB s).2.1 ∧ (readB s).2.1 ≤ 999) ∧ (0 ≤ (readB s).2.2 ∧ (readB s).2.2 ≤ 999999999) := by
  unfold readB readL
  split
  · rename_i h
    exact rd_bd _ 3 h.1
  · simp
theorem saw_num (T : Tx) (k : Int) (v : ByteArray) (ver : Int) : 0 ≤ (T.saw k v ver).num ∧ (T.saw k v ver).num ≤ 999999999 := by
  unfold Tx.saw
  by_cases h : k = 1
  · simp [h]; exact (readB_bd v).1
  · simp [h]
theorem IsTx.grew {B : Nat} {w w' : World} {b : Nat} {T T' : Tx} {pb pc : Nat} {ov ov' : Value} (h : IsTx B w b T pb pc ov) (hf : Fr (OnlyRow b ov) w w')
    (hb : w'.heap[b]? = some (.cells #[.int .i64 T'.id, .slice (some ⟨pb, 0, none⟩) T'.parts.length pc, .int .i64 T'.phase, .int .i64 T'.at_, ov', .int .i64 T'.num, .int .i64 T'.hol, .int .i64 T'.nxt, .int .i64 T'.version, .bool T'.will, .int .i64 T'.state] 59 (0, 0))) (hown : w'.ownsRow B 3 1 ov' T'.old.length (T'.old.map (Value.int .i64))) (hp : T'.parts = T.parts) (hw : T'.Wf)
    (hg : ov'.ownBlock = ov.ownBlock ∨ ∃ g, ov'.ownBlock = some g ∧ w.heap.size ≤ g) : IsTx B w' b T' pb pc ov' := by
  have hs : ¬ OnlyRow b ov pb := fun e => e.elim h.dj.1 h.dj.2.2
  refine ⟨hb, fun j hj => ?_, hown, hw, ⟨h.base.1, h.base.2.1, Nat.lt_of_lt_of_le h.base.2.2 hf.size⟩, h.dj.1, ?_, ?_⟩
  · rw [hp] at hj ⊢
    exact ⟨(hf.cell (p := ⟨pb, j * 2, none⟩) h.base.2.2 hs).trans (h.parts j hj).1, (hf.cell (p := ⟨pb, j * 2 + 1, none⟩) h.base.2.2 hs).trans (h.parts j hj).2⟩
  · rcases hg with hg | ⟨g, hg, hl⟩
    · rw [hg]; exact h.dj.2.1
    · rw [hg]; intro e; cases e; exact absurd h.lt (by omega)
  · rcases hg with hg | ⟨g, hg, hl⟩
    · rw [hg]; exact h.dj.2.2
    · rw [hg]; intro e; cases e; exact absurd h.base.2.2 (by omega)
theorem Tx.looked_eq (T : Tx) (k : Int) (v : ByteArray) (ver : Int) : T.looked k v ver =
    (if (T.saw k v ver).hol = (T.saw k v ver).id then ({ T.saw k v ver with old := T.old ++ [(T.saw k v ver).num] } : Tx).further 6
     else if (T.saw k v ver).hol ≠ 0 then { T.saw k v ver with phase := 3 }
     else if (T.saw k v ver).num + T.part.2 < 0 ∨ (T.saw k v ver).num + T.part.2 > 999999999 then { T.saw k v ver with phase := 7 }
     else { T.saw k v ver with phase := 2 }) := rfl
theorem looked_wf {T : Tx} (h : T.Wf) (hp : T.phase = 1) (k : Int) (v : ByteArray) (ver : Int) : (T.looked k v ver).Wf := by
  have hb := readB_bd v
  have hs : (T.saw k v ver).Wf ∧ (T.saw k v ver).old = T.old ∧ (T.saw k v ver).at_ = T.at_ ∧ (T.saw k v ver).parts = T.parts ∧ (T.saw k v ver).phase = 1 := by
    refine ⟨⟨h.id, h.len, h.at_, h.keys, h.phase, ?_, ?_, ?_, h.old, ?_⟩, rfl, rfl, rfl, hp⟩
    · unfold Tx.saw; by_cases hk : k = 1 <;> simp [hk]; exact hb.1
    · unfold Tx.saw; by_cases hk : k = 1 <;> simp [hk]; exact hb.2.1
    · unfold Tx.saw; by_cases hk : k = 1 <;> simp [hk]; exact hb.2.2
    · intro e; have : T.phase = 2 := e; omega
  have ho := h.old.2 (by omega)
  have hlen := h.len
  have hat := h.at_
  rw [Tx.looked_eq]
  generalize T.saw k v ver = Y at hs
  obtain ⟨hw, e1, e2, e3, e4⟩ := hs
  have hpt : Y.part = T.part := by unfold Tx.part; rw [e2, e3]
  by_cases h1 : Y.hol = Y.id
  · rw [if_pos h1]
    unfold Tx.further
    by_cases h2 : Y.at_ + 1 = Y.parts.length
    · rw [if_pos h2]
      exact ⟨hw.id, hw.len, by have := hw.len; simp; omega, hw.keys, by simp, hw.num, hw.hol, hw.nxt, ⟨by simp; omega, by simp⟩, by simp⟩
    · rw [if_neg h2]
      exact ⟨hw.id, hw.len, by have := hw.at_; simp; omega, hw.keys, hw.phase, hw.num, hw.hol, hw.nxt, ⟨by rw [e3]; simp; omega, by intro _; rw [e2]; simp; omega⟩, by simp; omega⟩
  · rw [if_neg h1]
    by_cases h2 : Y.hol ≠ 0
    · rw [if_pos h2]
      exact ⟨hw.id, hw.len, hw.at_, hw.keys, by simp, hw.num, hw.hol, hw.nxt, ⟨hw.old.1, fun _ => hw.old.2 (by omega)⟩, by simp⟩
    · rw [if_neg h2]
      by_cases h3 : Y.num + T.part.2 < 0 ∨ Y.num + T.part.2 > 999999999
      · rw [if_pos h3]
        exact ⟨hw.id, hw.len, hw.at_, hw.keys, by simp, hw.num, hw.hol, hw.nxt, ⟨hw.old.1, by simp⟩, by simp⟩
      · rw [if_neg h3]
        refine ⟨hw.id, hw.len, hw.at_, hw.keys, by simp, hw.num, hw.hol, hw.nxt, ⟨hw.old.1, fun _ => hw.old.2 (by omega)⟩, fun _ => ?_⟩
        have : ({ Y with phase := 2 } : Tx).part = Y.part := rfl
        rw [this, hpt]
        show 0 ≤ Y.num + T.part.2 ∧ Y.num + T.part.2 ≤ 999999999
        omega
theorem infoInt : (Tryd.prog.info? 3).map (fun i => (i.zero, i.size, i.bytes)) = some (some (.int .i64 0), 1, 8) := by kernel_rfl
set_option maxRecDepth 100000 in
set_option maxHeartbeats 4000000 in
theorem looked_any {B : Nat} (w : World) (b pb pc : Nat) (ov : Value) (T : Tx) (k : Int) (v : ByteArray) (ver : Int) (kv : Value) (hs : v.size ≤ 2000000) (hT : IsTx B w b T pb pc ov) (hph : T.phase = 1) (ht : Gl B w) :
    Calls Tryd.prog 24 #[.pointer (some ⟨b, 0, none⟩), .agg #[.int .i64 k, .string v, .int .i64 ver, kv]] w (TxPost B w b (T.looked k v ver) pb pc ov) := by
  have hb := hT.blk
  have Hwf := Lib.hid (looked_wf hT.wf hph k v ver)
  clear hph
  have c5 : w.cell? ⟨b, 5, none⟩ = some (.int .i64 T.num) := cell_of hb 5
  have c6 : w.cell? ⟨b, 6, none⟩ = some (.int .i64 T.hol) := cell_of hb 6
  have c7 : w.cell? ⟨b, 7, none⟩ = some (.int .i64 T.nxt) := cell_of hb 7
  have c8 : w.cell? ⟨b, 8, none⟩ = some (.int .i64 T.version) := cell_of hb 8
  have f5 := free_of hb 5
  have f6 := free_of hb 6
  have f7 := free_of hb 7
  have f8 := free_of hb 8

  have Hb := Lib.hid hb
  have HT := Lib.hid hT
  have hlt := lt_of_heap hb
  have hne : b ≠ w.heap.size := by omega
  clear hb hT
  go_enter Tryd.func24, Tryd.ntmps24
  go_upto_if 14 with fail
  go_cut [] (fun wx => Fr (Only b) w wx ∧ Hid (wx.heap[b]? = some (.cells #[.int .i64 (T.saw k v ver).id, .slice (some ⟨pb, 0, none⟩) (T.saw k v ver).parts.length pc, .int .i64 (T.saw k v ver).phase, .int .i64 (T.saw k v ver).at_, ov, .int .i64 (T.saw k v ver).num, .int .i64 (T.saw k v ver).hol, .int .i64 (T.saw k v ver).nxt, .int .i64 (T.saw k v ver).version, .bool (T.saw k v ver).will, .int .i64 (T.saw k v ver).state] 59 (0, 0))))
  case first =>
    by_cases hk : k = 1
    · have h0 : (k == 1) = true := by rw [beq_iff_eq]; exact hk
      have hE : Hid (T.saw k v ver = { T with num := (readB v).1, hol := (readB v).2.1, nxt := (readB v).2.2, version := ver }) := by
        show T.saw k v ver = _
        unfold Tx.saw; simp [hk]
      clear hk
      have hbx0 : (w.alloc (.cells #[.int .i64 k, .string v, .int .i64 ver, kv] 50)).cell? ⟨w.heap.size, 0, none⟩ = some (.int .i64 k) := by simp
      go_wp2_with fail
      obtain ⟨W, hW⟩ : ∃ W, W = (((((w.setCell ⟨b, 5, none⟩ (.int .i64 0)).setCell ⟨b, 6, none⟩ (.int .i64 0)).setCell ⟨b, 7, none⟩ (.int .i64 0)).setCell ⟨b, 8, none⟩ (.int .i64 0)).alloc (.cells #[.int .i64 k, .string v, .int .i64 ver, kv] 50)) := ⟨_, rfl⟩
      have hF0 : Fr (Only b) w W := by rw [hW]; exact (by with_reducible repeat (first | exact Fr.refl _ _ | refine Fr.drew ?_ | refine Fr.drewN ?_ _ | refine Fr.alloc ?_ _ | refine Fr.setOnly ?_ _ _))
      have hB0 : W.heap[b]? = some (.cells #[.int .i64 ({ T with num := 0, hol := 0, nxt := 0, version := 0 } : Tx).id, .slice (some ⟨pb, 0, none⟩) ({ T with num := 0, hol := 0, nxt := 0, version := 0 } : Tx).parts.length pc, .int .i64 ({ T with num := 0, hol := 0, nxt := 0, version := 0 } : Tx).phase, .int .i64 ({ T with num := 0, hol := 0, nxt := 0, version := 0 } : Tx).at_, ov, .int .i64 ({ T with num := 0, hol := 0, nxt := 0, version := 0 } : Tx).num, .int .i64 ({ T with num := 0, hol := 0, nxt := 0, version := 0 } : Tx).hol, .int .i64 ({ T with num := 0, hol := 0, nxt := 0, version := 0 } : Tx).nxt, .int .i64 ({ T with num := 0, hol := 0, nxt := 0, version := 0 } : Tx).version, .bool ({ T with num := 0, hol := 0, nxt := 0, version := 0 } : Tx).will, .int .i64 ({ T with num := 0, hol := 0, nxt := 0, version := 0 } : Tx).state] 59 (0, 0)) := by
        show At W b = _
        rw [hW]; simp [At_set_same, At_alloc, At_drew, At_drewN, At_iff Hb.out, hlt, upd_cells]
      have hX0 : W.heap[w.heap.size]? = some (.cells #[.int .i64 k, .string v, .int .i64 ver, kv] 50 (0, 0)) := by
        rw [hW]; exact heap_alloc_at _ _ _ (by simp [size_setCell])
      rw [← hW]
      have HW := Lib.hid hW
      clear hW c5 c6 c7 c8 f5 f6 f7 f8 hbx0
      have x1 : W.cell? ⟨w.heap.size, 1, none⟩ = some (.string v) := cell_of hX0 1
      have x2 : W.cell? ⟨w.heap.size, 2, none⟩ = some (.int .i64 ver) := cell_of hX0 2
      have hxl := lt_of_heap hX0
      have hG : Gl B W := ht.fr hF0 (fun i hi e => by have := HT.out.base.1; omega)
      have keep : ∀ w', Fr (Only b) W w' → (Fr (Only b) W w' ∧ w'.cell? ⟨w.heap.size, 1, none⟩ = some (.string v) ∧ w'.cell? ⟨w.heap.size, 2, none⟩ = some (.int .i64 ver)) :=
        fun w' hf => ⟨hf, (hf.cell hxl (by simp; omega)).trans x1, (hf.cell hxl (by simp; omega)).trans x2⟩
      have HB0 := Lib.hid hB0
      have HF0 := Lib.hid hF0
      clear hB0 hX0 hF0
      go_region_held3 (fun w' => Fr (Only b) W w' ∧ w'.cell? ⟨w.heap.size, 1, none⟩ = some (.string v) ∧ w'.cell? ⟨w.heap.size, 2, none⟩ = some (.int .i64 ver))
        ((refine keep _ ?_; with_reducible repeat (first | assumption | exact Fr.refl _ _ | apply Fr.drew | apply Fr.setOnly)))
        (first | (go_at_call 27; refine (read_any (B := B) v _ hs (hG.non (Fr.refl _ _).drew)).mono ?_; rintro e w2 ⟨rfl, hf⟩; have hB2 := (((Fr.refl Non W).drew).trans hf).blk HB0.out (fun h => h); have g5 := cell_of hB2 5; have g6 := cell_of hB2 6; have g7 := cell_of hB2 7; have g8 := cell_of hB2 8; have e5 := free_of hB2 5; have e6 := free_of hB2 6; have e7 := free_of hB2 7; have e8 := free_of hB2 8; have HB2 := Lib.hid hB2; clear hB2; simp only [List.getElem?_toArray, List.getElem?_cons_zero, List.getElem?_cons_succ] at g5 g6 g7 g8; have hF2 : Fr (Only b) W w2 := (((Fr.refl Non W).drew).trans hf).lift; clear hf))
      go_wp2_with fail
      go_meet
      exact ⟨HF0.out.trans (by with_reducible repeat (first | assumption | apply Fr.setOnly)), by rw [hE.out]; show At _ b = _; simp [At_set_same, At_iff HB2.out, upd_cells]⟩
    · have h0 : (k == 1) = false := by rw [beq_eq_false_iff_ne]; exact hk
      have hE : Hid (T.saw k v ver = { T with num := 0, hol := 0, nxt := 0, version := 0 }) := by
        show T.saw k v ver = _
        unfold Tx.saw; simp [hk]
      clear hk
      go_wp2_with fail
      go_meet
      exact ⟨(by with_reducible repeat (first | exact Fr.refl _ _ | refine Fr.drew ?_ | refine Fr.drewN ?_ _ | refine Fr.alloc ?_ _ | refine Fr.setOnly ?_ _ _)), (by rw [hE.out]; show At _ b = _; simp [At_set_same, At_alloc, At_drew, At_drewN, At_iff Hb.out, hlt, upd_cells])⟩
  case rest =>
    obtain ⟨hfx, HBx⟩ := hcut
    have hpp : (T.saw k v ver).parts = T.parts := rfl
    have Hpart := Lib.hid (HT.out.parts T.at_ HT.out.wf.at_)
    have Hfx := Lib.hid hfx
    clear hfx c5 c6 c7 c8 f5 f6 f7 f8
    have hb := HBx.out
    have hlx := lt_of_heap hb
    have c0 : wc.cell? ⟨b, 0, none⟩ = some (.int .i64 (T.saw k v ver).id) := cell_of hb 0
    have c1 : wc.cell? ⟨b, 1, none⟩ = some (.slice (some ⟨pb, 0, none⟩) (T.saw k v ver).parts.length pc) := cell_of hb 1
    have c2 : wc.cell? ⟨b, 2, none⟩ = some (.int .i64 (T.saw k v ver).phase) := cell_of hb 2
    have c3 : wc.cell? ⟨b, 3, none⟩ = some (.int .i64 (T.saw k v ver).at_) := cell_of hb 3
    have c4 : wc.cell? ⟨b, 4, none⟩ = some (ov) := cell_of hb 4
    have c5 : wc.cell? ⟨b, 5, none⟩ = some (.int .i64 (T.saw k v ver).num) := cell_of hb 5
    have c6 : wc.cell? ⟨b, 6, none⟩ = some (.int .i64 (T.saw k v ver).hol) := cell_of hb 6
    have f2 := free_of hb 2

    clear hb
    have p1 : wc.cell? ⟨pb, T.at_ * 2 + 1, none⟩ = some (.int .i64 T.part.2) := (Hfx.out.cell (p := ⟨pb, T.at_ * 2 + 1, none⟩) HT.out.base.2.2 HT.out.dj.1).trans Hpart.out.2
    generalize hY : T.saw k v ver = Y at *
    have HY := Lib.hid hY
    clear hY
    have Hpp := Lib.hid hpp
    have hat := HT.out.wf.at_
    have hlen := HT.out.wf.len.2
    have hpart := HT.out.wf.part
    have hbase := HT.out.base.2.2
    have hlY : Y.parts.length = T.parts.length := by rw [Hpp.out]
    have haY : Y.at_ = T.at_ := by rw [← HY.out]; rfl
    have hn : 0 ≤ Y.num ∧ Y.num ≤ 999999999 := by rw [← HY.out]; exact saw_num T k v ver
    have hq1 : (0 : Int) ≤ ((T.at_ : Nat) : Int) := by omega
    have hq2 : ((T.at_ : Nat) : Int) < ((T.parts.length : Nat) : Int) := by omega
    rw [hlY] at c1
    rw [haY] at c3
    generalize hz : T.part.2 = z at *
    have Hz := Lib.hid hz
    clear hz hlY haY hpp
    obtain ⟨hn1, hn2⟩ := hn
    obtain ⟨hp1, hp2, hp3⟩ := hpart
    by_cases h1 : Y.hol = Y.id
    · have h1' : (Y.hol == Y.id) = true := by rw [beq_iff_eq]; exact h1
      have H1 := Lib.hid h1
      clear h1
      obtain ⟨i0, hi, hz0, hz1, hz2⟩ := info_parts infoInt
      have hOld : wc.ownsRow B 3 1 ov T.old.length (T.old.map (Value.int .i64)) := Hfx.out.own HT.out.old (fun i hi e => HT.out.dj.2.1 (by rw [hi, e]))
      have HOld := Lib.hid hOld
      have hol := HT.out.wf.old.1
      have hBw : B ≤ wc.heap.size := Nat.le_trans ht.big Hfx.out.size
      obtain ⟨oa, oc, hov, hoc1, hoc2⟩ := own_shape hOld
      have Hov := Lib.hid hov
      have Hi := Lib.hid hi
      have Hz0 := Lib.hid hz0
      have Hz1 := Lib.hid hz1
      have Hz2 := Lib.hid hz2
      clear hOld hov hi hz0 hz1 hz2
      go_wp2_with fail
      go_quiet (fail)
      go_wp2_with fail
      go_quiet (fail)
      go_wp2_with fail
      generalize hwd : World.drewN _ _ = wd
      have hFd : Fr Non wc wd := by rw [← hwd]; repeat (first | exact Fr.refl _ _ | refine Fr.drewN ?_ _)
      have HFd := Lib.hid hFd
      have hld : b < wd.heap.size := Nat.lt_of_lt_of_le hlx hFd.size
      have hBd := hFd.blk HBx.out (fun h => h)
      have d4 := cell_of hBd 4
      have d5 := cell_of hBd 5
      simp only [List.getElem?_toArray, List.getElem?_cons_zero, List.getElem?_cons_succ] at d4 d5
      have HBd := Lib.hid hBd
      have hBwd : B ≤ wd.heap.size := Nat.le_trans hBw hFd.size
      have HOld2 := Lib.hid (hFd.own HOld.out (fun _ _ f => f))
      clear hwd hFd hBd c0 c1 c2 c3 c4 c5 c6 f2 p1
      go_region_law (first | (guard_target = (if Region.wanted _ _ = true then Oper.wp _ (Oper.mk (some 68) _ _ _ _ _) _ _ _ _ else _); refine step_append_lies _ rfl (.tmp 61) (.tmp 67) 37 rfl B 3 i0 (.int .i64 0) 1 8 Tryd.underlying37 Hi.out Hz0.out Hz1.out Hz2.out rfl (by decide) ov T.old.length (T.old.map (Value.int .i64)) rfl (Fr.own (((Fr.refl Non wd).alloc _).drew) HOld2.out (fun _ _ f => f)) ⟨wd.heap.size, 0, none⟩ 1 1 [.int .i64 Y.num] rfl rfl (news_at (by exact heap_alloc_new wd _)) (fun u hu => by simp at hu; subst hu; rfl) (by decide) (by unfold maxLen; omega) (by omega) (by simp; omega) _ rfl ?_; intro g cap w1 hown1 hgrow1 hat1 hlt1; have hF1 : Fr (fun i => ov.ownBlock = some i) wd w1 := (((Fr.refl _ wd).alloc _).drew).grown hgrow1 (fun _ _ e => e); have hB1 := hF1.blk HBd.out (fun e => HT.out.dj.2.1 e); have g4 := cell_of hB1 4; have e4 := free_of hB1 4; simp only [List.getElem?_toArray, List.getElem?_cons_zero, List.getElem?_cons_succ] at g4; have HB1 := Lib.hid hB1; have HF1 := Lib.hid hF1; have Hown1 := Lib.hid hown1; have Hat1 := Lib.hid hat1; clear hown1 hgrow1 hat1 hB1 hF1))
      all_goals
        have hB1 := HB1.out
        have HY4 : Hid ((w1.setCell ⟨b, 4, none⟩ (.slice (some ⟨g, 0, none⟩) (T.old.length + 1) cap)).heap[b]? = some (.cells #[.int .i64 ({ Y with old := T.old ++ [Y.num] } : Tx).id, .slice (some ⟨pb, 0, none⟩) ({ Y with old := T.old ++ [Y.num] } : Tx).parts.length pc, .int .i64 ({ Y with old := T.old ++ [Y.num] } : Tx).phase, .int .i64 ({ Y with old := T.old ++ [Y.num] } : Tx).at_, (.slice (some ⟨g, 0, none⟩) (T.old.length + 1) cap), .int .i64 ({ Y with old := T.old ++ [Y.num] } : Tx).num, .int .i64 ({ Y with old := T.old ++ [Y.num] } : Tx).hol, .int .i64 ({ Y with old := T.old ++ [Y.num] } : Tx).nxt, .int .i64 ({ Y with old := T.old ++ [Y.num] } : Tx).version, .bool ({ Y with old := T.old ++ [Y.num] } : Tx).will, .int .i64 ({ Y with old := T.old ++ [Y.num] } : Tx).state] 59 (0, 0))) := by
          show At _ b = _
          simp [At_set_same, At_iff hB1, upd_cells]
        clear hB1
        go_wp2_with fail
        refine (further_blk _ b pb pc _ ({ Y with old := T.old ++ [Y.num] } : Tx) 6 (by exact HY4.out) (by show Y.at_ < Y.parts.length; rw [Hpp.out, ← HY.out]; exact hat) (by show Y.parts.length ≤ 4; rw [Hpp.out]; exact hlen)).mono ?_
        rintro e w2 ⟨rfl, hf2, hB2⟩
        have Hf2 := Lib.hid hf2
        have HB2 := Lib.hid hB2
        clear hf2 hB2
        go_wp2_with fail
        go_end0
        have hLe : T.looked k v ver = ({ Y with old := T.old ++ [Y.num] } : Tx).further 6 := by
          rw [Tx.looked_eq, HY.out, if_pos H1.out]
        have hfp := Tx.further_parts ({ Y with old := T.old ++ [Y.num] } : Tx) 6
        have hfr : Fr (OnlyRow b ov) w w2 := by
          refine (((Hfx.out.mono (fun i _ e => Or.inl e)).trans (HFd.out.lift)).trans (HF1.out.mono (fun i _ e => Or.inr e))).trans ?_
          exact (((Fr.refl _ _).setOnly 4 _).trans Hf2.out).mono (fun i _ e => Or.inl e)
        have hgb : (Value.slice (some ⟨g, 0, none⟩) (T.old.length + 1) cap).ownBlock = ov.ownBlock ∨ ∃ g', (Value.slice (some ⟨g, 0, none⟩) (T.old.length + 1) cap).ownBlock = some g' ∧ w.heap.size ≤ g' := by
          rcases Hat1.out with h | h
          · exact .inl h.symm
          · refine .inr ⟨g, rfl, ?_⟩
            have h1 := Hfx.out.size
            have h2 := HFd.out.size
            rw [h]; simp; omega
        refine ⟨rfl, _, HT.out.grew hfr (ov' := .slice (some ⟨g, 0, none⟩) (T.old.length + 1) cap) (by rw [hLe]; exact HB2.out) ?_ (by rw [hLe, hfp.1]; exact Hpp.out) Hwf.out hgb, hfr, hgb⟩
        rw [hLe, hfp.2]
        have ho := (((Fr.refl (Only b) w1).setOnly 4 (.slice (some ⟨g, 0, none⟩) (T.old.length + 1) cap)).trans Hf2.out).own Hown1.out (fun i hi e => by
          cases hi
          rcases Hat1.out with h | h
          · exact HT.out.dj.2.1 (h.trans (congrArg some e))
          · have h1 := Hfx.out.size
            have h2 := HFd.out.size
            have h3 := HT.out.lt
            rw [h] at e; simp at e; omega)
        simpa using ho
    · have h1' : (Y.hol == Y.id) = false := by rw [beq_eq_false_iff_ne]; exact h1
      have H1 := Lib.hid h1
      clear h1
      by_cases h2 : Y.hol = 0
      · have h2' : (Y.hol != 0) = false := by simp [h2]
        have H2 := Lib.hid h2
        clear h2
        by_cases h3 : Y.num + z < 0 ∨ Y.num + z > 999999999
        · have H3 := Lib.hid h3
          go_wp2_with fail
          go_quiet (fail)
          go_wp2_with fail
          go_quiet (fail)
          rcases H3.out with h3 | h3
          all_goals
            go_wp2_with fail
            go_end0
            have hLe : T.looked k v ver = { Y with phase := 7 } := by
              rw [Tx.looked_eq, HY.out, if_neg H1.out, if_neg (fun h => h H2.out), if_pos (by rw [Hz.out]; exact H3.out)]
            generalize hwd : World.drewN _ _ = wd
            have hFd : Fr Non wc wd := by rw [← hwd]; repeat (first | exact Fr.refl _ _ | refine Fr.drewN ?_ _)
            have hBd := hFd.blk HBx.out (fun h => h)
            have hfr : Fr (Only b) w (wd.setCell ⟨b, 2, none⟩ (.int .i64 7)) := (Hfx.out.trans hFd.lift).setOnly 2 _
            refine ⟨rfl, ov, HT.out.to hfr ?_ (by rw [hLe]; exact Hpp.out) (by rw [hLe, ← HY.out]; rfl) Hwf.out, hfr.mono (fun i _ e => Or.inl e), .inl rfl⟩
            rw [hLe]; show At _ b = _; simp [At_set_same, At_iff hBd, upd_cells]
        · have H3 := Lib.hid h3
          have h31 : ¬ (Y.num + z < 0) := fun h => h3 (Or.inl h)
          have h32 : ¬ (Y.num + z > 999999999) := fun h => h3 (Or.inr h)
          clear h3
          go_wp2_with fail
          go_quiet (fail)
          go_wp2_with fail
          go_quiet (fail)
          go_wp2_with fail
          go_end0
          have hLe : T.looked k v ver = { Y with phase := 2 } := by
            rw [Tx.looked_eq, HY.out, if_neg H1.out, if_neg (fun h => h H2.out), if_neg (by rw [Hz.out]; exact H3.out)]
          generalize hwd : World.drewN _ _ = wd
          have hFd : Fr Non wc wd := by rw [← hwd]; repeat (first | exact Fr.refl _ _ | refine Fr.drewN ?_ _)
          have hBd := hFd.blk HBx.out (fun h => h)
          have hfr : Fr (Only b) w (wd.setCell ⟨b, 2, none⟩ (.int .i64 2)) := (Hfx.out.trans hFd.lift).setOnly 2 _
          refine ⟨rfl, ov, HT.out.to hfr ?_ (by rw [hLe]; exact Hpp.out) (by rw [hLe, ← HY.out]; rfl) Hwf.out, hfr.mono (fun i _ e => Or.inl e), .inl rfl⟩
          rw [hLe]; show At _ b = _; simp [At_set_same, At_iff hBd, upd_cells]
      · have h2' : (Y.hol != 0) = true := by simp [h2]
        have H2 := Lib.hid h2
        clear h2
        · go_wp2_with fail
          go_quiet (fail)
          go_wp2_with fail
          go_quiet (fail)
          go_wp2_with fail
          go_end0
          have hLe : T.looked k v ver = { Y with phase := 3 } := by
            rw [Tx.looked_eq, HY.out, if_neg H1.out, if_pos H2.out]
          generalize hwd : World.drewN _ _ = wd
          have hFd : Fr Non wc wd := by rw [← hwd]; repeat (first | exact Fr.refl _ _ | refine Fr.drewN ?_ _)
          have hBd := hFd.blk HBx.out (fun h => h)
          have hfr : Fr (Only b) w (wd.setCell ⟨b, 2, none⟩ (.int .i64 3)) := (Hfx.out.trans hFd.lift).setOnly 2 _
          refine ⟨rfl, ov, HT.out.to hfr ?_ (by rw [hLe]; exact Hpp.out) (by rw [hLe, ← HY.out]; rfl) Hwf.out, hfr.mono (fun i _ e => Or.inl e), .inl rfl⟩
          rw [hLe]; show At _ b = _; simp [At_set_same, At_iff hBd, upd_cells]
end Go.Proofs.YtbfahkpckhbajaaDoor
