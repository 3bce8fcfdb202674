/- The transaction object of package txn in memory, and what its methods do with it. Conditions: the object is whole (IsTx). -/
import Derived.Test.YtbfahkpckhbajaaDoorQRead
import Derived.StillTailTactics
namespace Go.Proofs.YtbfahkpckhbajaaDoor
open Go.RowKit
set_option linter.unusedSimpArgs false
set_option linter.unusedVariables false

/-- A transaction under way. -/
structure Tx where
  id : Int
  parts : List (ByteArray × Int)
  phase : Int
  at_ : Nat
  old : List Int
  num : Int
  hol : Int
  nxt : Int
  version : Int
  will : Bool
  state : Int

def Tx.part (T : Tx) : ByteArray × Int := T.parts.getD T.at_ (.empty, 0)
def Tx.further (T : Tx) (ph : Int) : Tx := if T.at_ + 1 = T.parts.length then { T with phase := ph, at_ := 0 } else { T with at_ := T.at_ + 1 }
def Tx.looked (T : Tx) (k : Int) (v : ByteArray) (ver : Int) : Tx :=
  let s := if k = 1 then readB v else (0, 0, 0)
  let T1 := { T with num := s.1, hol := s.2.1, nxt := s.2.2, version := if k = 1 then ver else 0 }
  if T1.hol = T1.id then { T1 with old := T1.old ++ [T1.num] }.further 6
  else if T1.hol ≠ 0 then { T1 with phase := 3 }
  else if T1.num + T1.part.2 < 0 ∨ T1.num + T1.part.2 > 999999999 then { T1 with phase := 7 }
  else { T1 with phase := 2 }
def openB : ByteArray := ⟨#[111, 112, 101, 110]⟩
def doneB : ByteArray := ⟨#[100, 111, 110, 101]⟩
def offB : ByteArray := ⟨#[111, 102, 102]⟩
def Tx.asked (T : Tx) (k : Int) (v : ByteArray) (ver : Int) : Tx :=
  if k = 1 ∧ v = openB then { T with phase := 4, version := ver } else { T with phase := 5, will := decide (k = 1 ∧ v = doneB) }
def Tx.answer (T : Tx) (k : Int) (v : ByteArray) (ver : Int) : Tx :=
  if T.phase = 0 then (if k = 1 then { T with phase := 1 } else { T with phase := 10, state := 3 })
  else if T.phase = 1 then T.looked k v ver
  else if T.phase = 2 then (if k = 1 then { T with phase := 1, old := T.old ++ [T.num] }.further 6 else { T with phase := 1 })
  else if T.phase = 3 then T.asked k v ver
  else if T.phase = 4 ∨ T.phase = 5 then { T with phase := 1 }
  else if T.phase = 6 ∨ T.phase = 7 then { T with phase := 8, at_ := 0, will := decide (k = 1 ∧ T.phase = 6), state := if k = 1 ∧ T.phase = 6 then 2 else 3 }
  else if T.phase = 8 then
    let T1 := { T with num := (readB v).1, hol := (readB v).2.1, nxt := (readB v).2.2, version := ver }
    if k ≠ 1 ∨ T1.hol ≠ T1.id then T1.further 10 else { T1 with phase := 9 }
  else if T.phase = 9 then { T with phase := 8 }.further 10
  else T

/-- What holds of a transaction at all times. -/
structure Tx.Wf (T : Tx) : Prop where
  id : 1 ≤ T.id ∧ T.id ≤ 999
  len : 1 ≤ T.parts.length ∧ T.parts.length ≤ 4
  at_ : T.at_ < T.parts.length
  keys : ∀ p, p ∈ T.parts → p.1.size ≤ 15 ∧ -999999999 ≤ p.2 ∧ p.2 ≤ 999999999
  phase : 0 ≤ T.phase ∧ T.phase ≤ 10
  num : 0 ≤ T.num ∧ T.num ≤ 999999999
  hol : 0 ≤ T.hol ∧ T.hol ≤ 999
  nxt : 0 ≤ T.nxt ∧ T.nxt ≤ 999999999
  old : T.old.length ≤ T.parts.length ∧ (T.phase ≤ 5 → T.old.length = T.at_)
  hold : T.phase = 2 → 0 ≤ T.num + T.part.2 ∧ T.num + T.part.2 ≤ 999999999

theorem Tx.Wf.part {T : Tx} (h : T.Wf) : T.part.1.size ≤ 15 ∧ -999999999 ≤ T.part.2 ∧ T.part.2 ≤ 999999999 := by
  have hm : T.part ∈ T.parts := by
    unfold Tx.part
    rw [List.getD_eq_getElem?_getD, List.getElem?_eq_getElem h.at_]
    exact List.getElem_mem _
  exact h.keys _ hm

/-- The transaction T lies in block b of w, its parts in block pb, what its keys held in the row ov. -/
structure IsTx (B : Nat) (w : World) (b : Nat) (T : Tx) (pb pc : Nat) (ov : Value) : Prop where
  blk : w.heap[b]? = some (.cells #[.int .i64 T.id, .slice (some ⟨pb, 0, none⟩) T.parts.length pc, .int .i64 T.phase, .int .i64 T.at_, ov, .int .i64 T.num, .int .i64 T.hol, .int .i64 T.nxt, .int .i64 T.version, .bool T.will, .int .i64 T.state] 59 (0, 0))
  parts : ∀ j, j < T.parts.length → w.cell? ⟨pb, j * 2, none⟩ = some (.string (T.parts.getD j (.empty, 0)).1) ∧ w.cell? ⟨pb, j * 2 + 1, none⟩ = some (.int .i64 (T.parts.getD j (.empty, 0)).2)
  old : w.ownsRow B 3 1 ov T.old.length (T.old.map (Value.int .i64))
  wf : T.Wf
  base : B ≤ b ∧ B ≤ pb ∧ pb < w.heap.size
  dj : pb ≠ b ∧ ov.ownBlock ≠ some b ∧ ov.ownBlock ≠ some pb

theorem IsTx.lt {B : Nat} {w : World} {b : Nat} {T : Tx} {pb pc : Nat} {ov : Value} (h : IsTx B w b T pb pc ov) : b < w.heap.size := lt_of_heap h.blk
/-- It stays while other blocks are written. -/
theorem IsTx.fr {B : Nat} {w w' : World} {b : Nat} {T : Tx} {pb pc : Nat} {ov : Value} {S : Nat → Prop} (h : IsTx B w b T pb pc ov) (hf : Fr S w w')
    (h1 : ¬ S b) (h2 : ¬ S pb) (h3 : ∀ k, ov.ownBlock = some k → ¬ S k) : IsTx B w' b T pb pc ov :=
  ⟨hf.blk h.blk h1, fun j hj => ⟨(hf.cell (p := ⟨pb, j * 2, none⟩) h.base.2.2 h2).trans (h.parts j hj).1, (hf.cell (p := ⟨pb, j * 2 + 1, none⟩) h.base.2.2 h2).trans (h.parts j hj).2⟩,
   hf.own h.old h3, h.wf, ⟨h.base.1, h.base.2.1, Nat.lt_of_lt_of_le h.base.2.2 hf.size⟩, h.dj⟩
theorem IsTx.non {B : Nat} {w w' : World} {b : Nat} {T : Tx} {pb pc : Nat} {ov : Value} (h : IsTx B w b T pb pc ov) (hf : Fr Non w w') : IsTx B w' b T pb pc ov :=
  h.fr hf (fun f => f) (fun f => f) (fun _ _ f => f)
/-- Its own block is written. -/
theorem IsTx.to {B : Nat} {w w' : World} {b : Nat} {T T' : Tx} {pb pc : Nat} {ov : Value} (h : IsTx B w b T pb pc ov) (hf : Fr (Only b) w w')
    (hb : w'.heap[b]? = some (.cells #[.int .i64 T'.id, .slice (some ⟨pb, 0, none⟩) T'.parts.length pc, .int .i64 T'.phase, .int .i64 T'.at_, ov, .int .i64 T'.num, .int .i64 T'.hol, .int .i64 T'.nxt, .int .i64 T'.version, .bool T'.will, .int .i64 T'.state] 59 (0, 0))) (hp : T'.parts = T.parts) (ho : T'.old = T.old) (hw : T'.Wf) : IsTx B w' b T' pb pc ov := by
  refine ⟨hb, fun j hj => ?_, ?_, hw, ⟨h.base.1, h.base.2.1, Nat.lt_of_lt_of_le h.base.2.2 hf.size⟩, h.dj⟩
  · rw [hp] at hj ⊢
    exact ⟨(hf.cell (p := ⟨pb, j * 2, none⟩) h.base.2.2 h.dj.1).trans (h.parts j hj).1, (hf.cell (p := ⟨pb, j * 2 + 1, none⟩) h.base.2.2 h.dj.1).trans (h.parts j hj).2⟩
  · rw [ho]
    exact hf.own h.old (fun k hk e => h.dj.2.1 (by rw [hk, e]))

theorem further_wf {T : Tx} (h : T.Wf) (ph : Int) (hp : 6 ≤ ph ∧ ph ≤ 10) (hT : 6 ≤ T.phase ∨ (T.phase = 1 ∧ T.old.length = T.at_ + 1)) (ho : T.old.length ≤ T.parts.length) : (T.further ph).Wf := by
  unfold Tx.further
  split
  · exact ⟨h.id, h.len, by have := h.len; simp; omega, h.keys, by simp; omega, h.num, h.hol, h.nxt, ⟨ho, by simp; omega⟩, by simp; omega⟩
  · exact ⟨h.id, h.len, by have := h.at_; simp; omega, h.keys, h.phase, h.num, h.hol, h.nxt, ⟨ho, by simp; omega⟩, by simp; omega⟩

/-- what 'further' asks: all of Wf but the length of 'old' -/
theorem Tx.further_parts (T : Tx) (ph : Int) : (T.further ph).parts = T.parts ∧ (T.further ph).old = T.old := by
  unfold Tx.further
  split <;> exact ⟨rfl, rfl⟩

set_option maxHeartbeats 400000 in
/-- (*Txn).further, at the level of the block alone. -/
theorem further_blk (w : World) (b pb pc : Nat) (ov : Value) (T : Tx) (ph : Int) (hb : w.heap[b]? = some (.cells #[.int .i64 T.id, .slice (some ⟨pb, 0, none⟩) T.parts.length pc, .int .i64 T.phase, .int .i64 T.at_, ov, .int .i64 T.num, .int .i64 T.hol, .int .i64 T.nxt, .int .i64 T.version, .bool T.will, .int .i64 T.state] 59 (0, 0))) (h1 : T.at_ < T.parts.length) (h2 : T.parts.length ≤ 4) :
    Calls Tryd.prog 25 #[.pointer (some ⟨b, 0, none⟩), .int .i64 ph] w fun e w' => e = .returned (.tuple #[]) ∧ Fr (Only b) w w' ∧
      w'.heap[b]? = some (.cells #[.int .i64 (T.further ph).id, .slice (some ⟨pb, 0, none⟩) (T.further ph).parts.length pc, .int .i64 (T.further ph).phase, .int .i64 (T.further ph).at_, ov, .int .i64 (T.further ph).num, .int .i64 (T.further ph).hol, .int .i64 (T.further ph).nxt, .int .i64 (T.further ph).version, .bool (T.further ph).will, .int .i64 (T.further ph).state] 59 (0, 0)) := by
  have c1 : w.cell? ⟨b, 1, none⟩ = some (.slice (some ⟨pb, 0, none⟩) T.parts.length pc) := cell_of hb 1
  have c2 : w.cell? ⟨b, 2, none⟩ = some (.int .i64 T.phase) := cell_of hb 2
  have c3 : w.cell? ⟨b, 3, none⟩ = some (.int .i64 T.at_) := cell_of hb 3
  have f2 := free_of hb 2
  have f3 := free_of hb 3

  have Hb := Lib.hid hb
  have hlt := lt_of_heap hb
  by_cases hl : T.at_ + 1 = T.parts.length
  · have hE : Hid (T.further ph = { T with phase := ph, at_ := 0 }) := if_pos hl
    have h3 : (((T.at_ : Nat) : Int) + 1 == ((T.parts.length : Nat) : Int)) = true := by rw [beq_iff_eq]; omega
    clear hb hl
    go_enter Tryd.func25, Tryd.ntmps25
    go_wp2
    go_quiet (fail)
    go_wp2
    go_end0
    refine ⟨rfl, ((((Fr.refl _ _).setCell (by simp) _).drewN _).setCell (by simp) _).setCell (by simp) _, ?_⟩
    exact (by rw [hE.out]; show At _ b = _; simp [At_set_same, At_alloc, At_drew, At_drewN, At_iff Hb.out, hlt, upd_cells])
  · have hE : Hid (T.further ph = { T with at_ := T.at_ + 1 }) := if_neg hl
    have h3 : (((T.at_ : Nat) : Int) + 1 == ((T.parts.length : Nat) : Int)) = false := by rw [beq_eq_false_iff_ne]; omega
    clear hb hl
    go_enter Tryd.func25, Tryd.ntmps25
    go_wp2
    go_quiet (fail)
    go_wp2
    go_end0
    refine ⟨rfl, (((Fr.refl _ _).setCell (by simp) _).drewN _), ?_⟩
    exact (by rw [hE.out]; show At _ b = _; simp [At_set_same, At_alloc, At_drew, At_drewN, At_iff Hb.out, hlt, upd_cells])

theorem beq_bytes (v : ByteArray) (l : List UInt8) : (v.toList == l) = decide (v = ⟨l.toArray⟩) := by
  rw [ByteArray.toList_eq]
  obtain ⟨⟨x⟩⟩ := v
  rw [Bool.eq_iff_iff]
  simp

set_option maxHeartbeats 400000 in
/-- (*Txn).asked, at the level of the block. -/
theorem asked_blk (w : World) (b pb pc : Nat) (ov : Value) (T : Tx) (k : Int) (v : ByteArray) (ver : Int) (kv : Value) (hb : w.heap[b]? = some (.cells #[.int .i64 T.id, .slice (some ⟨pb, 0, none⟩) T.parts.length pc, .int .i64 T.phase, .int .i64 T.at_, ov, .int .i64 T.num, .int .i64 T.hol, .int .i64 T.nxt, .int .i64 T.version, .bool T.will, .int .i64 T.state] 59 (0, 0))) :
    Calls Tryd.prog 26 #[.pointer (some ⟨b, 0, none⟩), .agg #[.int .i64 k, .string v, .int .i64 ver, kv]] w fun e w' => e = .returned (.tuple #[]) ∧ Fr (Only b) w w' ∧
      w'.heap[b]? = some (.cells #[.int .i64 (T.asked k v ver).id, .slice (some ⟨pb, 0, none⟩) (T.asked k v ver).parts.length pc, .int .i64 (T.asked k v ver).phase, .int .i64 (T.asked k v ver).at_, ov, .int .i64 (T.asked k v ver).num, .int .i64 (T.asked k v ver).hol, .int .i64 (T.asked k v ver).nxt, .int .i64 (T.asked k v ver).version, .bool (T.asked k v ver).will, .int .i64 (T.asked k v ver).state] 59 (0, 0)) := by
  have c2 : w.cell? ⟨b, 2, none⟩ = some (.int .i64 T.phase) := cell_of hb 2
  have c8 : w.cell? ⟨b, 8, none⟩ = some (.int .i64 T.version) := cell_of hb 8
  have c9 : w.cell? ⟨b, 9, none⟩ = some (.bool T.will) := cell_of hb 9
  have f2 := free_of hb 2
  have f8 := free_of hb 8
  have f9 := free_of hb 9

  have Hb := Lib.hid hb
  have hlt := lt_of_heap hb
  have hne : b ≠ w.heap.size := by omega
  clear hb
  by_cases hk : k = 1
  · by_cases hv : v = openB
    · have h1 : (v.toList == [111, 112, 101, 110]) = true := by rw [beq_bytes, decide_eq_true_eq]; exact hv
      have h0 : (k == 1) = true := by rw [beq_iff_eq]; exact hk
      have hE : Hid (T.asked k v ver = { T with phase := 4, version := ver }) := if_pos ⟨hk, hv⟩
      clear hv hk
      go_enter Tryd.func26, Tryd.ntmps26
      go_wp2
      go_region
      all_goals go_wp2
      all_goals refine bodyPost_ret (results_none rfl _ _ _) rfl ?_
      all_goals exact ⟨rfl, (by with_reducible repeat (first | exact Fr.refl _ _ | refine Fr.drew ?_ | refine Fr.drewN ?_ _ | refine Fr.alloc ?_ _ | refine Fr.setOnly ?_ _ _)), (by rw [hE.out]; show At _ b = _; simp [At_set_same, At_alloc, At_drew, At_drewN, At_iff Hb.out, hlt, upd_cells])⟩
    · have h1 : (v.toList == [111, 112, 101, 110]) = false := by rw [beq_bytes, decide_eq_false_iff_not]; exact hv
      have h0 : (k == 1) = true := by rw [beq_iff_eq]; exact hk
      have hE : Hid (T.asked k v ver = { T with phase := 5, will := decide (v = doneB) }) := by
        show T.asked k v ver = _
        unfold Tx.asked; rw [if_neg (fun h => hv h.2)]; simp [hk]
      have hd : (v.toList == [100, 111, 110, 101]) = decide (v = doneB) := beq_bytes v _
      generalize decide (v = doneB) = d at hE hd
      clear hv hk
      go_enter Tryd.func26, Tryd.ntmps26
      go_wp2
      go_region
      all_goals go_wp2
      all_goals go_end0
      all_goals exact ⟨rfl, (by with_reducible repeat (first | exact Fr.refl _ _ | refine Fr.drew ?_ | refine Fr.drewN ?_ _ | refine Fr.alloc ?_ _ | refine Fr.setOnly ?_ _ _)), (by rw [hE.out]; show At _ b = _; simp [At_set_same, At_alloc, At_drew, At_drewN, At_iff Hb.out, hlt, upd_cells])⟩
  · have h0 : (k == 1) = false := by rw [beq_eq_false_iff_ne]; exact hk
    have hE : Hid (T.asked k v ver = { T with phase := 5, will := false }) := by
      show T.asked k v ver = _
      unfold Tx.asked; rw [if_neg (fun h => hk h.1)]; simp [hk]
    clear hk
    go_enter Tryd.func26, Tryd.ntmps26
    go_wp2
    go_region
    all_goals go_wp2
    all_goals go_end0
    all_goals exact ⟨rfl, (by with_reducible repeat (first | exact Fr.refl _ _ | refine Fr.drew ?_ | refine Fr.drewN ?_ _ | refine Fr.alloc ?_ _ | refine Fr.setOnly ?_ _ _)), (by rw [hE.out]; show At _ b = _; simp [At_set_same, At_alloc, At_drew, At_drewN, At_iff Hb.out, hlt, upd_cells])⟩

end Go.Proofs.YtbfahkpckhbajaaDoor
