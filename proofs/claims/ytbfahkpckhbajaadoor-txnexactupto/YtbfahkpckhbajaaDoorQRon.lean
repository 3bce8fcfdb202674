/- quorateref's transaction object in memory: how it is kept and changed; (*Txn).on. Conditions: the object is whole. -/
import Derived.Test.YtbfahkpckhbajaaDoorQRx
import Derived.Test.YtbfahkpckhbajaaDoorQPlain
import Derived.Test.YtbfahkpckhbajaaDoorQAnswer
import Derived.Test.YtbfahkpckhbajaaDoorQRow
namespace Go.Proofs.YtbfahkpckhbajaaDoor
open Go.RowKit
set_option linter.unusedVariables false
set_option linter.unusedSimpArgs false

theorem wordOf_0 : wordOf 0 = ⟨#[98, 101, 103, 105, 110]⟩ := rfl
theorem wordOf_1 : wordOf 1 = ⟨#[108, 111, 111, 107]⟩ := rfl
theorem wordOf_2 : wordOf 2 = ⟨#[104, 111, 108, 100]⟩ := rfl
theorem wordOf_3 : wordOf 3 = ⟨#[97, 115, 107]⟩ := rfl
theorem wordOf_4 : wordOf 4 = ⟨#[101, 110, 100]⟩ := rfl
theorem wordOf_5 : wordOf 5 = ⟨#[102, 114, 101, 101]⟩ := rfl
theorem wordOf_6 : wordOf 6 = ⟨#[99, 111, 109, 109, 105, 116]⟩ := rfl
theorem wordOf_7 : wordOf 7 = ⟨#[97, 98, 111, 114, 116]⟩ := rfl
theorem wordOf_8 : wordOf 8 = ⟨#[99, 108, 101, 97, 114]⟩ := rfl
theorem wordOf_9 : wordOf 9 = ⟨#[103, 105, 118, 101]⟩ := rfl
theorem wordOf_10 : wordOf 10 = ⟨#[]⟩ := rfl

theorem IsRx.lt {B : Nat} {w : World} {b : Nat} {T : Tx} {pb pc : Nat} {ov : Value} {dn : Bool} (h : IsRx B w b T pb pc ov dn) : b < w.heap.size := lt_of_heap h.blk
theorem IsRx.word {B : Nat} {w : World} {b : Nat} {T : Tx} {pb pc : Nat} {ov : Value} {dn : Bool} (h : IsRx B w b T pb pc ov dn) (wd : ByteArray) (hw : wordOf T.phase = wd) :
    w.heap[b]? = some (.cells #[.int .i64 T.id, .slice (some ⟨pb, 0, none⟩) T.parts.length pc, .string wd, .int .i64 T.at_, ov, .int .i64 T.num, .int .i64 T.hol, .int .i64 T.nxt, .int .i64 T.version, .bool dn, .int .i64 T.state] 45 (0, 0)) := by
  have := h.blk
  unfold rxCells at this
  rw [hw] at this
  exact this
/-- It stays while other blocks are written. -/
theorem IsRx.fr {B : Nat} {w w' : World} {b : Nat} {T : Tx} {pb pc : Nat} {ov : Value} {dn : Bool} {S : Nat → Prop} (h : IsRx B w b T pb pc ov dn) (hf : Fr S w w')
    (h1 : ¬ S b) (h2 : ¬ S pb) (h3 : ∀ k, ov.ownBlock = some k → ¬ S k) : IsRx B w' b T pb pc ov dn :=
  ⟨hf.blk h.blk h1, fun j hj => ⟨(hf.cell (p := ⟨pb, j * 2, none⟩) h.base.2.2 h2).trans (h.parts j hj).1, (hf.cell (p := ⟨pb, j * 2 + 1, none⟩) h.base.2.2 h2).trans (h.parts j hj).2⟩,
   hf.own h.old h3, h.wf, ⟨h.base.1, h.base.2.1, Nat.lt_of_lt_of_le h.base.2.2 hf.size⟩, h.dj, h.dn⟩
theorem IsRx.non {B : Nat} {w w' : World} {b : Nat} {T : Tx} {pb pc : Nat} {ov : Value} {dn : Bool} (h : IsRx B w b T pb pc ov dn) (hf : Fr Non w w') : IsRx B w' b T pb pc ov dn :=
  h.fr hf (fun f => f) (fun f => f) (fun _ _ f => f)
/-- Its own block is written. -/
theorem IsRx.to {B : Nat} {w w' : World} {b : Nat} {T T' : Tx} {pb pc : Nat} {ov : Value} {dn dn' : Bool} (h : IsRx B w b T pb pc ov dn) (hf : Fr (Only b) w w')
    (hb : w'.heap[b]? = some (.cells #[.int .i64 T'.id, .slice (some ⟨pb, 0, none⟩) T'.parts.length pc, .string (wordOf T'.phase), .int .i64 T'.at_, ov, .int .i64 T'.num, .int .i64 T'.hol, .int .i64 T'.nxt, .int .i64 T'.version, .bool dn', .int .i64 T'.state] 45 (0, 0))) (hp : T'.parts = T.parts) (ho : T'.old = T.old) (hw : T'.Wf) (hd : T'.phase = 5 ∨ T'.phase = 8 ∨ T'.phase = 9 → dn' = T'.will) : IsRx B w' b T' pb pc ov dn' := by
  refine ⟨hb, fun j hj => ?_, ?_, hw, ⟨h.base.1, h.base.2.1, Nat.lt_of_lt_of_le h.base.2.2 hf.size⟩, h.dj, hd⟩
  · rw [hp] at hj ⊢
    exact ⟨(hf.cell (p := ⟨pb, j * 2, none⟩) h.base.2.2 h.dj.1).trans (h.parts j hj).1, (hf.cell (p := ⟨pb, j * 2 + 1, none⟩) h.base.2.2 h.dj.1).trans (h.parts j hj).2⟩
  · rw [ho]
    exact hf.own h.old (fun k hk e => h.dj.2.1 (by rw [hk, e]))
/-- Its own block is written, and it has a new row. -/
theorem IsRx.grew {B : Nat} {w w' : World} {b : Nat} {T T' : Tx} {pb pc : Nat} {ov ov' : Value} {dn dn' : Bool} (h : IsRx B w b T pb pc ov dn) (hf : Fr (Only b) w w')
    (hb : w'.heap[b]? = some (.cells #[.int .i64 T'.id, .slice (some ⟨pb, 0, none⟩) T'.parts.length pc, .string (wordOf T'.phase), .int .i64 T'.at_, ov', .int .i64 T'.num, .int .i64 T'.hol, .int .i64 T'.nxt, .int .i64 T'.version, .bool dn', .int .i64 T'.state] 45 (0, 0))) (hown : w'.ownsRow B 3 1 ov' T'.old.length (T'.old.map (Value.int .i64))) (hp : T'.parts = T.parts) (hw : T'.Wf) (hd : T'.phase = 5 ∨ T'.phase = 8 ∨ T'.phase = 9 → dn' = T'.will)
    (hg : ov'.ownBlock = ov.ownBlock ∨ ∃ g, ov'.ownBlock = some g ∧ w.heap.size ≤ g) : IsRx B w' b T' pb pc ov' dn' := by
  have hs : ¬ Only b pb := h.dj.1
  refine ⟨hb, fun j hj => ?_, hown, hw, ⟨h.base.1, h.base.2.1, Nat.lt_of_lt_of_le h.base.2.2 hf.size⟩, ⟨h.dj.1, ?_, ?_⟩, hd⟩
  · rw [hp] at hj ⊢
    exact ⟨(hf.cell (p := ⟨pb, j * 2, none⟩) h.base.2.2 hs).trans (h.parts j hj).1, (hf.cell (p := ⟨pb, j * 2 + 1, none⟩) h.base.2.2 hs).trans (h.parts j hj).2⟩
  · rcases hg with hg | ⟨g, hg, hl⟩
    · rw [hg]; exact h.dj.2.1
    · rw [hg]; intro e; cases e; exact absurd h.lt (by omega)
  · rcases hg with hg | ⟨g, hg, hl⟩
    · rw [hg]; exact h.dj.2.2
    · rw [hg]; intro e; cases e; exact absurd h.base.2.2 (by omega)
def RxPost (B : Nat) (w : World) (b : Nat) (T' : Tx) (pb pc : Nat) (ov : Value) (e : Ending) (w' : World) : Prop :=
  e = .returned (.tuple #[]) ∧ ∃ ov' dn', IsRx B w' b T' pb pc ov' dn' ∧ Fr (Only b) w w' ∧ (ov'.ownBlock = ov.ownBlock ∨ ∃ g, ov'.ownBlock = some g ∧ w.heap.size ≤ g)
theorem held_empty : heldL (wordsB ⟨#[]⟩) = (0, 0, 0) := by
  rw [words_one _ (by intro j; simp)]
  have h : amtB (([(⟨#[]⟩ : ByteArray)] : List ByteArray).getD 0 .empty) 999999999 = -1 := rfl
  unfold heldL
  simp only [h]
  rw [if_pos (by omega)]

set_option maxHeartbeats 400000 in
/-- (*Txn).on, at the level of the block. -/
theorem on_blk (w : World) (b pb pc : Nat) (ov : Value) (T : Tx) (dn : Bool) (ph : Int) (wd wo : ByteArray) (hwd : wordOf T.phase = wd) (hwo : wordOf ph = wo) (hb : w.heap[b]? = some (.cells #[.int .i64 T.id, .slice (some ⟨pb, 0, none⟩) T.parts.length pc, .string wd, .int .i64 T.at_, ov, .int .i64 T.num, .int .i64 T.hol, .int .i64 T.nxt, .int .i64 T.version, .bool dn, .int .i64 T.state] 45 (0, 0))) (h1 : T.at_ < T.parts.length) (h2 : T.parts.length ≤ 4) :
    Calls Tryd.prog 29 #[.pointer (some ⟨b, 0, none⟩), .string wo] w fun e w' => e = .returned (.tuple #[]) ∧ Fr (Only b) w w' ∧ w'.heap[b]? = some (.cells #[.int .i64 (T.further ph).id, .slice (some ⟨pb, 0, none⟩) (T.further ph).parts.length pc, .string (wordOf (T.further ph).phase), .int .i64 (T.further ph).at_, ov, .int .i64 (T.further ph).num, .int .i64 (T.further ph).hol, .int .i64 (T.further ph).nxt, .int .i64 (T.further ph).version, .bool dn, .int .i64 (T.further ph).state] 45 (0, 0)) := by
  have c1 : w.cell? ⟨b, 1, none⟩ = some (.slice (some ⟨pb, 0, none⟩) T.parts.length pc) := cell_of hb 1
  have c2 : w.cell? ⟨b, 2, none⟩ = some (.string wd) := cell_of hb 2
  have c3 : w.cell? ⟨b, 3, none⟩ = some (.int .i64 T.at_) := cell_of hb 3
  have f2 := free_of hb 2
  have f3 := free_of hb 3
  have Hb := Lib.hid hb
  have Hwd := Lib.hid hwd
  have Hwo := Lib.hid hwo
  have hlt := lt_of_heap hb
  clear hwd hwo
  by_cases hl : T.at_ + 1 = T.parts.length
  · have hE : Hid (T.further ph = { T with phase := ph, at_ := 0 }) := if_pos hl
    have h3 : (((T.at_ : Nat) : Int) + 1 == ((T.parts.length : Nat) : Int)) = true := by rw [beq_iff_eq]; omega
    clear hb hl
    go_enter Tryd.func29, Tryd.ntmps29
    go_wp2
    go_quiet (fail)
    go_wp2
    go_end0
    refine ⟨rfl, ((((Fr.refl _ _).setCell (by simp) _).drewN _).setCell (by simp) _).setCell (by simp) _, ?_⟩
    exact (by rw [hE.out]; show At _ b = _; simp [At_set_same, At_alloc, At_drew, At_drewN, At_iff Hb.out, hlt, upd_cells, Hwo.out])
  · have hE : Hid (T.further ph = { T with at_ := T.at_ + 1 }) := if_neg hl
    have h3 : (((T.at_ : Nat) : Int) + 1 == ((T.parts.length : Nat) : Int)) = false := by rw [beq_eq_false_iff_ne]; omega
    clear hb hl
    go_enter Tryd.func29, Tryd.ntmps29
    go_wp2
    go_quiet (fail)
    go_wp2
    go_end0
    refine ⟨rfl, (((Fr.refl _ _).setCell (by simp) _).drewN _), ?_⟩
    exact (by rw [hE.out]; show At _ b = _; simp [At_set_same, At_alloc, At_drew, At_drewN, At_iff Hb.out, hlt, upd_cells, Hwd.out])

end Go.Proofs.YtbfahkpckhbajaaDoor
