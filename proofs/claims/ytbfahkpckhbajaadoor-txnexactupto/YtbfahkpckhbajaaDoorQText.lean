/- The texts of keys, records and values: txn.data, txn.record, txn.swap, value.text. Conditions: short keys, numbers in their ranges. -/
import Derived.Test.YtbfahkpckhbajaaDoorQNum
namespace Go.Proofs.YtbfahkpckhbajaaDoor
open Go.RowKit
set_option linter.unusedVariables false

def dataB (s : ByteArray) : ByteArray := ⟨#[107]⟩ ++ s
def recordB (n : Int) : ByteArray := ⟨#[116]⟩ ++ itoaB n
def textB (a b c : Int) : ByteArray := if b = 0 then itoaB a else itoaB a ++ ⟨#[32]⟩ ++ itoaB b ++ ⟨#[32]⟩ ++ itoaB c

set_option maxHeartbeats 400000 in
theorem data_any (s : ByteArray) (w : World) (hs : s.size ≤ 2000000) :
    Calls Tryd.prog 17 #[.string s] w fun e w' => e = .returned (.string (dataB s)) ∧ w' = w := by
  go_enter Tryd.func17, Tryd.ntmps17
  go_wp2
  go_ret
  exact ⟨rfl, rfl⟩

set_option maxHeartbeats 400000 in
theorem record_any {B : Nat} (n : Int) (w : World) (h0 : 0 ≤ n) (h1 : n ≤ 1000000000) (ht : Gl B w) :
    Calls Tryd.prog 19 #[.int .i64 n] w fun e w' => e = .returned (.string (recordB n)) ∧ Fr Non w w' := by
  have hz := itoaB_size n (by omega) (by omega)
  have c1 : ¬ 9223372036854775807 < 1 + (itoaB n).size := by omega
  go_enter Tryd.func19, Tryd.ntmps19
  go_wp2_with fail
  refine (itoa_any n _ (by omega) (by omega) ht).mono ?_
  rintro e w1 ⟨rfl, hf⟩
  go_wp2_with fail
  go_ret
  exact ⟨rfl, hf⟩

abbrev cmdV (k : Int) (key val : ByteArray) (ver : Int) : Value := .agg #[.int .i64 k, .string key, .string val, .int .i64 ver]

set_option maxHeartbeats 400000 in
theorem swap_any (k t : ByteArray) (v : Int) (w : World) :
    Calls Tryd.prog 18 #[.string k, .string t, .int .i64 v] w fun e w' => e = .returned (cmdV 4 k t v) ∧ Fr Non w w' := by
  go_enter Tryd.func18, Tryd.ntmps18
  go_wp2
  refine bodyPost_ret (v := cmdV 4 k t v) (by simp [results, Tryd.results18, go_sem]) rfl ⟨rfl, (Fr.refl _ _).alloc _⟩

set_option maxHeartbeats 1000000 in
theorem text_any {B : Nat} (a b c : Int) (w : World) (h0 : 0 ≤ a) (h1 : a ≤ 1000000000) (h2 : 0 ≤ b) (h3 : b ≤ 1000) (h4 : 0 ≤ c) (h5 : c ≤ 1000000000) (ht : Gl B w) :
    Calls Tryd.prog 20 #[.agg #[.int .i64 a, .int .i64 b, .int .i64 c]] w fun e w' => e = .returned (.string (textB a b c)) ∧ Fr Non w w' := by
  unfold textB
  by_cases hb0 : b = 0
  · subst hb0
    rw [if_pos rfl]
    go_enter Tryd.func20, Tryd.ntmps20
    go_wp2_with fail
    refine (itoa_any a _ (by omega) (by omega) (ht.non ((Fr.refl _ _).alloc _))).mono ?_
    rintro e w1 ⟨rfl, hf⟩
    have Hf := Lib.hid hf
    clear hf
    go_wp2_with fail
    go_ret
    exact ⟨rfl, ((Fr.refl _ _).alloc _).trans Hf.out⟩
  · rw [if_neg hb0]
    have hbb : ((b : Int) == 0) = false := by rw [beq_eq_false_iff_ne]; omega
    have l1 := itoaB_size a (by omega) (by omega)
    have l2 := itoaB_size b (by omega) (by omega)
    have l3 := itoaB_size c (by omega) (by omega)
    have c1 : ¬ 9223372036854775807 < (itoaB a).size + 1 := by omega
    have c2 : ¬ 9223372036854775807 < (itoaB a).size + 1 + (itoaB b).size := by omega
    have c3 : ¬ 9223372036854775807 < (itoaB a).size + 1 + (itoaB b).size + 1 := by omega
    have c4 : ¬ 9223372036854775807 < (itoaB a).size + 1 + (itoaB b).size + 1 + (itoaB c).size := by omega
    clear hb0
    go_enter Tryd.func20, Tryd.ntmps20
    go_wp2_with fail
    obtain ⟨W, hW⟩ : ∃ W, W = w.alloc (.cells #[.int .i64 a, .int .i64 b, .int .i64 c] 57) := ⟨_, rfl⟩
    have hb : W.heap[w.heap.size]? = some (.cells #[.int .i64 a, .int .i64 b, .int .i64 c] 57 (0,0)) := by rw [hW]; exact heap_alloc_new _ _
    have hwW : Fr Non w W := by rw [hW]; exact (Fr.refl _ _).alloc _
    have hp : Gl B W := ht.non hwW
    have keep : ∀ w', Fr Non W w' → (Fr Non W w' ∧ w'.cell? ⟨w.heap.size, 0, none⟩ = some (.int .i64 a) ∧ w'.cell? ⟨w.heap.size, 1, none⟩ = some (.int .i64 b) ∧ w'.cell? ⟨w.heap.size, 2, none⟩ = some (.int .i64 c)) :=
      fun w' hf => ⟨hf, (cell_of (hf.blk hb (fun h => h)) 0), (cell_of (hf.blk hb (fun h => h)) 1), (cell_of (hf.blk hb (fun h => h)) 2)⟩
    rw [← hW]
    have HwW := Lib.hid hwW
    clear hW hwW
    go_region_held3 (fun w' => Fr Non W w' ∧ w'.cell? ⟨w.heap.size, 0, none⟩ = some (.int .i64 a) ∧ w'.cell? ⟨w.heap.size, 1, none⟩ = some (.int .i64 b) ∧ w'.cell? ⟨w.heap.size, 2, none⟩ = some (.int .i64 c))
      ((refine keep _ ?_; with_reducible repeat (first | assumption | exact Fr.refl _ _ | apply Fr.drew)))
      (first | (go_at_call 33; obtain ⟨hA, _⟩ := ‹Fr Non W _ ∧ _ ∧ _›; refine (itoa_any (B := B) _ _ ?_ ?_ (hp.non hA)).mono ?_; (omega); (omega); rintro e w' ⟨rfl, hf⟩; replace hf := Fr.trans hA hf; clear hA))
    go_wp2_with fail
    go_ret
    exact ⟨rfl, HwW.out.trans (by assumption)⟩
end Go.Proofs.YtbfahkpckhbajaaDoor
