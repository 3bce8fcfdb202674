/- quorateref.decimal and Held.text: what they compute. Conditions: numbers from 0 to a milliard. -/
import Derived.Test.YtbfahkpckhbajaaDoorQText
namespace Go.Proofs.YtbfahkpckhbajaaDoor
open Go.RowKit
set_option linter.unusedVariables false

theorem itoaB_small (n : Int) (h0 : 0 ≤ n) (h : n < 10) : itoaB n = ⟨#[UInt8.ofNat (48 + n.toNat)]⟩ := by
  unfold itoaB Lib.itoa
  rw [if_neg (by omega), Lib.decDigits_one (by omega)]
theorem itoaB_big (n : Int) (h0 : 0 ≤ n) (h : ¬ n < 10) : itoaB n = itoaB (n / 10) ++ ⟨#[UInt8.ofNat (48 + (n % 10).toNat)]⟩ := by
  unfold itoaB Lib.itoa
  rw [if_neg (by omega), if_neg (by omega), Lib.decDigits, dif_neg (by omega), show (n / 10).toNat = n.toNat / 10 by omega, show (n % 10).toNat = n.toNat % 10 by omega]
  apply ByteArray.ext
  simp

set_option maxRecDepth 100000 in
set_option maxHeartbeats 1000000 in
theorem decimal_step (n : Int) (w : World) (h0 : 0 ≤ n) (h1 : n ≤ 1000000000) (ih : ¬ n < 10 → ∀ w : World, Calls Tryd.prog 21 #[.int .i64 (n / 10)] w fun e w' => e = .returned (.string (itoaB (n / 10))) ∧ Fr Non w w') :
    Calls Tryd.prog 21 #[.int .i64 n] w fun e w' => e = .returned (.string (itoaB n)) ∧ Fr Non w w' := by
  have Ih := Lib.hid ih
  clear ih
  have hd : ((UInt8.ofNat (48 + (n % 10).toNat)).toNat : Int) = 48 + n % 10 := by
    rw [UInt8.toNat_ofNat']
    omega
  have hs0 := fun h => itoaB_small n h0 h
  have hs1 := itoaB_big n h0
  rw [show (n % 10).toNat = n.toNat % 10 by omega] at hd hs1
  have hs0' : n < 10 → itoaB n = ⟨#[UInt8.ofNat (48 + n.toNat % 10)]⟩ := fun h => by rw [hs0 h, show n.toNat % 10 = n.toNat by omega]
  clear hs0
  generalize UInt8.ofNat (48 + n.toNat % 10) = d at *
  have Hs0 := Lib.hid hs0'
  have Hs1 := Lib.hid hs1
  clear hs0' hs1
  have kc : Sem.run Tryd.prog (convert 72 9 (.slice (some ⟨w.heap.size, 0, none⟩) 1 1)) (w.alloc (.cells #[.int .u8 (48 + n % 10)] 5 (0, 0))) = .ok (.string ⟨#[d]⟩) (w.alloc (.cells #[.int .u8 (48 + n % 10)] 5 (0, 0))) := by
    have := run_convert_bytes_back (P := Tryd.prog) (w.alloc (.cells #[.int .u8 (48 + n % 10)] 5 (0, 0))) 72 9 5 ⟨w.heap.size, 0, none⟩ 1 [d] rfl rfl rfl (fun j hj => by
      have : j = 0 := by simp at hj; exact hj
      subst this
      show World.cell? _ ⟨w.heap.size, 0 + 0, none⟩ = _
      rw [cell_of (heap_alloc_new _ _)]
      show some (Value.int .u8 (48 + n % 10)) = some (.int .u8 (d.toNat : Int))
      rw [hd])
    exact this
  have hF : Fr Non w (w.alloc (.cells #[.int .u8 (48 + n % 10)] 5 (0, 0))) := (Fr.refl _ _).alloc _
  have HF := Lib.hid hF
  clear hd hF
  go_enter Tryd.func21, Tryd.ntmps21
  by_cases hn : n < 10
  · have e1 : decide (n < 10) = true := by rw [decide_eq_true_eq]; exact hn
    have Hs := Lib.hid (Hs0.out hn)
    go_wp2_with fail
    go_ret
    exact ⟨by rw [Hs.out]; rfl, HF.out⟩
  · have e1 : decide (n < 10) = false := by rw [decide_eq_false_iff_not]; exact hn
    have Hs := Lib.hid (Hs1.out hn)
    have hsz := itoaB_size (n / 10) (by omega) (by omega)
    have c1 : ¬ 9223372036854775807 < (itoaB (n / 10)).size + 1 := by omega
    go_wp2_with fail
    refine (Ih.out (by omega) _).mono ?_
    rintro e w1 ⟨rfl, hf⟩
    have Hf := Lib.hid hf
    clear hf
    go_wp2_with fail
    go_ret
    exact ⟨by rw [Hs.out]; rfl, HF.out.trans Hf.out⟩
theorem decimal_rec : ∀ (k : Nat) (n : Int) (w : World), 0 ≤ n → n ≤ 1000000000 → n.toNat ≤ k →
    Calls Tryd.prog 21 #[.int .i64 n] w fun e w' => e = .returned (.string (itoaB n)) ∧ Fr Non w w' := by
  intro k
  induction k with
  | zero => exact fun n w h0 h1 hk => decimal_step n w h0 h1 (fun h => by omega)
  | succ k ih => exact fun n w h0 h1 hk => decimal_step n w h0 h1 (fun h w' => ih (n / 10) w' (by omega) (by omega) (by omega))
theorem decimal_any (n : Int) (w : World) (h0 : 0 ≤ n) (h1 : n ≤ 1000000000) :
    Calls Tryd.prog 21 #[.int .i64 n] w fun e w' => e = .returned (.string (itoaB n)) ∧ Fr Non w w' := decimal_rec n.toNat n w h0 h1 (Nat.le_refl _)

set_option maxHeartbeats 1000000 in
theorem heldText_any (a b c : Int) (w : World) (h0 : 0 ≤ a) (h1 : a ≤ 1000000000) (h2 : 0 ≤ b) (h3 : b ≤ 1000) (h4 : 0 ≤ c) (h5 : c ≤ 1000000000) :
    Calls Tryd.prog 22 #[.agg #[.int .i64 a, .int .i64 b, .int .i64 c]] w fun e w' => e = .returned (.string (textB a b c)) ∧ Fr Non w w' := by
  unfold textB
  by_cases hb0 : b = 0
  · subst hb0
    rw [if_pos rfl]
    go_enter Tryd.func22, Tryd.ntmps22
    go_wp2_with fail
    generalize hW : World.alloc w _ = W
    have hb : W.heap[w.heap.size]? = some (.cells #[.int .i64 a, .int .i64 0, .int .i64 c] 43 (0,0)) := by rw [← hW]; exact heap_alloc_new _ _
    have HwW : Hid (Fr Non w W) := by rw [← hW]; exact (Fr.refl _ _).alloc _
    clear hW
    refine (decimal_any a _ (by omega) (by omega)).mono ?_
    rintro e w1 ⟨rfl, hf⟩
    have c1 : w1.cell? ⟨w.heap.size, 1, none⟩ = some (.int .i64 0) := cell_of (hf.blk hb (fun h => h)) 1
    have Hf := Lib.hid hf
    clear hf hb
    go_wp2_with fail
    go_ret
    exact ⟨rfl, HwW.out.trans Hf.out⟩
  · rw [if_neg hb0]
    have hbb : ((b : Int) == 0) = false := by rw [beq_eq_false_iff_ne]; omega
    have l1 := itoaB_size a (by omega) (by omega)
    have l2 := itoaB_size b (by omega) (by omega)
    have l3 := itoaB_size c (by omega) (by omega)
    have c1 : ¬ 9223372036854775807 < (itoaB a).size + 1 := by omega
    have c2 : ¬ 9223372036854775807 < (itoaB a).size + 1 + (itoaB b).size := by omega
    have c3 : ¬ 9223372036854775807 < (itoaB a).size + 1 + (itoaB b).size + 1 := by omega
    have c4 : ¬ 9223372036854775807 < (itoaB a).size + 1 + (itoaB b).size + 1 + (itoaB c).size := by omega
    clear hb0 l1 l2 l3
    go_enter Tryd.func22, Tryd.ntmps22
    go_wp2_with fail
    generalize hW : World.alloc w _ = W
    have hb : W.heap[w.heap.size]? = some (.cells #[.int .i64 a, .int .i64 b, .int .i64 c] 43 (0,0)) := by rw [← hW]; exact heap_alloc_new _ _
    have HwW : Hid (Fr Non w W) := by rw [← hW]; exact (Fr.refl _ _).alloc _
    clear hW
    refine (decimal_any a _ (by omega) (by omega)).mono ?_
    rintro e w1 ⟨rfl, hf⟩
    have g1 : w1.cell? ⟨w.heap.size, 1, none⟩ = some (.int .i64 b) := cell_of (hf.blk hb (fun h => h)) 1
    have Hf := Lib.hid hf
    have Hb := Lib.hid (hf.blk hb (fun h => h))
    clear hf hb
    go_wp2_with fail
    refine (decimal_any b _ (by omega) (by omega)).mono ?_
    rintro e w2 ⟨rfl, hf⟩
    have g2 : w2.cell? ⟨w.heap.size, 2, none⟩ = some (.int .i64 c) := cell_of (hf.blk Hb.out (fun h => h)) 2
    have Hf2 := Lib.hid hf
    clear hf g1
    go_wp2_with fail
    refine (decimal_any c _ (by omega) (by omega)).mono ?_
    rintro e w3 ⟨rfl, hf⟩
    have Hf3 := Lib.hid hf
    clear hf g2
    go_wp2_with fail
    go_ret
    exact ⟨rfl, ((HwW.out.trans Hf.out).trans Hf2.out).trans Hf3.out⟩
end Go.Proofs.YtbfahkpckhbajaaDoor
