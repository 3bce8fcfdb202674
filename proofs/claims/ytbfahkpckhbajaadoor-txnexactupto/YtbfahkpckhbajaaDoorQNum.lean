/- txn.number, txn.read and the texts of keys, records and values: what each computes. Conditions: short texts, numbers in their ranges. -/
import Derived.Test.YtbfahkpckhbajaaDoorQGl
import Derived.Deep.RegionHeld3
namespace Go.Proofs.YtbfahkpckhbajaaDoor
open Go.RowKit

/-- txn.number: a number up to a most, written as it would be written -/
def numB (s : ByteArray) (m : Int) : Int × Bool :=
  ((atoiN s).1, (atoiN s).2 && decide (0 ≤ (atoiN s).1) && decide ((atoiN s).1 ≤ m) && ((itoaB (atoiN s).1).toList == s.toList))

set_option maxHeartbeats 400000 in
theorem number_any {B : Nat} (s : ByteArray) (m : Int) (w : World) (hs : s.size ≤ 2000000) (hm : m ≤ 1000000000) (ht : Gl B w) :
    Calls Tryd.prog 35 #[.string s, .int .i64 m] w fun e w' => e = .returned (.tuple #[.int .i64 (numB s m).1, .bool (numB s m).2]) ∧ Fr Non w w' := by
  unfold numB
  generalize hn : (atoiN s).1 = n
  have Hn := Lib.hid hn
  clear hn
  go_enter Tryd.func35, Tryd.ntmps35
  go_wp2_with fail
  refine (atoi_any s _ (by omega) ht).mono ?_
  rintro e w1 ⟨hf, ⟨hok, rfl⟩ | ⟨hok, N, rfl⟩⟩
  · rw [Hn.out]
    have Hok := Lib.hid hok
    have Hf := Lib.hid hf
    have Ht := Lib.hid (ht.non hf)
    clear hok hf ht
    by_cases h0 : 0 ≤ n
    · by_cases h1 : n ≤ m
      · go_wp2_with fail
        refine (itoa_any n _ (by omega) (by omega) Ht.out).mono ?_
        rintro e w2 ⟨rfl, hf2⟩
        have Hf2 := Lib.hid hf2
        clear hf2
        go_wp2_with fail
        go_ret2
        exact ⟨by rw [Hok.out]; simp [h0, h1], Hf.out.trans Hf2.out⟩
      · go_wp2_with fail
        go_ret2
        exact ⟨by rw [Hok.out]; simp [show ¬ n ≤ m by omega], Hf.out⟩
    · go_wp2_with fail
      go_ret2
      exact ⟨by rw [Hok.out]; simp [show ¬ 0 ≤ n by omega], Hf.out⟩
  · rw [Hn.out]
    have Hok := Lib.hid hok
    have Hf := Lib.hid hf
    clear hok hf ht
    go_wp2_with fail
    go_ret2
    exact ⟨by rw [Hok.out]; simp, Hf.out⟩
end Go.Proofs.YtbfahkpckhbajaaDoor
