/- quorateref.amount: a number up to a most, in letters: what it computes, and that txn.number computes the same. Conditions: texts of at most 2,000,000 bytes, a most of at most 1,000,000,000. -/
import Derived.Test.YtbfahkpckhbajaaDoorQNum
namespace Go.Proofs.YtbfahkpckhbajaaDoor
open Go.RowKit
set_option linter.unusedVariables false

/-- at the text's end -/
def amtEnd (l : List UInt8) (m n : Int) : Int := if l = [] ∨ m < n ∨ (l.head? = some 48 ∧ 1 < l.length) then -1 else n
/-- from a letter on -/
def amtGo (l : List UInt8) (m : Int) : List UInt8 → Int → Int
  | [], n => amtEnd l m n
  | c :: r, n => if (c.toNat : Int) < 48 ∨ 57 < (c.toNat : Int) ∨ m < n then -1 else amtGo l m r (10 * n + ((c.toNat : Int) - 48))
def amtB (s : ByteArray) (m : Int) : Int := amtGo s.data.toList m s.data.toList 0

set_option maxHeartbeats 1000000 in
theorem amount_any (s : ByteArray) (m : Int) (w : World) (hs : s.size ≤ 2000000) (hm0 : 0 ≤ m) (hm : m ≤ 1000000000) :
    Calls Tryd.prog 36 #[.string s, .int .i64 m] w fun e w' => e = .returned (.int .i64 (amtB s m)) ∧ Fr Non w w' := by
  go_enter Tryd.func36, Tryd.ntmps36
  go_wp2_with fail
  go_loop [5, 6] (fun n i => ∃ (k : Nat) (x : Int), k ≤ s.size ∧ i = .int .i64 k ∧ n = .int .i64 x ∧ 0 ≤ x ∧ x ≤ 10 * m + 9 ∧ Hid (amtGo s.data.toList m (s.data.toList.drop k) x = amtB s m)) (fun _ i => s.size - (intOf i).toNat)
  case atStart => exact ⟨0, 0, Nat.zero_le _, rfl, rfl, by omega, by omega, rfl⟩
  case round =>
    obtain ⟨k, x, hk, rfl, rfl, hx0, hx1, hgo⟩ := hrel
    by_cases hlt : k < s.size
    · have hd : s.data.toList.drop k = s[k] :: s.data.toList.drop (k + 1) := by
        rw [List.drop_eq_getElem_cons (by simpa using hlt)]; rfl
      have Hgo : Hid ((if (s[k].toNat : Int) < 48 ∨ 57 < (s[k].toNat : Int) ∨ m < x then -1 else amtGo s.data.toList m (s.data.toList.drop (k + 1)) (10 * x + ((s[k].toNat : Int) - 48))) = amtB s m) := by
        have := hgo.out
        rw [hd] at this
        exact this
      clear hd hgo
      have hc : s[k].toNat < 256 := UInt8.toNat_lt _
      generalize hcc : s[k].toNat = c at Hgo hc
      have Hcc := Lib.hid hcc
      clear hcc
      by_cases t1 : (c : Int) < 48
      · have e1 : decide (((s[k].toNat : Nat) : Int) < 48) = true := by rw [Hcc.out, decide_eq_true_eq]; exact t1
        have He : Hid (amtB s m = -1) := by have := Hgo.out; rw [if_pos (Or.inl t1)] at this; exact this.symm
        go_wp2
        go_ret
        exact ⟨by rw [He.out]; rfl, Fr.refl _ _⟩
      · have e1 : decide (((s[k].toNat : Nat) : Int) < 48) = false := by rw [Hcc.out, decide_eq_false_iff_not]; exact t1
        by_cases t2 : 57 < (c : Int)
        · have e2 : decide (57 < ((s[k].toNat : Nat) : Int)) = true := by rw [Hcc.out, decide_eq_true_eq]; exact t2
          have He : Hid (amtB s m = -1) := by have := Hgo.out; rw [if_pos (Or.inr (Or.inl t2))] at this; exact this.symm
          go_wp2
          go_ret
          exact ⟨by rw [He.out]; rfl, Fr.refl _ _⟩
        · have e2 : decide (57 < ((s[k].toNat : Nat) : Int)) = false := by rw [Hcc.out, decide_eq_false_iff_not]; exact t2
          by_cases t3 : m < x
          · have e3 : decide (m < x) = true := by rw [decide_eq_true_eq]; exact t3
            have He : Hid (amtB s m = -1) := by have := Hgo.out; rw [if_pos (Or.inr (Or.inr t3))] at this; exact this.symm
            go_wp2
            go_ret
            exact ⟨by rw [He.out]; rfl, Fr.refl _ _⟩
          · have e3 : decide (m < x) = false := by rw [decide_eq_false_iff_not]; exact t3
            have Hn : Hid (amtGo s.data.toList m (s.data.toList.drop (k + 1)) (10 * x + ((c : Int) - 48)) = amtB s m) := by have := Hgo.out; rw [if_neg (by omega)] at this; exact this
            go_wp2
            rw [Hcc.out]
            have ha : (10 * x + ((c : Int) - 48) % 256) = 10 * x + ((c : Int) - 48) := by omega
            have hi : (intOf (.int .i64 ((k : Int) + 1))).toNat = k + 1 := by show Int.toNat ((k : Int) + 1) = k + 1; omega
            have hj : (intOf (.int .i64 (k : Int))).toNat = k := by show Int.toNat (k : Int) = k; omega
            refine ⟨⟨k + 1, 10 * x + ((c : Int) - 48), by omega, rfl, by rw [ha], by omega, by omega, Hn⟩, ?_⟩
            rw [hi, hj]
            omega
    · have hks : k = s.size := by omega
      subst hks
      have Hgo : Hid (amtEnd s.data.toList m x = amtB s m) := by
        have := hgo.out
        rw [List.drop_eq_nil_of_le (by simp)] at this
        exact this
      clear hgo
      by_cases t0 : s = (ByteArray.mk #[])
      · subst t0
        have He : Hid (amtB (ByteArray.mk #[]) m = -1) := by have := Hgo.out; rw [amtEnd, if_pos (Or.inl rfl)] at this; exact this.symm
        go_wp2
        go_ret
        exact ⟨by rw [He.out]; rfl, Fr.refl _ _⟩
      · have h0 : 0 < s.size := by
          rcases Nat.eq_zero_or_pos s.size with h | h
          · exact absurd (by apply ByteArray.ext; exact Array.eq_empty_of_size_eq_zero h) t0
          · exact h
        have hl : s.data.toList ≠ [] := by
          intro h
          have : s.data.toList.length = 0 := by rw [h]; rfl
          rw [Array.length_toList] at this
          have : s.size = 0 := this
          omega
        have e0 : (s.toList.isEmpty) = false := by
          rw [ByteArray.toList_eq, List.isEmpty_eq_false_iff]
          exact hl
        by_cases t3 : m < x
        · have e3 : decide (m < x) = true := by rw [decide_eq_true_eq]; exact t3
          have He : Hid (amtB s m = -1) := by have := Hgo.out; rw [amtEnd, if_pos (Or.inr (Or.inl t3))] at this; exact this.symm
          go_wp2
          go_ret
          exact ⟨by rw [He.out]; rfl, Fr.refl _ _⟩
        · have e3 : decide (m < x) = false := by rw [decide_eq_false_iff_not]; exact t3
          have hh : s.data.toList.head? = some s[0] := by
            rw [List.head?_eq_getElem?, List.getElem?_eq_getElem (by simpa using h0)]
            rfl
          have hlen : s.data.toList.length = s.size := by rw [Array.length_toList]; rfl
          have Hc : Hid (((s[0].toNat : Int) = 48 ∧ ¬ (s.size : Int) ≤ 1) → amtB s m = -1) := by
            refine Lib.hid (fun h => ?_)
            have h4 : s[0] = 48 := UInt8.toNat_inj.mp (by have := h.1; exact_mod_cast this)
            have := Hgo.out
            rw [amtEnd, if_pos (Or.inr (Or.inr ⟨by rw [hh, h4], by omega⟩))] at this
            exact this.symm
          have Hd : Hid ((¬ (s[0].toNat : Int) = 48 ∨ (s.size : Int) ≤ 1) → amtB s m = x) := by
            refine Lib.hid (fun h => ?_)
            have := Hgo.out
            rw [amtEnd, if_neg ?_] at this
            · exact this.symm
            · rintro (g | g | ⟨g, g'⟩)
              · exact hl g
              · exact t3 g
              · rw [hh] at g
                have h4 : s[0] = 48 := Option.some.inj g
                rcases h with h | h
                · exact h (by rw [h4]; rfl)
                · omega
          go_wp2
          all_goals go_ret
          all_goals refine ⟨?_, Fr.refl _ _⟩
          all_goals first | (exfalso; omega) | (rw [Hc.out (by omega)]; rfl) | (rw [Hd.out (by omega)]; rfl)
end Go.Proofs.YtbfahkpckhbajaaDoor
