/- quorateref.NewTxn: a transaction of parts, or an error. Condition: at most 1,000,000 parts. -/
import Derived.Test.YtbfahkpckhbajaaDoorQRon
import Derived.Test.YtbfahkpckhbajaaDoorQIns
import Derived.Deep.RegionLaw
import Derived.Outline
namespace Go.Proofs.YtbfahkpckhbajaaDoor
open Go.RowKit
set_option linter.unusedSimpArgs false
set_option linter.unusedVariables false

def RNewPost (B : Nat) (w : World) (id : Int) (xs : List P2) (e : Ending) (w' : World) : Prop :=
  Fr Non w w' ∧ ((ValidP id xs ∧ ∃ b pb pc ys, e = .returned (.tuple #[.pointer (some ⟨b, 0, none⟩), .int .i64 0]) ∧ ys.Perm xs ∧ Rising ys ∧ w.heap.size ≤ b ∧ w.heap.size ≤ pb ∧
      IsRx B w' b (Tx.start id ys) pb pc (.slice none 0 0) false) ∨ (¬ ValidP id xs ∧ e = .returned (.tuple #[.pointer none, .int .i64 22])))
theorem flatP_append (a b : List P2) : flatP (a ++ b) = flatP a ++ flatP b := by simp [flatP]
theorem flatP_take : ∀ (l : List P2) (k : Nat), flatP (l.take k) = (flatP l).take (k * 2)
  | [], k => by simp [flatP]
  | x :: l, 0 => by simp [flatP]
  | x :: l, k + 1 => by
    have ih := flatP_take l k
    have e : flatP (x :: l) = .string x.1 :: .int .i64 x.2 :: flatP l := rfl
    have e2 : flatP (x :: l.take k) = .string x.1 :: .int .i64 x.2 :: flatP (l.take k) := rfl
    rw [List.take_succ_cons, e2, e, show (k + 1) * 2 = k * 2 + 1 + 1 by omega, List.take_succ_cons, List.take_succ_cons, ih]
theorem flatP_drop : ∀ (l : List P2) (k : Nat), flatP (l.drop k) = (flatP l).drop (k * 2)
  | [], k => by simp [flatP]
  | x :: l, 0 => by simp
  | x :: l, k + 1 => by
    have ih := flatP_drop l k
    have e : flatP (x :: l) = .string x.1 :: .int .i64 x.2 :: flatP l := rfl
    rw [List.drop_succ_cons, e, show (k + 1) * 2 = k * 2 + 1 + 1 by omega, List.drop_succ_cons, List.drop_succ_cons, ih]
theorem flatP_one {l : List P2} (u : Value) (h : u ∈ flatP l) : u.oneCell' = true := by
  obtain ⟨x, _, hx⟩ := List.mem_flatMap.1 h
  simp [encP] at hx
  rcases hx with rfl | rfl <;> rfl
theorem cells_drop {w : World} {g : Nat} {l : List P2} (hc : ∀ j u, (flatP l)[j]? = some u → w.cell? ⟨g, j, none⟩ = some u) (k : Nat) : ∀ j u, (flatP (l.drop k))[j]? = some u → w.cell? ((⟨g, k * 2, none⟩ : Addr).add j) = some u := by
  intro j u hu
  rw [flatP_drop, List.getElem?_drop] at hu
  have hadd : (⟨g, k * 2, none⟩ : Addr).add j = ⟨g, k * 2 + j, none⟩ := by unfold Addr.add; split <;> simp_all
  rw [hadd]; exact hc _ u hu
theorem src_end {w : World} {l : List P2} {k : Nat} (hk : l.length ≤ k) (ad : Addr) (c : Nat) : SrcAt w 2 (.slice (some ad) (l.length - k) c) (l.length - k) (flatP (l.drop k)) := by
  refine ⟨by rw [flatP_length, List.length_drop], .inr ⟨_, _, rfl, fun j u hu => ?_⟩⟩
  rw [List.drop_eq_nil_of_le hk] at hu
  simp [flatP] at hu
theorem ltK_spell (a b : ByteArray) : ltK a b = Op.bytesLess a.toList b.toList := rfl

set_option maxRecDepth 100000 in
set_option maxHeartbeats 1000000 in
/-- ids and numbers of parts that may not be -/
theorem rnew_range {B : Nat} (w : World) (id : Int) (v : Value) (xs : List P2) (hv : PartsAt w v xs) (hn : xs.length ≤ 1000000) (h : ¬ ((1 ≤ id ∧ id ≤ 999) ∧ (1 ≤ xs.length ∧ xs.length ≤ 4))) :
    Calls Tryd.prog 6 #[.int .i64 id, v] w (RNewPost B w id xs) := by
  have hnv : Hid (¬ ValidP id xs) := fun hv => h ⟨hv.1, hv.2.1⟩
  obtain ⟨a, cap, rfl, _⟩ := hv
  by_cases h1 : id < 1
  · clear h
    go_enter Tryd.func6, Tryd.ntmps6
    go_wp2
    go_ret2
    exact ⟨Fr.refl _ _, .inr ⟨hnv.out, rfl⟩⟩
  by_cases h2 : 999 < id
  · clear h
    go_enter Tryd.func6, Tryd.ntmps6
    go_wp2
    go_ret2
    exact ⟨Fr.refl _ _, .inr ⟨hnv.out, rfl⟩⟩
  by_cases h3 : ((xs.length : Nat) : Int) < 1
  · clear h
    go_enter Tryd.func6, Tryd.ntmps6
    go_wp2
    go_ret2
    exact ⟨Fr.refl _ _, .inr ⟨hnv.out, rfl⟩⟩
  have h4 : (4 : Int) < ((xs.length : Nat) : Int) := by
    apply Classical.byContradiction; intro h4; exact h ⟨⟨by omega, by omega⟩, by omega, by omega⟩
  clear h
  go_enter Tryd.func6, Tryd.ntmps6
  go_wp2
  go_ret2
  exact ⟨Fr.refl _ _, .inr ⟨hnv.out, rfl⟩⟩

set_option maxRecDepth 100000 in
set_option maxHeartbeats 8000000 in
theorem rnew_any {B : Nat} (w : World) (id : Int) (v : Value) (xs : List P2) (hv : PartsAt w v xs) (hn : xs.length ≤ 1000000) (hB : B ≤ w.heap.size) :
    Calls Tryd.prog 6 #[.int .i64 id, v] w (RNewPost B w id xs) := by
  by_cases h : (1 ≤ id ∧ id ≤ 999) ∧ (1 ≤ xs.length ∧ xs.length ≤ 4)
  case neg => exact rnew_range w id v xs hv hn h
  obtain ⟨⟨h1, h2⟩, h3, h4⟩ := h
  obtain ⟨a, cap, rfl, hv⟩ := hv
  obtain ⟨blk, off, rfl, hbl, hcs⟩ := hv (fun e => by subst e; simp at h3)
  have Hcs := Lib.hid hcs
  clear hv hcs
  obtain ⟨i0, hi, hz0, hz1, hz2⟩ := info_parts infoP
  have Hi := Lib.hid hi
  have Hz0 := Lib.hid hz0
  have Hz1 := Lib.hid hz1
  have Hz2 := Lib.hid hz2
  clear hi hz0 hz1 hz2
  have h3' : ¬ ((xs.length : Nat) : Int) < 1 := by omega
  have h4' : ¬ (4 : Int) < ((xs.length : Nat) : Int) := by omega
  go_enter Tryd.func6, Tryd.ntmps6
  go_wp2_with fail
  go_loopw [6, 7] (fun v6 v7 wr => ∃ (i : Nat) (l : List P2), i ≤ xs.length ∧ v7 = .int .i64 i ∧ Hid (Ins xs i l) ∧ Hid (wr.ownsRow w.heap.size 29 2 v6 l.length (flatP l)) ∧ Hid (Fr Non w wr)) (fun _ v7 _ => xs.length - (intOf v7).toNat)
  case atStart => exact ⟨0, [], Nat.zero_le _, rfl, Ins.start xs, ⟨rfl, .inl ⟨rfl, rfl⟩⟩, Fr.refl _ _⟩
  case round =>
    obtain ⟨i, l, hi, rfl, HI, HO, Hfr⟩ := hrel
    have hi0 : (0 : Int) ≤ ((i : Nat) : Int) := by omega
    have hll : l.length = i := HI.out.len
    have Hll := Lib.hid hll
    by_cases hlt : i < xs.length
    · have hlt' : ((i : Nat) : Int) < ((xs.length : Nat) : Int) := by omega
      have Hg := Lib.hid (flatP_get xs i hlt)
      have q0 : wr.cell? ⟨blk, off + i * 2, none⟩ = some (.string (xs.getD i (.empty, 0)).1) := (Hfr.out.cell (p := ⟨blk, off + i * 2, none⟩) hbl (fun h => h)).trans (Hcs.out _ _ Hg.out.1)
      have q1 : wr.cell? ⟨blk, off + i * 2 + 1, none⟩ = some (.int .i64 (xs.getD i (.empty, 0)).2) := (Hfr.out.cell (p := ⟨blk, off + i * 2 + 1, none⟩) hbl (fun h => h)).trans (Hcs.out (i * 2 + 1) _ Hg.out.2)
      generalize hx : xs.getD i (.empty, 0) = x at q0 q1
      have Hx := Lib.hid hx
      have hbr : blk < wr.heap.size := Nat.lt_of_lt_of_le hbl Hfr.out.size
      clear hx Hg hll
      obtain ⟨xk, xa⟩ := x
      simp only at q0 q1
      by_cases t1 : xk.size = 0
      · have e1 : xk.toList.isEmpty = true := by rw [ByteArray.toList_eq]; have t1b : xk.data.size = 0 := t1; rw [List.isEmpty_iff]; exact List.eq_nil_of_length_eq_zero (by simpa using t1b)
        have e2 : xk.toList = [] := by simpa using e1
        have HH := Lib.hid t1
        clear t1
        have hnv : Hid (¬ ValidP id xs) := Ins.bad hlt (by rw [Hx.out]; exact fun h => h.1 HH.out)
        go_wp2_with fail
        go_ret2
        exact ⟨Hfr.out.trans (by with_reducible repeat (first | exact Fr.refl _ _ | assumption | refine Fr.drew ?_ | refine Fr.drewN ?_ _ | refine Fr.alloc ?_ _)), .inr ⟨hnv.out, rfl⟩⟩
      · have e1 : xk.toList.isEmpty = false := by rw [ByteArray.toList_eq]; rw [Bool.eq_false_iff]; intro h; rw [List.isEmpty_iff] at h; apply t1; show xk.data.size = 0; rw [← Array.length_toList, h]; rfl
        have e2 : ¬ xk.toList = [] := fun h => by rw [h] at e1; cases e1
        have T1 := Lib.hid t1
        clear t1
        by_cases t2 : 15 < xk.size
        · have t2' : decide ((15 : Int) < ((xk.size : Nat) : Int)) = true := by rw [decide_eq_true_eq]; omega
          have hnv : Hid (¬ ValidP id xs) := Ins.bad hlt (by rw [Hx.out]; exact fun h => by have := h.2.1; simp at this; omega)
          go_wp2_with fail
          go_ret2
          exact ⟨Hfr.out.trans (by with_reducible repeat (first | exact Fr.refl _ _ | assumption | refine Fr.drew ?_ | refine Fr.drewN ?_ _ | refine Fr.alloc ?_ _)), .inr ⟨hnv.out, rfl⟩⟩
        · have t2' : decide ((15 : Int) < ((xk.size : Nat) : Int)) = false := by rw [decide_eq_false_iff_not]; omega
          by_cases t3 : xa < -999999999
          · have t3' : decide (xa < -999999999) = true := by rw [decide_eq_true_eq]; exact t3
            have hnv : Hid (¬ ValidP id xs) := Ins.bad hlt (by rw [Hx.out]; exact fun h => by have := h.2.2.1; simp at this; omega)
            go_wp2_with fail
            go_ret2
            exact ⟨Hfr.out.trans (by with_reducible repeat (first | exact Fr.refl _ _ | assumption | refine Fr.drew ?_ | refine Fr.drewN ?_ _ | refine Fr.alloc ?_ _)), .inr ⟨hnv.out, rfl⟩⟩
          · have t3' : decide (xa < -999999999) = false := by rw [decide_eq_false_iff_not]; exact t3
            by_cases t4 : 999999999 < xa
            · have t4' : decide (999999999 < xa) = true := by rw [decide_eq_true_eq]; exact t4
              have hnv : Hid (¬ ValidP id xs) := Ins.bad hlt (by rw [Hx.out]; exact fun h => by have := h.2.2.2; simp at this; omega)
              go_wp2_with fail
              go_ret2
              exact ⟨Hfr.out.trans (by with_reducible repeat (first | exact Fr.refl _ _ | assumption | refine Fr.drew ?_ | refine Fr.drewN ?_ _ | refine Fr.alloc ?_ _)), .inr ⟨hnv.out, rfl⟩⟩
            · have t4' : decide (999999999 < xa) = false := by rw [decide_eq_false_iff_not]; exact t4
              have hok : Hid (OkP (xk, xa)) := ⟨T1.out, by simp; omega, by simp; omega, by simp; omega⟩
              obtain ⟨la, lc, hv6, hlc, _⟩ := own_shape HO.out
              subst hv6
              go_wp2_with fail
              obtain ⟨wo, rfl⟩ : ∃ wo : World, wo = wr := ⟨_, rfl⟩
              generalize hW1 : World.alloc wo _ = W1
              have hF1 : Fr Non wo W1 := by rw [← hW1]; exact (Fr.refl _ _).alloc _
              have hP1 : W1.heap[wo.heap.size]? = some (.cells #[.string xk, .int .i64 xa] 29 (0, 0)) := by rw [← hW1]; exact heap_alloc_new _ _
              have HF1 := Lib.hid hF1
              have HP1 := Lib.hid hP1
              have HO1 := Lib.hid (Fr.own hF1 HO.out (fun _ _ f => f))
              have Hwr : Hid (w.heap.size ≤ wo.heap.size) := Hfr.out.size
              clear hW1 hF1 hP1 q0 q1
              generalize hPb : wo.heap.size = pbk at *
              have HPb := Lib.hid hPb
              clear hPb
              go_loopw [9] (fun v9 wr => ∃ k : Nat, k ≤ l.length ∧ v9 = .int .i64 k ∧ Hid (∀ j, j < k → ltK (l.getD j (.empty, 0)).1 xk = true) ∧ Hid (Fr Non W1 wr)) (fun v9 _ => l.length - (intOf v9).toNat)
              case atStart => exact ⟨0, Nat.zero_le _, rfl, fun j hj => absurd hj (by omega), Fr.refl _ _⟩
              case round =>
                obtain ⟨k, hk, rfl, HK, Hwi⟩ := hrel
                have hk0 : (0 : Int) ≤ ((k : Nat) : Int) := by omega
                have hl4 : l.length ≤ 4 := by have := Hll.out; omega
                have hwp : w.heap.size ≤ pbk := by have := HPb.out; have := Hwr.out; omega
                have hpw : pbk < wr.heap.size := Nat.lt_of_lt_of_le (lt_of_heap HP1.out) Hwi.out.size
                have hPi := Hwi.out.blk HP1.out (fun h => h)
                have y0 : wr.cell? ⟨pbk, 0, none⟩ = some (.string xk) := cell_of hPi 0
                have y1 : wr.cell? ⟨pbk, 1, none⟩ = some (.int .i64 xa) := cell_of hPi 1
                have HPi := Lib.hid hPi
                have HOi := Lib.hid (Fr.own Hwi.out HO1.out (fun _ _ f => f))
                clear hPi
                by_cases hkl : k < l.length
                · have hkl' : ((k : Nat) : Int) < ((l.length : Nat) : Int) := by omega
                  obtain ⟨g, cap', hv, hc1, hc2, hg, hgl, hcell⟩ := own_full HOi.out (by omega)
                  simp only [Value.slice.injEq] at hv
                  obtain ⟨rfl, _, rfl⟩ := hv
                  have d0 : wr.cell? ⟨g, k * 2, none⟩ = some (.string (l.getD k (.empty, 0)).1) := hcell _ _ (flatP_get l k hkl).1
                  have Hcell := Lib.hid hcell
                  clear hcell
                  generalize hlk : (l.getD k (.empty, 0)).1 = lk at d0
                  have Hlk := Lib.hid hlk
                  clear hlk
                  by_cases ht : ltK lk xk = true
                  · have ht' : Op.bytesLess lk.toList xk.toList = true := ht
                    have HK1 : Hid (∀ j, j < k + 1 → ltK (l.getD j (.empty, 0)).1 xk = true) := fun j hj => by
                      by_cases e : j = k
                      · rw [e, Hlk.out]; exact ht'
                      · exact HK.out j (by omega)
                    clear ht
                    go_wp2_with fail
                    go_quiet (fail)
                    go_wp2_with fail
                    go_roundw
                    case rel => exact ⟨k + 1, by omega, by go_num, HK1, Fr.trans Hwi.out (by with_reducible repeat (first | exact Fr.refl _ _ | assumption | refine Fr.drew ?_ | refine Fr.drewN ?_ _ | refine Fr.alloc ?_ _))⟩
                    case measure => simp [intOf]; omega
                  · have htf : ltK lk xk = false := by simpa using ht
                    have ht' : Op.bytesLess lk.toList xk.toList = false := htf
                    have Htf := Lib.hid htf
                    clear ht htf
                    by_cases he : lk = xk
                    · have he' : (lk.toList == xk.toList) = true := by rw [he]; simp
                      have hnv : Hid (¬ ValidP id xs) := Ins.twice HI.out hlt hkl (by rw [Hlk.out, Hx.out]; exact he)
                      clear he
                      go_wp2_with fail
                      go_quiet (fail)
                      go_wp2_with fail
                      go_quiet (fail)
                      go_wp2_with fail
                      go_ret2
                      exact ⟨(Hfr.out.trans (HF1.out.trans (Fr.trans Hwi.out (by with_reducible repeat (first | exact Fr.refl _ _ | assumption | refine Fr.drew ?_ | refine Fr.drewN ?_ _ | refine Fr.alloc ?_ _))))), .inr ⟨hnv.out, rfl⟩⟩
                    · have he' : (lk.toList == xk.toList) = false := by
                        rw [beq_bytes, decide_eq_false_iff_not]
                        intro e; apply he; rw [e, ByteArray.toList_eq]
                      have Hstep : Hid (Ins xs (i + 1) (l.take k ++ (xk, xa) :: l.drop k)) := HI.out.step hlt Hx.out hok.out hk HK.out (fun _ => by rw [Hlk.out]; exact ⟨Htf.out, he⟩)
                      clear he
                      have hkc : k ≠ lc := by omega
                      have hklc : k ≤ lc := by omega
                      have hgp : g < pbk := by have h := (own_block_lt HO.out (show (Value.slice (some ⟨g, 0, none⟩) l.length lc).ownBlock = some g from rfl)).1; have := HPb.out; omega
                      go_wp2_with fail
                      go_quiet (fail)
                      go_wp2_with fail
                      go_quiet (fail)
                      go_wp2_with (at_builtin; refine wpList_append_row rfl _ _ 22 rfl 29 i0 (.agg #[.string .empty, .int .i64 0]) 2 24 pbk Tryd.underlying22 Hi.out Hz0.out Hz1.out Hz2.out rfl (by decide) (.slice none 0 0) 0 [] rfl ⟨rfl, .inl ⟨rfl, rfl⟩⟩ _ (l.length - k) (flatP (l.drop k)) rfl (⟨by rw [flatP_length, List.length_drop], .inr ⟨_, _, rfl, cells_drop (w := wr) Hcell.out k⟩⟩) flatP_one (by unfold maxLen; omega) (by omega) (by (try simp); omega) ?_; intro v10 w10 hown10 hgrow10 hat10; have hF10 : Fr Non wr w10 := Fr.trans (b := _) (by with_reducible repeat (first | exact Fr.refl _ _ | assumption | refine Fr.drew ?_ | refine Fr.drewN ?_ _ | refine Fr.alloc ?_ _)) (Fr.grown (S := Non) (Fr.refl _ _) hgrow10 (fun _ _ e => by cases e)); simp only [Nat.zero_add, List.nil_append] at hown10; have hP10 := hF10.blk HPi.out (fun h => h); have z0 : w10.cell? ⟨pbk, 0, none⟩ = some (.string xk) := cell_of hP10 0; have z1 : w10.cell? ⟨pbk, 1, none⟩ = some (.int .i64 xa) := cell_of hP10 1; have hp10 := lt_of_heap hP10; have HF10 := Lib.hid hF10; have Hown10 := Lib.hid hown10; have HHead := Lib.hid (own_head (Fr.own hF10 HOi.out (fun _ _ f => f)) k hk); clear hown10 hgrow10 hat10 hF10 hP10 y0 y1)
                      go_region_law (first | (guard_target = (if Region.wanted _ _ = true then Oper.wp _ (Oper.mk (some 95) _ _ _ _ _) _ _ _ _ else _); refine step_append_row rfl _ _ 22 rfl 29 i0 (.agg #[.string .empty, .int .i64 0]) 2 24 w.heap.size Tryd.underlying22 Hi.out Hz0.out Hz1.out Hz2.out rfl (by decide) (.slice (some ⟨g, 0, none⟩) k lc) k (flatP l |>.take (k * 2)) rfl (Fr.own (S := Non) (w := w10) (by with_reducible repeat (first | exact Fr.refl _ _ | assumption | refine Fr.drew ?_ | refine Fr.drewN ?_ _ | refine Fr.alloc ?_ _)) HHead.out (fun _ _ f => f)) _ 1 [.string xk, .int .i64 xa] rfl ⟨rfl, .inr ⟨_, _, rfl, World.news_of_block (by exact heap_alloc_new w10 _)⟩⟩ (fun u hu => by simp at hu; rcases hu with rfl | rfl <;> rfl) (by unfold maxLen; omega) (by omega) (by (try simp); omega) ?_; intro v11 w11 hown11 hgrow11 hat11; have HG11 := Lib.hid hgrow11; have HF11 : Hid (Fr (OwnB (.slice (some ⟨g, 0, none⟩) k lc)) w10 w11) := Fr.grown (by with_reducible repeat (first | exact Fr.refl _ _ | assumption | refine Fr.drew ?_ | refine Fr.drewN ?_ _ | refine Fr.alloc ?_ _)) hgrow11 (fun _ _ e => e); have hs11 : w10.heap.size ≤ w11.heap.size := HF11.out.size; have Hown11 := Lib.hid hown11; have HRest := Lib.hid (Fr.own HF11.out Hown10.out (fun i hi e => by have h1 := (own_block_lt Hown10.out hi).2; have e' : g = i := Option.some.inj e; omega)); clear hown11 hgrow11 hat11) | (guard_target = (if Region.wanted _ _ = true then Oper.wp _ (Oper.mk (some 97) _ _ _ _ _) _ _ _ _ else _); refine step_append_row rfl _ _ 22 rfl 29 i0 (.agg #[.string .empty, .int .i64 0]) 2 24 w.heap.size Tryd.underlying22 Hi.out Hz0.out Hz1.out Hz2.out rfl (by decide) v11 (k + 1) (((flatP l).take (k * 2)) ++ [.string xk, .int .i64 xa]) rfl (Fr.own (S := Non) (w := w11) (by with_reducible repeat (first | exact Fr.refl _ _ | assumption | refine Fr.drew ?_ | refine Fr.drewN ?_ _ | refine Fr.alloc ?_ _)) Hown11.out (fun _ _ f => f)) v10 (l.length - k) (flatP (l.drop k)) rfl (SrcAt.own (Fr.own (S := Non) (w := w11) (by with_reducible repeat (first | exact Fr.refl _ _ | assumption | refine Fr.drew ?_ | refine Fr.drewN ?_ _ | refine Fr.alloc ?_ _)) HRest.out (fun _ _ f => f))) flatP_one (by unfold maxLen; omega) (by omega) (by (try simp); omega) ?_; intro v12 w12 hown12 hgrow12 hat12; have HF12 : Hid (Fr (OwnB v11) w11 w12) := Fr.grown (by with_reducible repeat (first | exact Fr.refl _ _ | assumption | refine Fr.drew ?_ | refine Fr.drewN ?_ _ | refine Fr.alloc ?_ _)) hgrow12 (fun _ _ e => e); have Hown12 := Lib.hid hown12; clear hown12 hgrow12 hat12))
                      all_goals
                        go_wp2_with fail
                        go_roundw
                        case rel =>
                          refine ⟨i + 1, _, by omega, by go_num, Hstep, ?_, ?_⟩
                          · have := Hown12.out
                            rw [show (l.take k ++ (xk, xa) :: l.drop k).length = k + 1 + (l.length - k) by simp; omega, show flatP (l.take k ++ (xk, xa) :: l.drop k) = ((flatP l).take (k * 2) ++ [.string xk, .int .i64 xa]) ++ flatP (l.drop k) by rw [flatP_append, flatP_take, List.append_assoc]; rfl]
                            exact this
                          · have h1 : Fr Non w w10 := Hfr.out.trans (HF1.out.trans (Hwi.out.trans HF10.out))
                            have h2 : Fr Non w w11 := h1.then HF11.out (fun i hi e => absurd (own_block_lt HHead.out e).2 (by omega))
                            exact h2.then HF12.out (fun i hi e => absurd (own_block_lt Hown11.out e).2 (by omega))
                        case measure => simp [intOf]; omega
                · have hke : k = l.length := by omega
                  have hkl' : ¬ ((k : Nat) : Int) < ((l.length : Nat) : Int) := by omega
                  have Hstep : Hid (Ins xs (i + 1) (l.take k ++ (xk, xa) :: l.drop k)) := HI.out.step hlt Hx.out hok.out hk HK.out (fun h => absurd h (by omega))
                  have Hke := Lib.hid hke
                  clear hke
                  rcases HOi.out.2 with ⟨hv, h0⟩ | ⟨g, cap', cur, hv, _, _, _, _, _, _⟩
                  · simp only [Value.slice.injEq] at hv
                    obtain ⟨rfl, _, rfl⟩ := hv
                    obtain rfl : l = [] := List.eq_nil_of_length_eq_zero h0
                    obtain rfl : k = 0 := by simpa using hk
                    go_wp2_with fail
                    go_quiet (fail)
                    go_wp2_with fail
                    go_quiet (fail)
                    go_wp2_with fail
                    generalize hwd : World.drewN wr _ = w10
                    have HF10 : Hid (Fr Non wr w10) := by show Fr _ _ _; rw [← hwd]; exact (Fr.refl _ _).drewN _
                    have hP10 := HF10.out.blk HPi.out (fun h => h)
                    have z0 : w10.cell? ⟨pbk, 0, none⟩ = some (.string xk) := cell_of hP10 0
                    have z1 : w10.cell? ⟨pbk, 1, none⟩ = some (.int .i64 xa) := cell_of hP10 1
                    have hp10 := lt_of_heap hP10
                    have Hown10 : Hid (w10.ownsRow pbk 29 2 (.slice none 0 0) 0 []) := ⟨rfl, .inl ⟨rfl, rfl⟩⟩
                    have HHead : Hid (w10.ownsRow w.heap.size 29 2 (.slice none 0 0) 0 []) := ⟨rfl, .inl ⟨rfl, rfl⟩⟩
                    clear hwd hP10 y0 y1
                    go_region_law (first | (guard_target = (if Region.wanted _ _ = true then Oper.wp _ (Oper.mk (some 95) _ _ _ _ _) _ _ _ _ else _); refine step_append_row rfl _ _ 22 rfl 29 i0 (.agg #[.string .empty, .int .i64 0]) 2 24 w.heap.size Tryd.underlying22 Hi.out Hz0.out Hz1.out Hz2.out rfl (by decide) (.slice none 0 0) 0 [] rfl (Fr.own (S := Non) (w := w10) (by with_reducible repeat (first | exact Fr.refl _ _ | assumption | refine Fr.drew ?_ | refine Fr.drewN ?_ _ | refine Fr.alloc ?_ _)) HHead.out (fun _ _ f => f)) _ 1 [.string xk, .int .i64 xa] rfl ⟨rfl, .inr ⟨_, _, rfl, World.news_of_block (by exact heap_alloc_new w10 _)⟩⟩ (fun u hu => by simp at hu; rcases hu with rfl | rfl <;> rfl) (by unfold maxLen; omega) (by omega) (by (try simp); omega) ?_; intro v11 w11 hown11 hgrow11 hat11; have HG11 := Lib.hid hgrow11; have HF11 : Hid (Fr (OwnB (.slice none 0 0)) w10 w11) := Fr.grown (by with_reducible repeat (first | exact Fr.refl _ _ | assumption | refine Fr.drew ?_ | refine Fr.drewN ?_ _ | refine Fr.alloc ?_ _)) hgrow11 (fun _ _ e => e); have hs11 : w10.heap.size ≤ w11.heap.size := HF11.out.size; have Hown11 := Lib.hid hown11; have HRest := Lib.hid (Fr.own HF11.out Hown10.out (fun i hi e => by cases e)); clear hown11 hgrow11 hat11) | (guard_target = (if Region.wanted _ _ = true then Oper.wp _ (Oper.mk (some 97) _ _ _ _ _) _ _ _ _ else _); refine step_append_row rfl _ _ 22 rfl 29 i0 (.agg #[.string .empty, .int .i64 0]) 2 24 w.heap.size Tryd.underlying22 Hi.out Hz0.out Hz1.out Hz2.out rfl (by decide) v11 (0 + 1) ([] ++ [.string xk, .int .i64 xa]) rfl (Fr.own (S := Non) (w := w11) (by with_reducible repeat (first | exact Fr.refl _ _ | assumption | refine Fr.drew ?_ | refine Fr.drewN ?_ _ | refine Fr.alloc ?_ _)) Hown11.out (fun _ _ f => f)) (.slice none 0 0) 0 [] rfl (SrcAt.own (Fr.own (S := Non) (w := w11) (by with_reducible repeat (first | exact Fr.refl _ _ | assumption | refine Fr.drew ?_ | refine Fr.drewN ?_ _ | refine Fr.alloc ?_ _)) HRest.out (fun _ _ f => f))) (fun u hu => by cases hu) (by unfold maxLen; omega) (by omega) (by (try simp); omega) ?_; intro v12 w12 hown12 hgrow12 hat12; have HF12 : Hid (Fr (OwnB v11) w11 w12) := Fr.grown (by with_reducible repeat (first | exact Fr.refl _ _ | assumption | refine Fr.drew ?_ | refine Fr.drewN ?_ _ | refine Fr.alloc ?_ _)) hgrow12 (fun _ _ e => e); have Hown12 := Lib.hid hown12; clear hown12 hgrow12 hat12))
                    all_goals
                      go_wp2_with fail
                      go_roundw
                      case rel =>
                        refine ⟨i + 1, _, by omega, by go_num, Hstep, ?_, ?_⟩
                        · have := Hown12.out
                          exact this
                        · have h1 : Fr Non w w10 := Hfr.out.trans (HF1.out.trans (Hwi.out.trans HF10.out))
                          have h2 : Fr Non w w11 := h1.then HF11.out (fun i hi e => absurd (own_block_lt HHead.out e).2 (by omega))
                          exact h2.then HF12.out (fun i hi e => absurd (own_block_lt Hown11.out e).2 (by omega))
                      case measure => simp [intOf]; omega
                  · simp only [Value.slice.injEq] at hv
                    obtain ⟨rfl, _, rfl⟩ := hv
                    have hgp : g < pbk := by have h := (own_block_lt HO.out (show (Value.slice (some ⟨g, 0, none⟩) l.length lc).ownBlock = some g from rfl)).1; have := HPb.out; omega
                    by_cases hkc : k = lc
                    · subst hkc
                      go_wp2_with fail
                      go_quiet (fail)
                      go_wp2_with fail
                      go_quiet (fail)
                      go_wp2_with fail
                      generalize hwd : World.drewN wr _ = w10
                      have HF10 : Hid (Fr Non wr w10) := by show Fr _ _ _; rw [← hwd]; exact (Fr.refl _ _).drewN _
                      have hP10 := HF10.out.blk HPi.out (fun h => h)
                      have z0 : w10.cell? ⟨pbk, 0, none⟩ = some (.string xk) := cell_of hP10 0
                      have z1 : w10.cell? ⟨pbk, 1, none⟩ = some (.int .i64 xa) := cell_of hP10 1
                      have hp10 := lt_of_heap hP10
                      have Hown10 : Hid (w10.ownsRow pbk 29 2 (.slice none 0 0) 0 []) := ⟨rfl, .inl ⟨rfl, rfl⟩⟩
                      have HHead := Lib.hid (own_head (Fr.own HF10.out HOi.out (fun _ _ f => f)) k hk)
                      clear hwd hP10 y0 y1
                      go_region_law (first | (guard_target = (if Region.wanted _ _ = true then Oper.wp _ (Oper.mk (some 95) _ _ _ _ _) _ _ _ _ else _); refine step_append_row rfl _ _ 22 rfl 29 i0 (.agg #[.string .empty, .int .i64 0]) 2 24 w.heap.size Tryd.underlying22 Hi.out Hz0.out Hz1.out Hz2.out rfl (by decide) (.slice (some ⟨g, 0, none⟩) k k) k ((flatP l).take (k * 2)) rfl (Fr.own (S := Non) (w := w10) (by with_reducible repeat (first | exact Fr.refl _ _ | assumption | refine Fr.drew ?_ | refine Fr.drewN ?_ _ | refine Fr.alloc ?_ _)) HHead.out (fun _ _ f => f)) _ 1 [.string xk, .int .i64 xa] rfl ⟨rfl, .inr ⟨_, _, rfl, World.news_of_block (by exact heap_alloc_new w10 _)⟩⟩ (fun u hu => by simp at hu; rcases hu with rfl | rfl <;> rfl) (by unfold maxLen; omega) (by omega) (by (try simp); omega) ?_; intro v11 w11 hown11 hgrow11 hat11; have HG11 := Lib.hid hgrow11; have HF11 : Hid (Fr (OwnB (.slice (some ⟨g, 0, none⟩) k k)) w10 w11) := Fr.grown (by with_reducible repeat (first | exact Fr.refl _ _ | assumption | refine Fr.drew ?_ | refine Fr.drewN ?_ _ | refine Fr.alloc ?_ _)) hgrow11 (fun _ _ e => e); have hs11 : w10.heap.size ≤ w11.heap.size := HF11.out.size; have Hown11 := Lib.hid hown11; have HRest := Lib.hid (Fr.own HF11.out Hown10.out (fun i hi e => by cases hi)); clear hown11 hgrow11 hat11) | (guard_target = (if Region.wanted _ _ = true then Oper.wp _ (Oper.mk (some 97) _ _ _ _ _) _ _ _ _ else _); refine step_append_row rfl _ _ 22 rfl 29 i0 (.agg #[.string .empty, .int .i64 0]) 2 24 w.heap.size Tryd.underlying22 Hi.out Hz0.out Hz1.out Hz2.out rfl (by decide) v11 (k + 1) (((flatP l).take (k * 2)) ++ [.string xk, .int .i64 xa]) rfl (Fr.own (S := Non) (w := w11) (by with_reducible repeat (first | exact Fr.refl _ _ | assumption | refine Fr.drew ?_ | refine Fr.drewN ?_ _ | refine Fr.alloc ?_ _)) Hown11.out (fun _ _ f => f)) (.slice none 0 0) 0 [] rfl (SrcAt.own (Fr.own (S := Non) (w := w11) (by with_reducible repeat (first | exact Fr.refl _ _ | assumption | refine Fr.drew ?_ | refine Fr.drewN ?_ _ | refine Fr.alloc ?_ _)) HRest.out (fun _ _ f => f))) (fun u hu => by cases hu) (by unfold maxLen; omega) (by omega) (by (try simp); omega) ?_; intro v12 w12 hown12 hgrow12 hat12; have HF12 : Hid (Fr (OwnB v11) w11 w12) := Fr.grown (by with_reducible repeat (first | exact Fr.refl _ _ | assumption | refine Fr.drew ?_ | refine Fr.drewN ?_ _ | refine Fr.alloc ?_ _)) hgrow12 (fun _ _ e => e); have Hown12 := Lib.hid hown12; clear hown12 hgrow12 hat12))
                      all_goals
                        go_wp2_with fail
                        go_roundw
                        case rel =>
                          refine ⟨i + 1, _, by omega, by go_num, Hstep, ?_, ?_⟩
                          · have := Hown12.out
                            rw [show (l.take k ++ (xk, xa) :: l.drop k).length = k + 1 + (l.length - k) by simp; omega, show flatP (l.take k ++ (xk, xa) :: l.drop k) = ((flatP l).take (k * 2) ++ [.string xk, .int .i64 xa]) ++ [] by rw [List.drop_eq_nil_of_le (by omega : l.length ≤ k), flatP_append, flatP_take, List.append_nil]; rfl, show k + 1 + (l.length - k) = k + 1 + 0 by omega]
                            exact this
                          · have h1 : Fr Non w w10 := Hfr.out.trans (HF1.out.trans (Hwi.out.trans HF10.out))
                            have h2 : Fr Non w w11 := h1.then HF11.out (fun i hi e => absurd (own_block_lt HHead.out e).2 (by omega))
                            exact h2.then HF12.out (fun i hi e => absurd (own_block_lt Hown11.out e).2 (by omega))
                        case measure => simp [intOf]; omega
                    · have hkc' : k ≠ lc := by omega
                      have hklc : k ≤ lc := by omega
                      clear hkc
                      go_wp2_with fail
                      go_quiet (fail)
                      go_wp2_with fail
                      go_quiet (fail)
                      go_wp2_with (at_builtin; refine wpList_append_row rfl _ _ 22 rfl 29 i0 (.agg #[.string .empty, .int .i64 0]) 2 24 pbk Tryd.underlying22 Hi.out Hz0.out Hz1.out Hz2.out rfl (by decide) (.slice none 0 0) 0 [] rfl ⟨rfl, .inl ⟨rfl, rfl⟩⟩ _ (l.length - k) (flatP (l.drop k)) rfl (src_end (by omega) _ _) flatP_one (by unfold maxLen; omega) (by omega) (by (try simp); omega) ?_; intro v10 w10 hown10 hgrow10 hat10; have hF10 : Fr Non wr w10 := Fr.trans (b := _) (by with_reducible repeat (first | exact Fr.refl _ _ | assumption | refine Fr.drew ?_ | refine Fr.drewN ?_ _ | refine Fr.alloc ?_ _)) (Fr.grown (S := Non) (Fr.refl _ _) hgrow10 (fun _ _ e => by cases e)); simp only [Nat.zero_add, List.nil_append] at hown10; have hP10 := hF10.blk HPi.out (fun h => h); have z0 : w10.cell? ⟨pbk, 0, none⟩ = some (.string xk) := cell_of hP10 0; have z1 : w10.cell? ⟨pbk, 1, none⟩ = some (.int .i64 xa) := cell_of hP10 1; have hp10 := lt_of_heap hP10; have HF10 := Lib.hid hF10; have Hown10 := Lib.hid hown10; have HHead := Lib.hid (own_head (Fr.own hF10 HOi.out (fun _ _ f => f)) k hk); clear hown10 hgrow10 hat10 hF10 hP10 y0 y1)
                      go_region_law (first | (guard_target = (if Region.wanted _ _ = true then Oper.wp _ (Oper.mk (some 95) _ _ _ _ _) _ _ _ _ else _); refine step_append_row rfl _ _ 22 rfl 29 i0 (.agg #[.string .empty, .int .i64 0]) 2 24 w.heap.size Tryd.underlying22 Hi.out Hz0.out Hz1.out Hz2.out rfl (by decide) (.slice (some ⟨g, 0, none⟩) k lc) k (flatP l |>.take (k * 2)) rfl (Fr.own (S := Non) (w := w10) (by with_reducible repeat (first | exact Fr.refl _ _ | assumption | refine Fr.drew ?_ | refine Fr.drewN ?_ _ | refine Fr.alloc ?_ _)) HHead.out (fun _ _ f => f)) _ 1 [.string xk, .int .i64 xa] rfl ⟨rfl, .inr ⟨_, _, rfl, World.news_of_block (by exact heap_alloc_new w10 _)⟩⟩ (fun u hu => by simp at hu; rcases hu with rfl | rfl <;> rfl) (by unfold maxLen; omega) (by omega) (by (try simp); omega) ?_; intro v11 w11 hown11 hgrow11 hat11; have HG11 := Lib.hid hgrow11; have HF11 : Hid (Fr (OwnB (.slice (some ⟨g, 0, none⟩) k lc)) w10 w11) := Fr.grown (by with_reducible repeat (first | exact Fr.refl _ _ | assumption | refine Fr.drew ?_ | refine Fr.drewN ?_ _ | refine Fr.alloc ?_ _)) hgrow11 (fun _ _ e => e); have hs11 : w10.heap.size ≤ w11.heap.size := HF11.out.size; have Hown11 := Lib.hid hown11; have HRest := Lib.hid (Fr.own HF11.out Hown10.out (fun i hi e => by have h1 := (own_block_lt Hown10.out hi).2; have e' : g = i := Option.some.inj e; omega)); clear hown11 hgrow11 hat11) | (guard_target = (if Region.wanted _ _ = true then Oper.wp _ (Oper.mk (some 97) _ _ _ _ _) _ _ _ _ else _); refine step_append_row rfl _ _ 22 rfl 29 i0 (.agg #[.string .empty, .int .i64 0]) 2 24 w.heap.size Tryd.underlying22 Hi.out Hz0.out Hz1.out Hz2.out rfl (by decide) v11 (k + 1) (((flatP l).take (k * 2)) ++ [.string xk, .int .i64 xa]) rfl (Fr.own (S := Non) (w := w11) (by with_reducible repeat (first | exact Fr.refl _ _ | assumption | refine Fr.drew ?_ | refine Fr.drewN ?_ _ | refine Fr.alloc ?_ _)) Hown11.out (fun _ _ f => f)) v10 (l.length - k) (flatP (l.drop k)) rfl (SrcAt.own (Fr.own (S := Non) (w := w11) (by with_reducible repeat (first | exact Fr.refl _ _ | assumption | refine Fr.drew ?_ | refine Fr.drewN ?_ _ | refine Fr.alloc ?_ _)) HRest.out (fun _ _ f => f))) flatP_one (by unfold maxLen; omega) (by omega) (by (try simp); omega) ?_; intro v12 w12 hown12 hgrow12 hat12; have HF12 : Hid (Fr (OwnB v11) w11 w12) := Fr.grown (by with_reducible repeat (first | exact Fr.refl _ _ | assumption | refine Fr.drew ?_ | refine Fr.drewN ?_ _ | refine Fr.alloc ?_ _)) hgrow12 (fun _ _ e => e); have Hown12 := Lib.hid hown12; clear hown12 hgrow12 hat12))
                      all_goals
                        go_wp2_with fail
                        go_roundw
                        case rel =>
                          refine ⟨i + 1, _, by omega, by go_num, Hstep, ?_, ?_⟩
                          · have := Hown12.out
                            rw [show (l.take k ++ (xk, xa) :: l.drop k).length = k + 1 + (l.length - k) by simp; omega, show flatP (l.take k ++ (xk, xa) :: l.drop k) = ((flatP l).take (k * 2) ++ [.string xk, .int .i64 xa]) ++ flatP (l.drop k) by rw [flatP_append, flatP_take, List.append_assoc]; rfl]
                            exact this
                          · have h1 : Fr Non w w10 := Hfr.out.trans (HF1.out.trans (Hwi.out.trans HF10.out))
                            have h2 : Fr Non w w11 := h1.then HF11.out (fun i hi e => absurd (own_block_lt HHead.out e).2 (by omega))
                            exact h2.then HF12.out (fun i hi e => absurd (own_block_lt Hown11.out e).2 (by omega))
                        case measure => simp [intOf]; omega
    · have hlt' : ¬ ((i : Nat) : Int) < ((xs.length : Nat) : Int) := by omega
      have hie : i = xs.length := by omega
      have HIe := Lib.hid hie
      clear hll
      obtain ⟨g, cap, rfl, _, _, hg, hgl, hcell⟩ := own_full HO.out (by have := Hll.out; omega)
      have Hcell := Lib.hid hcell
      clear hcell hie
      rw [Hll.out] at HO ⊢
      go_wp2_with fail
      go_ret2
      have hI : Ins xs xs.length l := HIe.out ▸ HI.out
      have hval := hI.valid (id := id) ⟨h1, by omega⟩ ⟨h3, h4⟩
      have hFN : Fr Non wr (wr.alloc (.cells #[.int .i64 id, .slice (some ⟨g, 0, none⟩) i cap, .string ⟨#[98, 101, 103, 105, 110]⟩, .int .i64 0, .slice none 0 0, .int .i64 0, .int .i64 0, .int .i64 0, .int .i64 0, .bool false, .int .i64 1] 45)) := (Fr.refl _ _).alloc _
      have hwr : w.heap.size ≤ wr.heap.size := Hfr.out.size
      refine ⟨Hfr.out.trans hFN, .inl ⟨hval, wr.heap.size, g, cap, l, rfl, hI.all, hI.ris, hwr, hg, ?_⟩⟩
      refine ⟨?_, fun j hj => ⟨(hFN.cell (p := ⟨g, j * 2, none⟩) hgl (fun f => f)).trans (Hcell.out _ _ (flatP_get l j hj).1), (hFN.cell (p := ⟨g, j * 2 + 1, none⟩) hgl (fun f => f)).trans (Hcell.out _ _ (flatP_get l j hj).2)⟩, ⟨rfl, .inl ⟨rfl, rfl⟩⟩, start_wf hval hI.all, ⟨by omega, by omega, by simp; omega⟩, ⟨by omega, by simp [Value.ownBlock], by simp [Value.ownBlock]⟩, by simp [Tx.start]⟩
      rw [heap_alloc_new]
      show _ = some (Obj.cells #[.int .i64 id, .slice (some ⟨g, 0, none⟩) l.length cap, _, _, _, _, _, _, _, _, _] _ _)
      rw [Hll.out]; rfl
end Go.Proofs.YtbfahkpckhbajaaDoor
