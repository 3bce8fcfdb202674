/- txn.read: what a text says of a key: its number, who holds it, the number to come. Condition: the text is at most 2,000,000 bytes long. -/
import Derived.Test.YtbfahkpckhbajaaDoorQNum
import Derived.Lib.CountLaws
import Derived.Lib.SplitLaws
import Derived.Deep.DeepCutAuto
import Derived.Deep.RegionWith
namespace Go.Proofs.YtbfahkpckhbajaaDoor
open Go.RowKit

/-- What the loop of txn.read has after k words: three numbers, and whether all is well. -/
def rd (xs : List ByteArray) : Nat → Int × Int × Int × Bool
  | 0 => (0, 0, 0, xs.length == 1 || xs.length == 3)
  | k + 1 =>
    let p := rd xs k
    if k < xs.length ∧ p.2.2.2 = true then
      let x := numB (xs.getD k .empty) (if k = 1 then 999 else 999999999)
      (if k = 0 then x.1 else p.1, if k = 1 then x.1 else p.2.1, if k = 2 then x.1 else p.2.2.1, x.2)
    else p
/-- The words of a text. -/
def wordsB (s : ByteArray) : List ByteArray := Lib.splitB ⟨#[32]⟩ 0 (Lib.countB s ⟨#[32]⟩) s
/-- What txn.read makes of words. -/
def readL (xs : List ByteArray) : Int × Int × Int :=
  if (rd xs 3).2.2.2 = true ∧ ¬ (xs.length = 3 ∧ (rd xs 3).2.1 = 0) then ((rd xs 3).1, (rd xs 3).2.1, (rd xs 3).2.2.1) else (0, 0, 0)
def readB (s : ByteArray) : Int × Int × Int := readL (wordsB s)
abbrev three (x : Int × Int × Int) : Value := .agg #[.int .i64 x.1, .int .i64 x.2.1, .int .i64 x.2.2]

theorem heap_alloc_if (w : World) (o : Obj) (k : Nat) : (w.alloc o).heap[k]? = if k = w.heap.size then some o else w.heap[k]? := by
  show (w.heap.push o)[k]? = _
  rw [Array.getElem?_push]

theorem alloc4 (w : World) (a b c d : Obj) : ((((w.alloc a).alloc b).alloc c).alloc d).heap[w.heap.size]? = some a ∧ ((((w.alloc a).alloc b).alloc c).alloc d).heap[w.heap.size + 1]? = some b ∧
    ((((w.alloc a).alloc b).alloc c).alloc d).heap[w.heap.size + 1 + 1]? = some c ∧ ((((w.alloc a).alloc b).alloc c).alloc d).heap[w.heap.size + 1 + 1 + 1]? = some d := by
  simp only [heap_alloc_if, World.size_alloc]
  refine ⟨?_, ?_, ?_, ?_⟩
  · rw [if_neg (by omega), if_neg (by omega), if_neg (by omega), if_pos trivial]
  · rw [if_neg (by omega), if_neg (by omega), if_pos trivial]
  · rw [if_neg (by omega), if_pos trivial]
  · rw [if_pos trivial]

/-- What the blocks of txn.read hold after k rounds. -/
structure RdMem (xs : List ByteArray) (w wr : World) (k : Nat) : Prop where
  fr : Fr Non w wr
  res : wr.heap[w.heap.size]? = some (.cells #[.int .i64 0, .int .i64 0, .int .i64 0] 57 (0, 0))
  row : wr.heap[w.heap.size + 1]? = some (.cells (xs.map Value.string).toArray 9 (0, 0))
  val : wr.heap[w.heap.size + 1 + 1]? = some (.cells #[.int .i64 (rd xs k).1, .int .i64 (rd xs k).2.1, .int .i64 (rd xs k).2.2.1] 57 (0, 0))
  ptr : wr.heap[w.heap.size + 1 + 1 + 1]? = some (.cells #[.pointer (some ⟨w.heap.size + 1 + 1, 0, none⟩), .pointer (some ⟨w.heap.size + 1 + 1, 1, none⟩), .pointer (some ⟨w.heap.size + 1 + 1, 2, none⟩)] 74 (0, 0))

theorem rd_go {xs : List ByteArray} {k : Nat} (h : k < xs.length) (hb : (rd xs k).2.2.2 = true) : rd xs (k + 1) = (let p := rd xs k; let x := numB (xs.getD k .empty) (if k = 1 then 999 else 999999999); (if k = 0 then x.1 else p.1, if k = 1 then x.1 else p.2.1, if k = 2 then x.1 else p.2.2.1, x.2)) := if_pos ⟨h, hb⟩
theorem rd_skip {xs : List ByteArray} {k : Nat} (h : ¬ (k < xs.length ∧ (rd xs k).2.2.2 = true)) : rd xs (k + 1) = rd xs k := if_neg h
theorem RdMem.skip {xs : List ByteArray} {w wr : World} {k : Nat} (hm : RdMem xs w wr k) (h : ¬ (k < xs.length ∧ (rd xs k).2.2.2 = true)) : RdMem xs w wr (k + 1) :=
  ⟨hm.fr, hm.res, hm.row, by rw [rd_skip h]; exact hm.val, hm.ptr⟩
theorem RdMem.fr' {xs : List ByteArray} {w wr w' : World} {k : Nat} (hm : RdMem xs w wr k) (hf : Fr Non wr w') : RdMem xs w w' k :=
  ⟨hm.fr.trans hf, hf.blk hm.res (fun h => h), hf.blk hm.row (fun h => h), hf.blk hm.val (fun h => h), hf.blk hm.ptr (fun h => h)⟩
theorem RdMem.go {xs : List ByteArray} {w wr : World} {k : Nat} (hm : RdMem xs w wr k) (h : k < xs.length) (hb : (rd xs k).2.2.2 = true) (hk : k < 3) :
    RdMem xs w (wr.setCell ⟨w.heap.size + 1 + 1, k, none⟩ (.int .i64 (numB (xs.getD k .empty) (if k = 1 then 999 else 999999999)).1)) (k + 1) := by
  refine ⟨hm.fr.setCell (by simp; omega) _, ?_, ?_, ?_, ?_⟩
  · rw [heap_set_ne _ _ _ _ (by simp; omega)]; exact hm.res
  · rw [heap_set_ne _ _ _ _ (by simp)]; exact hm.row
  · rw [heap_set_same, hm.val, rd_go h hb]
    have hk3 : k = 0 ∨ k = 1 ∨ k = 2 := by omega
    rcases hk3 with rfl | rfl | rfl <;> simp [upd]
  · rw [heap_set_ne _ _ _ _ (by simp)]; exact hm.ptr

theorem words_length (s : ByteArray) : (wordsB s).length = Lib.countB s ⟨#[32]⟩ + 1 := by
  unfold wordsB
  exact Lib.splitB_all _ (by decide) _ _ _ rfl
theorem words_le (s : ByteArray) : Lib.countB s ⟨#[32]⟩ ≤ s.size := Lib.countB_le _ (by decide) _ _ (Nat.le_refl _)
theorem split_size (sep : ByteArray) (save : Nat) : ∀ (k : Nat) (s x : ByteArray), x ∈ Lib.splitB sep save k s → x.size ≤ s.size
  | 0, s, x, h => by
    rw [Lib.splitB_zero] at h
    simp at h; rw [h]; exact Nat.le_refl _
  | k + 1, s, x, h => by
    rw [Lib.splitB] at h
    split at h
    · simp at h; rw [h]; exact Nat.le_refl _
    · rcases List.mem_cons.1 h with h | h
      · rw [h]; simp [ByteArray.size_extract]; omega
      · have := split_size sep save k _ x h
        simp [ByteArray.size_extract] at this; omega
theorem word_size (s : ByteArray) (k : Nat) : ((wordsB s).getD k .empty).size ≤ s.size := by
  rw [List.getD_eq_getElem?_getD]
  cases h : (wordsB s)[k]? with
  | none => simp
  | some x => exact split_size _ _ _ _ _ (List.mem_of_getElem? h)

set_option maxRecDepth 100000 in
set_option maxHeartbeats 4000000 in
theorem read_any {B : Nat} (s : ByteArray) (w : World) (hs : s.size ≤ 2000000) (ht : Gl B w) :
    Calls Tryd.prog 27 #[.string s] w fun e w' => e = .returned (three (readB s)) ∧ Fr Non w w' := by
  have hl := words_le s
  have Hsz := Lib.hid (fun k => Nat.le_trans (word_size s k) hs)
  have hlen := words_length s
  unfold readB
  generalize hxs : wordsB s = xs at hlen Hsz
  unfold wordsB at hxs
  generalize hc : Lib.countB s ⟨#[32]⟩ = c at hl hlen hxs
  go_enter Tryd.func27, Tryd.ntmps27
  go_wp2_with fail
  obtain ⟨m, hm⟩ := (ht.non ((Fr.refl Non w).alloc (.cells #[.int .i64 0, .int .i64 0, .int .i64 0] 57))).most
  refine (Tryd.strings_Split s ⟨#[32]⟩ m _ (by omega) hm (by decide)).mono ?_
  rintro e w1 ⟨rfl, hw1⟩
  rw [hc] at hw1 ⊢
  rw [hxs] at hw1
  have Hlen := Lib.hid hlen
  have Ht := Lib.hid ht
  clear hc hxs hlen ht
  subst hw1
  clear hm
  have hok : ((xs.length == 1 || xs.length == 3) : Bool) = ((((c : Nat) : Int) + 1 == 1) || (((c : Nat) : Int) + 1 == 3)) := by
    rw [Hlen.out, Bool.eq_iff_iff]; simp; omega
  have Hok := Lib.hid hok
  clear hok
  have hdec : c = 0 ∨ ¬ c = 0 := by omega
  have Hc : Hid ((((c : Nat) : Int) + 1 == 1) = true ∨ (((c : Nat) : Int) + 1 == 1) = false) := by
    cases (((c : Nat) : Int) + 1 == 1) <;> simp [Hid]
  go_upto_region 3 with fail
  go_cut [5] (fun v5 wx => v5 = .bool (xs.length == 1 || xs.length == 3) ∧ wx = (((w.alloc (.cells #[.int .i64 0, .int .i64 0, .int .i64 0] 57)).alloc (.cells (xs.map Value.string).toArray 9)).alloc (.cells #[.int .i64 0, .int .i64 0, .int .i64 0] 57)))
  case first =>
    rcases Hc.out with h1' | h1'
    all_goals
      go_wp2_with fail
      go_meet
      exact ⟨by rw [Hok.out, h1']; simp, rfl⟩
  case rest =>
    obtain ⟨rfl, rfl⟩ := hcut
    generalize hok0 : (xs.length == 1 || xs.length == 3) = ok0
    have Hok0 := Lib.hid hok0
    clear hok0
    go_wp2_with fail
    go_loopw [24, 5] (fun v24 v5 wr => ∃ k : Nat, k ≤ 3 ∧ v24 = .int .i64 k ∧ v5 = .bool (rd xs k).2.2.2 ∧ RdMem xs w wr k) (fun v24 _ _ => 3 - (intOf v24).toNat)
    case atStart =>
      refine ⟨0, by omega, rfl, ?_, ?_⟩
      · show _ = Value.bool (xs.length == 1 || xs.length == 3)
        rw [Hok0.out]
      · refine ⟨((((Fr.refl Non w).alloc _).alloc _).alloc _).alloc _, ?_, ?_, ?_, ?_⟩
        · exact (alloc4 w _ _ _ _).1
        · exact (alloc4 w _ _ _ _).2.1
        · exact (alloc4 w _ _ _ _).2.2.1
        · exact (alloc4 w _ _ _ _).2.2.2
    case round =>
      obtain ⟨k, hk, rfl, rfl, hm⟩ := hrel
      have hk3 : k = 0 ∨ k = 1 ∨ k = 2 ∨ k = 3 := by omega
      rcases hk3 with rfl | rfl | rfl | rfl
      · by_cases hlt : 0 < xs.length
        · have hltc : (0 : Int) < (c : Int) + 1 := by rw [Hlen.out] at hlt; omega
          cases hb : (rd xs 0).2.2.2 with
          | true =>
            have Hgo := Lib.hid (fun W (hW : RdMem xs w W 0) => hW.go hlt hb (by omega))
            have Hok2 : Hid ((rd xs (0 + 1)).2.2.2 = (numB (xs.getD 0 .empty) 999999999).2) := by rw [rd_go hlt hb]; rfl
            have Hm := Lib.hid hm
            have p0 : wr.cell? ⟨w.heap.size + 1 + 1 + 1, 0, none⟩ = some (.pointer (some ⟨w.heap.size + 1 + 1, 0, none⟩)) := cell_of hm.ptr 0
            have r0 : wr.cell? ⟨w.heap.size + 1, 0, none⟩ = some (.string (xs.getD 0 .empty)) := by
              rw [cell_of hm.row]; simp [List.getD, hlt]
            have v0 : wr.cell? ⟨w.heap.size + 1 + 1, 0, none⟩ = some (.int .i64 (rd xs 0).1) := cell_of hm.val 0
            have f0 := free_of hm.val 0
            have hzs := lt_of_heap hm.ptr
            have hxz := Hsz.out 0
            clear hm hb hlt
            have n1 : w.heap.size + 1 < wr.heap.size := by omega
            have n2 : w.heap.size + 1 + 1 < wr.heap.size := by omega
            generalize hx : xs.getD 0 .empty = x at r0 hxz
            have Hxk := Lib.hid hx
            clear hx
            go_wp2_with fail
            go_region_with (go_at_call 35; refine (number_any (B := B) _ _ _ ?_ ?_ ?_).mono ?_; (omega); (omega); (exact Ht.out.non (Hm.out.fr.trans ((Fr.refl Non wr).drew.alloc _))); rintro e w' ⟨rfl, hf⟩; have g1 : w'.cell? ⟨w.heap.size + 1 + 1, 0, none⟩ = _ := (hf.cell (by simp; omega) (fun h => h)).trans ((((Fr.refl Non wr).drew.alloc _).cell (by simp; omega) (fun h => h)).trans v0); have g2 : w'.frozen? ⟨w.heap.size + 1 + 1, 0, none⟩ = _ := (hf.frozen (by simp; omega) (fun h => h)).trans ((((Fr.refl Non wr).drew.alloc _).frozen (by simp; omega) (fun h => h)).trans f0); have hF : Fr Non wr w' := (((Fr.refl Non wr).drew.alloc _).trans hf); clear hf)
            all_goals go_wp2
            all_goals
              go_roundw
              case rel =>
                refine ⟨0 + 1, by omega, rfl, by rw [Hok2.out, Hxk.out], ?_⟩
                have := Hgo.out _ (Hm.out.fr' ‹Fr Non wr _›)
                rw [Hxk.out] at this
                exact this
              case measure => simp [intOf]
          | false =>
            have hn : ¬ (0 < xs.length ∧ (rd xs 0).2.2.2 = true) := by rw [hb]; simp
            have Hr : Hid ((rd xs (0 + 1)).2.2.2 = false) := by rw [rd_skip hn]; exact hb
            have Hm := Lib.hid (hm.skip hn)
            have p0 : wr.cell? ⟨w.heap.size + 1 + 1 + 1, 0, none⟩ = some (.pointer (some ⟨w.heap.size + 1 + 1, 0, none⟩)) := cell_of hm.ptr 0
            clear hm hb hlt hn
            go_wp2_with fail
            go_roundw
            case rel => exact ⟨0 + 1, by omega, rfl, by rw [Hr.out], Hm.out⟩
            case measure => simp [intOf]
        · have hn : ¬ (0 < xs.length ∧ (rd xs 0).2.2.2 = true) := fun h => hlt h.1
          have hltc : ¬ (0 : Int) < (c : Int) + 1 := by rw [Hlen.out] at hlt; omega
          have Hr : Hid ((rd xs (0 + 1)).2.2.2 = (rd xs 0).2.2.2) := by rw [rd_skip hn]; rfl
          have Hm := Lib.hid (hm.skip hn)
          have p0 : wr.cell? ⟨w.heap.size + 1 + 1 + 1, 0, none⟩ = some (.pointer (some ⟨w.heap.size + 1 + 1, 0, none⟩)) := cell_of hm.ptr 0
          clear hm hlt hn
          go_wp2_with fail
          go_roundw
          case rel => exact ⟨0 + 1, by omega, rfl, by rw [Hr.out], Hm.out⟩
          case measure => simp [intOf]
      · by_cases hlt : 1 < xs.length
        · have hltc : (1 : Int) < (c : Int) + 1 := by rw [Hlen.out] at hlt; omega
          cases hb : (rd xs 1).2.2.2 with
          | true =>
            have Hgo := Lib.hid (fun W (hW : RdMem xs w W 1) => hW.go hlt hb (by omega))
            have Hok2 : Hid ((rd xs (1 + 1)).2.2.2 = (numB (xs.getD 1 .empty) 999).2) := by rw [rd_go hlt hb]; rfl
            have Hm := Lib.hid hm
            have p0 : wr.cell? ⟨w.heap.size + 1 + 1 + 1, 1, none⟩ = some (.pointer (some ⟨w.heap.size + 1 + 1, 1, none⟩)) := cell_of hm.ptr 1
            have r0 : wr.cell? ⟨w.heap.size + 1, 1, none⟩ = some (.string (xs.getD 1 .empty)) := by
              rw [cell_of hm.row]; simp [List.getD, hlt]
            have v0 : wr.cell? ⟨w.heap.size + 1 + 1, 1, none⟩ = some (.int .i64 (rd xs 1).2.1) := cell_of hm.val 1
            have f0 := free_of hm.val 1
            have hzs := lt_of_heap hm.ptr
            have hxz := Hsz.out 1
            clear hm hb hlt
            have n1 : w.heap.size + 1 < wr.heap.size := by omega
            have n2 : w.heap.size + 1 + 1 < wr.heap.size := by omega
            generalize hx : xs.getD 1 .empty = x at r0 hxz
            have Hxk := Lib.hid hx
            clear hx
            go_wp2_with fail
            go_region_with (go_at_call 35; refine (number_any (B := B) _ _ _ ?_ ?_ ?_).mono ?_; (omega); (omega); (exact Ht.out.non (Hm.out.fr.trans ((Fr.refl Non wr).drew.alloc _))); rintro e w' ⟨rfl, hf⟩; have g1 : w'.cell? ⟨w.heap.size + 1 + 1, 1, none⟩ = _ := (hf.cell (by simp; omega) (fun h => h)).trans ((((Fr.refl Non wr).drew.alloc _).cell (by simp; omega) (fun h => h)).trans v0); have g2 : w'.frozen? ⟨w.heap.size + 1 + 1, 1, none⟩ = _ := (hf.frozen (by simp; omega) (fun h => h)).trans ((((Fr.refl Non wr).drew.alloc _).frozen (by simp; omega) (fun h => h)).trans f0); have hF : Fr Non wr w' := (((Fr.refl Non wr).drew.alloc _).trans hf); clear hf)
            all_goals go_wp2
            all_goals
              go_roundw
              case rel =>
                refine ⟨1 + 1, by omega, rfl, by rw [Hok2.out, Hxk.out], ?_⟩
                have := Hgo.out _ (Hm.out.fr' ‹Fr Non wr _›)
                rw [Hxk.out] at this
                exact this
              case measure => simp [intOf]
          | false =>
            have hn : ¬ (1 < xs.length ∧ (rd xs 1).2.2.2 = true) := by rw [hb]; simp
            have Hr : Hid ((rd xs (1 + 1)).2.2.2 = false) := by rw [rd_skip hn]; exact hb
            have Hm := Lib.hid (hm.skip hn)
            have p0 : wr.cell? ⟨w.heap.size + 1 + 1 + 1, 1, none⟩ = some (.pointer (some ⟨w.heap.size + 1 + 1, 1, none⟩)) := cell_of hm.ptr 1
            clear hm hb hlt hn
            go_wp2_with fail
            go_roundw
            case rel => exact ⟨1 + 1, by omega, rfl, by rw [Hr.out], Hm.out⟩
            case measure => simp [intOf]
        · have hn : ¬ (1 < xs.length ∧ (rd xs 1).2.2.2 = true) := fun h => hlt h.1
          have hltc : ¬ (1 : Int) < (c : Int) + 1 := by rw [Hlen.out] at hlt; omega
          have Hr : Hid ((rd xs (1 + 1)).2.2.2 = (rd xs 1).2.2.2) := by rw [rd_skip hn]; rfl
          have Hm := Lib.hid (hm.skip hn)
          have p0 : wr.cell? ⟨w.heap.size + 1 + 1 + 1, 1, none⟩ = some (.pointer (some ⟨w.heap.size + 1 + 1, 1, none⟩)) := cell_of hm.ptr 1
          clear hm hlt hn
          go_wp2_with fail
          go_roundw
          case rel => exact ⟨1 + 1, by omega, rfl, by rw [Hr.out], Hm.out⟩
          case measure => simp [intOf]
      · by_cases hlt : 2 < xs.length
        · have hltc : (2 : Int) < (c : Int) + 1 := by rw [Hlen.out] at hlt; omega
          cases hb : (rd xs 2).2.2.2 with
          | true =>
            have Hgo := Lib.hid (fun W (hW : RdMem xs w W 2) => hW.go hlt hb (by omega))
            have Hok2 : Hid ((rd xs (2 + 1)).2.2.2 = (numB (xs.getD 2 .empty) 999999999).2) := by rw [rd_go hlt hb]; rfl
            have Hm := Lib.hid hm
            have p0 : wr.cell? ⟨w.heap.size + 1 + 1 + 1, 2, none⟩ = some (.pointer (some ⟨w.heap.size + 1 + 1, 2, none⟩)) := cell_of hm.ptr 2
            have r0 : wr.cell? ⟨w.heap.size + 1, 2, none⟩ = some (.string (xs.getD 2 .empty)) := by
              rw [cell_of hm.row]; simp [List.getD, hlt]
            have v0 : wr.cell? ⟨w.heap.size + 1 + 1, 2, none⟩ = some (.int .i64 (rd xs 2).2.2.1) := cell_of hm.val 2
            have f0 := free_of hm.val 2
            have hzs := lt_of_heap hm.ptr
            have hxz := Hsz.out 2
            clear hm hb hlt
            have n1 : w.heap.size + 1 < wr.heap.size := by omega
            have n2 : w.heap.size + 1 + 1 < wr.heap.size := by omega
            generalize hx : xs.getD 2 .empty = x at r0 hxz
            have Hxk := Lib.hid hx
            clear hx
            go_wp2_with fail
            go_region_with (go_at_call 35; refine (number_any (B := B) _ _ _ ?_ ?_ ?_).mono ?_; (omega); (omega); (exact Ht.out.non (Hm.out.fr.trans ((Fr.refl Non wr).drew.alloc _))); rintro e w' ⟨rfl, hf⟩; have g1 : w'.cell? ⟨w.heap.size + 1 + 1, 2, none⟩ = _ := (hf.cell (by simp; omega) (fun h => h)).trans ((((Fr.refl Non wr).drew.alloc _).cell (by simp; omega) (fun h => h)).trans v0); have g2 : w'.frozen? ⟨w.heap.size + 1 + 1, 2, none⟩ = _ := (hf.frozen (by simp; omega) (fun h => h)).trans ((((Fr.refl Non wr).drew.alloc _).frozen (by simp; omega) (fun h => h)).trans f0); have hF : Fr Non wr w' := (((Fr.refl Non wr).drew.alloc _).trans hf); clear hf)
            all_goals go_wp2
            all_goals
              go_roundw
              case rel =>
                refine ⟨2 + 1, by omega, rfl, by rw [Hok2.out, Hxk.out], ?_⟩
                have := Hgo.out _ (Hm.out.fr' ‹Fr Non wr _›)
                rw [Hxk.out] at this
                exact this
              case measure => simp [intOf]
          | false =>
            have hn : ¬ (2 < xs.length ∧ (rd xs 2).2.2.2 = true) := by rw [hb]; simp
            have Hr : Hid ((rd xs (2 + 1)).2.2.2 = false) := by rw [rd_skip hn]; exact hb
            have Hm := Lib.hid (hm.skip hn)
            have p0 : wr.cell? ⟨w.heap.size + 1 + 1 + 1, 2, none⟩ = some (.pointer (some ⟨w.heap.size + 1 + 1, 2, none⟩)) := cell_of hm.ptr 2
            clear hm hb hlt hn
            go_wp2_with fail
            go_roundw
            case rel => exact ⟨2 + 1, by omega, rfl, by rw [Hr.out], Hm.out⟩
            case measure => simp [intOf]
        · have hn : ¬ (2 < xs.length ∧ (rd xs 2).2.2.2 = true) := fun h => hlt h.1
          have hltc : ¬ (2 : Int) < (c : Int) + 1 := by rw [Hlen.out] at hlt; omega
          have Hr : Hid ((rd xs (2 + 1)).2.2.2 = (rd xs 2).2.2.2) := by rw [rd_skip hn]; rfl
          have Hm := Lib.hid (hm.skip hn)
          have p0 : wr.cell? ⟨w.heap.size + 1 + 1 + 1, 2, none⟩ = some (.pointer (some ⟨w.heap.size + 1 + 1, 2, none⟩)) := cell_of hm.ptr 2
          clear hm hlt hn
          go_wp2_with fail
          go_roundw
          case rel => exact ⟨2 + 1, by omega, rfl, by rw [Hr.out], Hm.out⟩
          case measure => simp [intOf]
      · have hv0 : wr.cell? ⟨w.heap.size + 1 + 1, 0, none⟩ = some (.int .i64 (rd xs 3).1) := cell_of hm.val 0
        have hv1 : wr.cell? ⟨w.heap.size + 1 + 1, 1, none⟩ = some (.int .i64 (rd xs 3).2.1) := cell_of hm.val 1
        have hv2 : wr.cell? ⟨w.heap.size + 1 + 1, 2, none⟩ = some (.int .i64 (rd xs 3).2.2.1) := cell_of hm.val 2
        have hr0 : wr.cell? ⟨w.heap.size, 0, none⟩ = some (.int .i64 0) := cell_of hm.res 0
        have hr1 : wr.cell? ⟨w.heap.size, 1, none⟩ = some (.int .i64 0) := cell_of hm.res 1
        have hr2 : wr.cell? ⟨w.heap.size, 2, none⟩ = some (.int .i64 0) := cell_of hm.res 2
        have hf0 := free_of hm.res 0
        have hf1 := free_of hm.res 1
        have hf2 := free_of hm.res 2
        have Hm := Lib.hid hm
        clear hm
        generalize hp : rd xs 3 = p at *
        have Hp := Lib.hid hp
        clear hp
        obtain ⟨p1, p2, p3, ok⟩ := p
        simp only at *
        have Hl3 : Hid (xs.length = 3 ↔ c = 2) := by show _ ↔ _; rw [Hlen.out]; omega
        cases ok with
        | false =>
          have Hz : Hid (readL xs = (0, 0, 0)) := by show readL xs = _; unfold readL; rw [Hp.out]; simp
          go_wp2_with fail
          all_goals
            refine bodyPost_ret (v := three (0, 0, 0)) (by simp [results, Tryd.results27, go_sem, hr0, hr1, hr2]) rfl ⟨by rw [Hz.out], ?_⟩
            first | exact Hm.out.fr | exact ((Hm.out.fr.setCell (by simp) _).setCell (by simp) _).setCell (by simp) _
        | true =>
          by_cases h3 : c + 1 = 3 ∧ p2 = 0
          · have Hz : Hid (readL xs = (0, 0, 0)) := by show readL xs = _; unfold readL; rw [Hp.out, Hlen.out]; simp [h3.1, h3.2]
            obtain ⟨h31, h32⟩ := h3
            have g1 : (((c : Nat) : Int) + 1 == 3) = true := by rw [beq_iff_eq]; omega
            have g2 : (p2 == 0) = true := by rw [beq_iff_eq]; exact h32
            clear h31 h32
            go_wp2_with fail
            all_goals
              refine bodyPost_ret (v := three (0, 0, 0)) (by simp [results, Tryd.results27, go_sem, hr0, hr1, hr2]) rfl ⟨by rw [Hz.out], ?_⟩
              first | exact Hm.out.fr | exact ((Hm.out.fr.setCell (by simp) _).setCell (by simp) _).setCell (by simp) _
          · have Hz : Hid (readL xs = (p1, p2, p3)) := by
              show readL xs = _; unfold readL; rw [Hp.out, Hlen.out, if_pos ⟨rfl, h3⟩]
            have g3 : ((((c : Nat) : Int) + 1 == 3) = true ∧ (p2 == 0) = false) ∨ (((c : Nat) : Int) + 1 == 3) = false := by
              by_cases e : c + 1 = 3
              · left; exact ⟨by rw [beq_iff_eq]; omega, by rw [beq_eq_false_iff_ne]; exact fun e2 => h3 ⟨e, e2⟩⟩
              · right; rw [beq_eq_false_iff_ne]; omega
            clear h3
            rcases g3 with ⟨g1, g2⟩ | g1
            all_goals
              go_wp2_with fail
              refine bodyPost_ret (v := three (p1, p2, p3)) (by simp [results, Tryd.results27, go_sem, hr0, hr1, hr2]) rfl ⟨by rw [Hz.out], ?_⟩
              exact ((Hm.out.fr.setCell (by simp) _).setCell (by simp) _).setCell (by simp) _
end Go.Proofs.YtbfahkpckhbajaaDoor
