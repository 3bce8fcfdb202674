/- quorateref.heldOf: what a text says of a key: what it computes. Condition: texts of at most 2,000,000 bytes. -/
import Derived.Test.YtbfahkpckhbajaaDoorQRead
import Derived.Test.YtbfahkpckhbajaaDoorQLook
import Derived.Test.YtbfahkpckhbajaaDoorQAmt
import Derived.Lib.IndexLaws
namespace Go.Proofs.YtbfahkpckhbajaaDoor
open Go.RowKit
open Go.Lib
set_option linter.unusedVariables false
set_option linter.unusedSimpArgs false

theorem occ_one (l : List UInt8) (j : Nat) : occAt l [32] j = true ↔ l[j]? = some 32 := by
  unfold occAt
  rw [← List.head?_drop]
  cases l.drop j with
  | nil => simp [List.isPrefixOf]
  | cons a t =>
    show ((32 == a) && [].isPrefixOf t) = true ↔ some a = some 32
    simp only [List.isPrefixOf_nil_left, Bool.and_true, beq_iff_eq, Option.some.injEq]
    exact eq_comm
theorem words_one (t : ByteArray) (h : ∀ j : Nat, t.data.toList[j]? ≠ some 32) : wordsB t = [t] := by
  have hi : indexB t ⟨#[32]⟩ = -1 := index_none (fun j _ => by
    rw [Bool.eq_false_iff]; intro h'; exact h j ((occ_one _ _).mp h'))
  unfold wordsB
  rw [countB_miss _ _ hi]
  rfl
theorem words_cut (s : ByteArray) (f k : Nat) (hfk : f ≤ k) (hk : k < s.size) (h : ∀ j, f ≤ j → j < k → s.data.toList[j]? ≠ some 32) (h32 : s.data.toList[k]? = some 32) :
    wordsB (s.extract f s.size) = s.extract f k :: wordsB (s.extract (k + 1) s.size) := by
  have hd : ∀ j, (s.extract f s.size).data.toList[j]? = s.data.toList[f + j]? := by
    intro j
    rw [extract_to_end, List.getElem?_drop]
  have hi : indexB (s.extract f s.size) ⟨#[32]⟩ = ((k - f : Nat) : Int) := by
    refine index_first ?_ ?_ ?_
    · rw [extract_to_end, List.length_drop, Array.length_toList]
      show k - f ≤ s.size - f
      omega
    · rw [occ_one, hd, show f + (k - f) = k by omega]; exact h32
    · intro j hj
      rw [Bool.eq_false_iff]; intro h'
      rw [occ_one, hd] at h'
      exact h (f + j) (by omega) (by omega) h'
  unfold wordsB
  rw [countB_hit _ _ _ (by decide) hi, Nat.add_comm, splitB_hit _ _ _ _ _ hi]
  have e1 : (s.extract f s.size).extract 0 (k - f + 0) = s.extract f k := by
    rw [ByteArray.extract_extract]; congr 1 <;> omega
  have e2 : (s.extract f s.size).extract (k - f + (⟨#[32]⟩ : ByteArray).size) (s.extract f s.size).size = s.extract (k + 1) s.size := by
    rw [ByteArray.extract_extract]
    have : (s.extract f s.size).size = s.size - f := by simp
    rw [this]
    show s.extract (f + (k - f + 1)) (min (f + (s.size - f)) s.size) = _
    congr 1 <;> omega
  rw [e1, e2]

/-- how far the words have been found -/
def Scan (s : ByteArray) (f k : Nat) (l : List ByteArray) : Prop :=
  (k ≤ s.size ∧ f ≤ k ∧ (∀ j, f ≤ j → j < k → s.data.toList[j]? ≠ some 32) ∧ wordsB s = l ++ wordsB (s.extract f s.size)) ∨ (k = s.size + 1 ∧ wordsB s = l)
theorem Scan.start (s : ByteArray) : Scan s 0 0 [] := by
  refine .inl ⟨Nat.zero_le _, Nat.le_refl _, fun j _ h => absurd h (Nat.not_lt_zero _), ?_⟩
  rw [List.nil_append, ByteArray.extract_zero_size]
theorem Scan.step {s : ByteArray} {f k : Nat} {l : List ByteArray} (h : Scan s f k l) (hk : k < s.size) (h32 : s.data.toList[k]? ≠ some 32) : Scan s f (k + 1) l := by
  rcases h with ⟨_, hf, hn, e⟩ | ⟨h, _⟩
  · refine .inl ⟨hk, by omega, fun j h1 h2 => ?_, e⟩
    rcases Nat.lt_or_ge j k with h3 | h3
    · exact hn j h1 h3
    · have : j = k := by omega
      subst this; exact h32
  · omega
theorem Scan.cut {s : ByteArray} {f k : Nat} {l : List ByteArray} (h : Scan s f k l) (hk : k < s.size) (h32 : s.data.toList[k]? = some 32) : Scan s (k + 1) (k + 1) (l ++ [s.extract f k]) := by
  rcases h with ⟨_, hf, hn, e⟩ | ⟨h, _⟩
  · refine .inl ⟨hk, by omega, fun j h1 h2 => by omega, ?_⟩
    rw [e, words_cut s f k hf hk hn h32, List.append_assoc]; rfl
  · omega
theorem Scan.last {s : ByteArray} {f : Nat} {l : List ByteArray} (h : Scan s f s.size l) : Scan s (s.size + 1) (s.size + 1) (l ++ [s.extract f s.size]) := by
  rcases h with ⟨_, hf, hn, e⟩ | ⟨h, _⟩
  · refine .inr ⟨rfl, ?_⟩
    rw [e, words_one]
    intro j hj
    rw [extract_to_end, List.getElem?_drop] at hj
    have : f + j < s.data.toList.length := (List.getElem?_eq_some_iff.1 hj).1
    rw [Array.length_toList] at this
    exact hn (f + j) (by omega) this hj
  · omega
theorem Scan.from_le {s : ByteArray} {f k : Nat} {l : List ByteArray} (h : Scan s f k l) (hk : k ≤ s.size) : f ≤ k := by
  rcases h with ⟨_, hf, _⟩ | ⟨h, _⟩
  · exact hf
  · omega
theorem Scan.all {s : ByteArray} {f k : Nat} {l : List ByteArray} (h : Scan s f k l) (hk : ¬ k ≤ s.size) : wordsB s = l := by
  rcases h with ⟨h, _⟩ | ⟨_, e⟩
  · omega
  · exact e

/-- what quorateref.heldOf makes of words -/
def heldL (xs : List ByteArray) : Int × Int × Int :=
  let a := amtB (xs.getD 0 .empty) 999999999
  if a < 0 ∨ (xs.length ≠ 1 ∧ xs.length ≠ 3) then (0, 0, 0)
  else if xs.length = 3 then (let b := amtB (xs.getD 1 .empty) 999; let c := amtB (xs.getD 2 .empty) 999999999; if b < 1 ∨ c < 0 then (0, 0, 0) else (a, b, c))
  else (a, 0, 0)

theorem infoStr : (Tryd.prog.info? 9).map (fun i => (i.zero, i.size, i.bytes)) = some (some (.string ⟨#[]⟩), 1, 16) := by kernel_rfl
/-- an owned row that is not empty: where it lies and what it holds -/
theorem own_full {w : World} {base : Nat} {e : TypeId} {size : Nat} {v : Value} {n : Nat} {xs : List Value} (h : w.ownsRow base e size v n xs) (hn : 0 < n) :
    ∃ g cap, v = .slice (some ⟨g, 0, none⟩) n cap ∧ n ≤ cap ∧ cap ≤ maxLen ∧ base ≤ g ∧ g < w.heap.size ∧ ∀ j u, xs[j]? = some u → w.cell? ⟨g, j, none⟩ = some u := by
  rcases h.2 with ⟨_, h0⟩ | ⟨g, cap, cur, hv, hb, hg, h1, h2, h3, h4⟩
  · omega
  · refine ⟨g, cap, hv, h1, h2, hb, lt_of_heap hg, fun j u hj => ?_⟩
    rw [cell_of hg, ← h4] at *
    rw [List.getElem?_take] at hj
    split at hj
    · rw [← Array.getElem?_toList]; exact hj
    · cases hj

set_option maxRecDepth 100000 in
set_option maxHeartbeats 2000000 in
theorem heldOf_any (s : ByteArray) (w : World) (hs : s.size ≤ 2000000) :
    Calls Tryd.prog 28 #[.string s] w fun e w' => e = .returned (three (heldL (wordsB s))) ∧ Fr Non w w' := by
  obtain ⟨i0, hi, hz0, hz1, hz2⟩ := info_parts infoStr
  have Hi := Lib.hid hi
  have Hz0 := Lib.hid hz0
  have Hz1 := Lib.hid hz1
  have Hz2 := Lib.hid hz2
  clear hi hz0 hz1 hz2
  go_enter Tryd.func28, Tryd.ntmps28
  go_wp2_with fail
  generalize hW : World.alloc w _ = W
  have HW := Lib.hid hW
  have hFW : Fr Non w W := by rw [← hW]; exact (Fr.refl _ _).alloc _
  have HFW := Lib.hid hFW
  have hBW : W.heap[w.heap.size]? = some (.cells #[.int .i64 0, .int .i64 0, .int .i64 0] 43 (0, 0)) := by rw [← hW]; exact heap_alloc_new _ _
  have HBW := Lib.hid hBW
  clear hW hFW hBW
  go_loopw [3, 4, 5] (fun v3 v4 v5 wr => ∃ (f k : Nat) (l : List ByteArray), k ≤ s.size + 1 ∧ v3 = .int .i64 f ∧ v5 = .int .i64 k ∧ l.length ≤ k ∧ Hid (Scan s f k l) ∧ Hid (wr.ownsRow W.heap.size 9 1 v4 l.length (l.map .string)) ∧ Hid (Fr Non W wr)) (fun _ _ v5 _ => s.size + 1 - (intOf v5).toNat)
  case atStart => exact ⟨0, 0, [], by omega, rfl, rfl, Nat.le_refl _, Scan.start s, ⟨rfl, .inl ⟨rfl, rfl⟩⟩, Fr.refl _ _⟩
  case round =>
    obtain ⟨f, k, l, hk, rfl, rfl, hl, hsc, hown, hfr⟩ := hrel
    by_cases hlt : k ≤ s.size
    · have hi : (intOf (.int .i64 ((k : Int) + 1))).toNat = k + 1 := by show Int.toNat ((k : Int) + 1) = k + 1; omega
      have hj : (intOf (.int .i64 (k : Int))).toNat = k := by show Int.toNat (k : Int) = k; omega
      have Hm : Hid (s.size + 1 - (intOf (.int .i64 ((k : Int) + 1))).toNat < s.size + 1 - (intOf (.int .i64 (k : Int))).toNat) := by show _ < _; rw [hi, hj]; omega
      clear hi hj
      have hfk := hsc.out.from_le hlt
      by_cases heq : k = s.size
      · subst heq
        go_wp2_with (at_builtin; refine wpList_append_lies _ rfl _ _ _ rfl W.heap.size 9 i0 (.string ⟨#[]⟩) 1 16 Tryd.underlying48 Hi.out Hz0.out Hz1.out Hz2.out rfl (by decide) _ l.length (l.map .string) rfl (Fr.own ((Fr.refl Non wr).alloc _) hown.out (fun _ _ f => f)) ⟨wr.heap.size, 0, none⟩ 1 1 [.string (s.extract f s.size)] rfl rfl (news_at (by exact heap_alloc_new wr _)) (fun u hu => by simp at hu; subst hu; rfl) (by decide) (by unfold maxLen; omega) (by omega) (by have := hfr.out.size; simp; omega) _ rfl ?_; intro g cap w1 hown1 hgrow1 hat1 hlt1; have hF1 : Fr Non W w1 := (hfr.out.alloc _).grown hgrow1 (fun b hb e => by have := (own_block_lt hown.out e).2; omega); have HF1 := Lib.hid hF1; have Hown1 := Lib.hid hown1; clear hown1 hgrow1 hat1 hF1)
        refine ⟨⟨s.size + 1, s.size + 1, l ++ [s.extract f s.size], Nat.le_refl _, rfl, rfl, by simp; omega, hsc.out.last, ?_, HF1⟩, Hm.out⟩
        have := Hown1.out
        rw [List.map_append, List.length_append]
        exact this
      · have hks : k < s.size := by omega
        have hgk : s.data.toList[k]? = some s[k] := by
          rw [List.getElem?_eq_getElem (by simpa using hks)]
          rfl
        by_cases h32 : ((s[k].toNat : Nat) : Int) = 32
        · have hsp : s[k] = 32 := UInt8.toNat_inj.mp (by exact_mod_cast h32)
          have Hsc := Lib.hid (hsc.out.cut hks (by rw [hgk, hsp]))
          have e1 : ((k : Int) == (s.size : Int)) = false := by rw [beq_eq_false_iff_ne]; omega
          have e2 : (((s[k].toNat : Nat) : Int) == 32) = true := by rw [beq_iff_eq]; exact h32
          clear hgk hsp
          go_wp2_with (at_builtin; refine wpList_append_lies _ rfl _ _ _ rfl W.heap.size 9 i0 (.string ⟨#[]⟩) 1 16 Tryd.underlying48 Hi.out Hz0.out Hz1.out Hz2.out rfl (by decide) _ l.length (l.map .string) rfl (Fr.own ((Fr.refl Non wr).alloc _) hown.out (fun _ _ f => f)) ⟨wr.heap.size, 0, none⟩ 1 1 [.string (s.extract f k)] rfl rfl (news_at (by exact heap_alloc_new wr _)) (fun u hu => by simp at hu; subst hu; rfl) (by decide) (by unfold maxLen; omega) (by omega) (by have := hfr.out.size; simp; omega) _ rfl ?_; intro g cap w1 hown1 hgrow1 hat1 hlt1; have hF1 : Fr Non W w1 := (hfr.out.alloc _).grown hgrow1 (fun b hb e => by have := (own_block_lt hown.out e).2; omega); have HF1 := Lib.hid hF1; have Hown1 := Lib.hid hown1; clear hown1 hgrow1 hat1 hF1)
          all_goals
            first | (exfalso; omega) | skip
            refine ⟨⟨k + 1, k + 1, l ++ [s.extract f k], by omega, rfl, rfl, by simp; omega, Hsc, ?_, HF1⟩, Hm.out⟩
            have := Hown1.out
            rw [List.map_append, List.length_append]
            exact this
        · have Hsc := Lib.hid (hsc.out.step hks (by rw [hgk]; intro h; have := Option.some.inj h; rw [this] at h32; exact h32 rfl))
          have e1 : ((k : Int) == (s.size : Int)) = false := by rw [beq_eq_false_iff_ne]; omega
          have e2 : (((s[k].toNat : Nat) : Int) == 32) = false := by rw [beq_eq_false_iff_ne]; exact h32
          clear hgk
          go_wp2_with fail
          all_goals
            first | (exfalso; omega) | skip
            exact ⟨⟨f, k + 1, l, by omega, rfl, rfl, by omega, Hsc, hown, hfr⟩, Hm.out⟩
    · have Hw := Lib.hid (hsc.out.all hlt)
      have hl1 : 0 < l.length := by have := words_length s; rw [Hw.out] at this; omega
      have Hsz : Hid (∀ x ∈ l, x.size ≤ 2000000) := fun x hx => by
        have := split_size ⟨#[32]⟩ 0 _ s x (by rw [← Hw.out] at hx; exact hx)
        omega
      obtain ⟨g, cap, rfl, hc1, hc2, hg1, hg2, hcell⟩ := own_full hown.out hl1
      have Hlw : Hid (Fr Non w wr) := (HFW.out.trans hfr.out)
      have hBr := hfr.out.blk HBW.out (fun h => h)
      have hr0 : wr.cell? ⟨w.heap.size, 0, none⟩ = some (.int .i64 0) := cell_of hBr 0
      have hr1 : wr.cell? ⟨w.heap.size, 1, none⟩ = some (.int .i64 0) := cell_of hBr 1
      have hr2 : wr.cell? ⟨w.heap.size, 2, none⟩ = some (.int .i64 0) := cell_of hBr 2
      have hf0 := free_of hBr 0
      have hf1 := free_of hBr 1
      have hf2 := free_of hBr 2
      have HBr := Lib.hid hBr
      have hlw : w.heap.size < wr.heap.size := lt_of_heap hBr
      clear hBr hsc hown hfr
      obtain _ | ⟨x0, l⟩ := l
      · exact absurd hl1 (Nat.lt_irrefl _)
      have c0 : wr.cell? ⟨g, 0, none⟩ = some (.string x0) := hcell 0 _ rfl
      have hs0 : x0.size ≤ 2000000 := Hsz.out x0 (by simp)
      generalize ha : amtB x0 999999999 = a
      have Ha := Lib.hid ha
      clear ha
      generalize hn : (x0 :: l).length = n
      have Hn := Lib.hid hn
      have hn1 : n = l.length + 1 := by rw [← hn]; rfl
      clear hn
      go_wp2_with fail
      refine (amount_any x0 999999999 _ hs0 (by omega) (by omega)).mono ?_
      rintro e w1 ⟨rfl, hf⟩
      rw [Ha.out]
      have d1 := fun u (h : wr.cell? ⟨g, 1, none⟩ = some u) => (hf.cell (p := ⟨g, 1, none⟩) hg2 (fun h => h)).trans h
      have d2 := fun u (h : wr.cell? ⟨g, 2, none⟩ = some u) => (hf.cell (p := ⟨g, 2, none⟩) hg2 (fun h => h)).trans h
      have D1 := Lib.hid d1
      have D2 := Lib.hid d2
      have hBr := hf.blk HBr.out (fun h => h)
      have hr0 : w1.cell? ⟨w.heap.size, 0, none⟩ = some (.int .i64 0) := cell_of hBr 0
      have hr1 : w1.cell? ⟨w.heap.size, 1, none⟩ = some (.int .i64 0) := cell_of hBr 1
      have hr2 : w1.cell? ⟨w.heap.size, 2, none⟩ = some (.int .i64 0) := cell_of hBr 2
      have hf0 := free_of hBr 0
      have hf1 := free_of hBr 1
      have hf2 := free_of hBr 2
      have HB1 := Lib.hid hBr
      have hl1w : w.heap.size < w1.heap.size := lt_of_heap hBr
      have hg1w : g < w1.heap.size := Nat.lt_of_lt_of_le hg2 hf.size
      have Hf1 := Lib.hid hf
      clear hBr hf d1 d2
      by_cases ha0 : a < 0
      · have e0 : decide (a < 0) = true := by rw [decide_eq_true_eq]; exact ha0
        have Hz : Hid (heldL (x0 :: l) = (0, 0, 0)) := by
          show heldL (x0 :: l) = _
          unfold heldL
          simp only [List.getD_cons_zero, Ha.out]
          rw [if_pos (Or.inl ha0)]
        go_wp2_with fail
        refine bodyPost_ret (v := three (0, 0, 0)) (by simp [results, Tryd.results28, go_sem, hr0, hr1, hr2, hl1w]) rfl ⟨by rw [Hw.out, Hz.out], ?_⟩
        refine (((?_ : Fr Non w _).setCell (by simp) _).setCell (by simp) _).setCell (by simp) _ |>.alloc _
        exact Hlw.out.trans Hf1.out
      · have e0 : decide (a < 0) = false := by rw [decide_eq_false_iff_not]; exact ha0
        by_cases hl : l.length = 0 ∨ l.length = 2
        · rcases l with _ | ⟨x1, l⟩
          · have Hz : Hid (heldL [x0] = (a, 0, 0)) := by
              show heldL [x0] = _
              unfold heldL
              simp only [List.getD_cons_zero, Ha.out]
              rw [if_neg (by simp; omega), if_neg (by simp)]
            go_wp2_with fail
            refine bodyPost_ret (v := three (a, 0, 0)) (by simp [results, Tryd.results28, go_sem, hr0, hr1, hr2, hl1w]) rfl ⟨by rw [Hw.out, Hz.out], ?_⟩
            refine (((?_ : Fr Non w _).setCell (by simp) _).setCell (by simp) _).setCell (by simp) _ |>.alloc _
            exact Hlw.out.trans Hf1.out
          · rcases l with _ | ⟨x2, l⟩
            · simp at hl
            · have hl0 : l = [] := by rcases l with _ | ⟨_, _⟩; rfl; simp at hl
              subst hl0
              have k1 : w1.cell? ⟨g, 1, none⟩ = some (.string x1) := D1.out _ (hcell 1 _ rfl)
              have k2 : w1.cell? ⟨g, 2, none⟩ = some (.string x2) := D2.out _ (hcell 2 _ rfl)
              have hs1 : x1.size ≤ 2000000 := Hsz.out x1 (by simp)
              have hs2 : x2.size ≤ 2000000 := Hsz.out x2 (by simp)
              have Hz : Hid (heldL [x0, x1, x2] = if amtB x1 999 < 1 ∨ amtB x2 999999999 < 0 then (0, 0, 0) else (a, amtB x1 999, amtB x2 999999999)) := by
                show heldL [x0, x1, x2] = _
                unfold heldL
                simp only [List.getD_cons_zero, List.getD_cons_succ, Ha.out]
                rw [if_neg (by simp; omega), if_pos (by rfl)]
              generalize hN : w1.heap.size = N at *
              have HN := Lib.hid hN
              go_wp2_with fail
              generalize hwa : w1.alloc _ = wa
              have hBN : wa.heap[N]? = some (.cells #[.int .i64 a, .int .i64 0, .int .i64 0] 43 (0, 0)) := by rw [← hwa]; exact heap_alloc_at _ _ _ hN.symm
              have hFa : Fr Non w1 wa := by rw [← hwa]; exact (Fr.refl _ _).alloc _
              have k2 := (hFa.cell (p := ⟨g, 2, none⟩) (by show g < w1.heap.size; omega) (fun h => h)).trans k2
              have HBa := Lib.hid (hFa.blk HB1.out (fun h => h))
              have HFa := Lib.hid hFa
              have hga : g < wa.heap.size := by have := hFa.size; omega
              clear hwa hFa hr0 hr1 hr2 hf0 hf1 hf2 k1
              refine (amount_any x1 999 _ hs1 (by omega) (by omega)).mono ?_
              rintro e w2 ⟨rfl, hF2⟩
              generalize hb : amtB x1 999 = b at *
              have Hb := Lib.hid hb
              clear hb
              have k2 := (hF2.cell (p := ⟨g, 2, none⟩) hga (fun h => h)).trans k2
              have hBr := hF2.blk HBa.out (fun h => h)
              have hr0 : w2.cell? ⟨w.heap.size, 0, none⟩ = some (.int .i64 0) := cell_of hBr 0
              have hr1 : w2.cell? ⟨w.heap.size, 1, none⟩ = some (.int .i64 0) := cell_of hBr 1
              have hr2 : w2.cell? ⟨w.heap.size, 2, none⟩ = some (.int .i64 0) := cell_of hBr 2
              have hf0 := free_of hBr 0
              have hf1 := free_of hBr 1
              have hf2 := free_of hBr 2
              have HB2 := Lib.hid hBr
              have hBN := hF2.blk hBN (fun h => h)
              have n0 : w2.cell? ⟨N, 0, none⟩ = some (.int .i64 a) := cell_of hBN 0
              have n1 : w2.cell? ⟨N, 1, none⟩ = some (.int .i64 0) := cell_of hBN 1
              have n2 : w2.cell? ⟨N, 2, none⟩ = some (.int .i64 0) := cell_of hBN 2
              have m0 := free_of hBN 0
              have m1 := free_of hBN 1
              have m2 := free_of hBN 2
              have hgN : g ≠ N := by omega
              have hg2' : g < w2.heap.size := by have := hF2.size; omega
              have hN2 : N < w2.heap.size := lt_of_heap hBN
              have HBN := Lib.hid hBN
              have HF2 := Lib.hid hF2
              clear hBr hBN hF2
              go_wp2_with fail
              generalize hwb : World.setCell w2 _ _ = wb
              have hFb : Fr (Only N) w2 wb := by rw [← hwb]; exact (Fr.refl _ _).setOnly _ _
              have hBN : wb.heap[N]? = some (.cells #[.int .i64 a, .int .i64 b, .int .i64 0] 43 (0, 0)) := by
                rw [← hwb]
                show At _ N = _
                simp [At_set_same, At_iff HBN.out, upd_cells]
              have HBb := Lib.hid (hFb.blk HB2.out (fun h => by have h : w.heap.size = N := h; omega))
              have HFb := Lib.hid hFb
              clear hwb hFb hr0 hr1 hr2 hf0 hf1 hf2 n0 n1 n2 m0 m1 m2 k2
              refine (amount_any x2 999999999 _ hs2 (by omega) (by omega)).mono ?_
              rintro e w3 ⟨rfl, hF3⟩
              generalize hc : amtB x2 999999999 = c at *
              have Hc := Lib.hid hc
              clear hc
              have hBr := hF3.blk HBb.out (fun h => h)
              have hr0 : w3.cell? ⟨w.heap.size, 0, none⟩ = some (.int .i64 0) := cell_of hBr 0
              have hr1 : w3.cell? ⟨w.heap.size, 1, none⟩ = some (.int .i64 0) := cell_of hBr 1
              have hr2 : w3.cell? ⟨w.heap.size, 2, none⟩ = some (.int .i64 0) := cell_of hBr 2
              have hf0 := free_of hBr 0
              have hf1 := free_of hBr 1
              have hf2 := free_of hBr 2
              have hl3w : w.heap.size < w3.heap.size := lt_of_heap hBr
              have hBN := hF3.blk hBN (fun h => h)
              have n0 : w3.cell? ⟨N, 0, none⟩ = some (.int .i64 a) := cell_of hBN 0
              have n1 : w3.cell? ⟨N, 1, none⟩ = some (.int .i64 b) := cell_of hBN 1
              have n2 : w3.cell? ⟨N, 2, none⟩ = some (.int .i64 0) := cell_of hBN 2
              have m0 := free_of hBN 0
              have m1 := free_of hBN 1
              have m2 := free_of hBN 2
              have hwN : w.heap.size ≠ N := by omega
              have hF4 : Fr (Only N) w1 w3 := (((HFa.out.trans HF2.out).lift).trans (HFb.out.trans hF3.lift))
              have HF4 : Hid (Fr Non w w3) := ((Hlw.out.trans Hf1.out).lift.trans hF4).mono (fun i hi e => by have e : i = N := e; omega)
              clear hBr hBN hF3 hF4
              go_wp2_with fail
              all_goals first
                | (have hv := Hz.out; rw [if_neg (by omega)] at hv; refine bodyPost_ret (v := three (a, b, c)) (by simp [results, Tryd.results28, go_sem, hr0, hr1, hr2, hl3w, n0, n1, n2]) rfl ⟨by rw [Hw.out, hv], ?_⟩; (repeat refine Fr.setCell ?_ (fun h => absurd h (by first | (simp; done) | (simp; omega))) _); exact HF4.out)
                | (have hv := Hz.out; rw [if_pos (by omega)] at hv; refine bodyPost_ret (v := three (0, 0, 0)) (by simp [results, Tryd.results28, go_sem, hr0, hr1, hr2, hl3w, n0, n1, n2]) rfl ⟨by rw [Hw.out, hv], ?_⟩; (repeat refine Fr.setCell ?_ (fun h => absurd h (by first | (simp; done) | (simp; omega))) _); exact HF4.out)
        · have Hz : Hid (heldL (x0 :: l) = (0, 0, 0)) := by
            show heldL (x0 :: l) = _
            unfold heldL
            simp only [List.getD_cons_zero, Ha.out]
            rw [if_pos (Or.inr (by rw [List.length_cons]; omega))]
          have q0 : ¬ ((l.length : Int) + 1 = 1) := by omega
          have q1 : ((l.length : Int) + 1 != 1) = true := by rw [bne_iff_ne]; omega
          have q2 : ((l.length : Int) + 1 != 3) = true := by rw [bne_iff_ne]; omega
          go_wp2_with fail
          all_goals first | (exfalso; simp_all; done) | skip
          refine bodyPost_ret (v := three (0, 0, 0)) (by simp [results, Tryd.results28, go_sem, hr0, hr1, hr2, hl1w]) rfl ⟨by rw [Hw.out, Hz.out], ?_⟩
          refine (((?_ : Fr Non w _).setCell (by simp) _).setCell (by simp) _).setCell (by simp) _ |>.alloc _
          exact Hlw.out.trans Hf1.out
end Go.Proofs.YtbfahkpckhbajaaDoor
