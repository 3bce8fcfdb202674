/- Parts: as a slice in memory, cloned, sorted by their keys. Conditions: at most 1,000 parts. -/
import Derived.Test.YtbfahkpckhbajaaDoorQTxn
import Derived.Shelf.SlSortCmp.WholeK
import Derived.Shelf.SlSortCmp.NoneTotal
import Derived.Shelf.SlicesE.Clone
namespace Go.Proofs.YtbfahkpckhbajaaDoor
open Go.RowKit Go.Sort
set_option linter.unusedVariables false

abbrev P2 := ByteArray × Int
def encP (x : P2) : List Value := [.string x.1, .int .i64 x.2]
def flatP (xs : List P2) : List Value := xs.flatMap encP
theorem flatP_length : ∀ xs : List P2, (flatP xs).length = xs.length * 2
  | [] => rfl
  | x :: xs => by
    have := flatP_length xs
    simp [flatP, encP] at *; omega
theorem flatP_get : ∀ (xs : List P2) (j : Nat), j < xs.length → (flatP xs)[j * 2]? = some (.string (xs.getD j (.empty, 0)).1) ∧ (flatP xs)[j * 2 + 1]? = some (.int .i64 (xs.getD j (.empty, 0)).2)
  | [], j, h => by simp at h
  | x :: xs, 0, h => by simp [flatP, encP]
  | x :: xs, j + 1, h => by
    have ih := flatP_get xs j (by simpa using h)
    have e1 : (j + 1) * 2 = j * 2 + 1 + 1 := by omega
    have e2 : flatP (x :: xs) = .string x.1 :: .int .i64 x.2 :: flatP xs := rfl
    rw [e2, e1]
    simp only [List.getElem?_cons_succ]
    exact ih
theorem flatK_eq (xs : List P2) : flatK encP 2 xs.toArray = (flatP xs).toArray := by
  apply Array.ext
  · simp [flatP_length]
  · intro i h1 h2
    have hi : i < xs.length * 2 := by simpa using h1
    have hj : i / 2 < xs.length := by omega
    have hg := flatP_get xs (i / 2) hj
    have e := get_flatK encP 2 xs.toArray i (by simpa using hi)
    rw [getElem!_pos _ i h1] at e
    rw [e]
    have hx : xs.toArray[i / 2]! = xs.getD (i / 2) (.empty, 0) := by
      rw [getElem!_pos _ _ (by simpa using hj)]
      simp [List.getD, hj]
    rw [hx]
    rcases Nat.mod_two_eq_zero_or_one i with hm | hm
    · have ei : i = i / 2 * 2 := by omega
      have g := hg.1
      rw [← ei] at g
      rw [hm]
      have : (flatP xs).toArray[i] = (flatP xs)[i]'(by simpa using h2) := by simp
      rw [this]
      have := List.getElem?_eq_some_iff.1 g
      obtain ⟨_, this⟩ := this
      rw [this]; rfl
    · have ei : i = i / 2 * 2 + 1 := by omega
      have g := hg.2
      rw [← ei] at g
      rw [hm]
      have : (flatP xs).toArray[i] = (flatP xs)[i]'(by simpa using h2) := by simp
      rw [this]
      have := List.getElem?_eq_some_iff.1 g
      obtain ⟨_, this⟩ := this
      rw [this]; rfl

/-- A slice value reads as a list of parts. -/
def PartsAt (w : World) (v : Value) (xs : List P2) : Prop :=
  ∃ a cap, v = .slice a xs.length cap ∧ (xs ≠ [] → ∃ blk off, a = some ⟨blk, off, none⟩ ∧ blk < w.heap.size ∧ ∀ j u, (flatP xs)[j]? = some u → w.cell? ⟨blk, off + j, none⟩ = some u)

/-- one key ahead of another -/
def ltK (a b : ByteArray) : Bool := Op.bytesLess a.toList b.toList
theorem cmp_neg : ∀ a b : List UInt8, decide (Lib.compareBytes a b < 0) = Op.bytesLess a b
  | [], [] => by simp [Lib.compareBytes, Op.bytesLess]
  | [], _ :: _ => by simp [Lib.compareBytes, Op.bytesLess]
  | _ :: _, [] => by simp [Lib.compareBytes, Op.bytesLess]
  | a :: x, b :: y => by
    have ih := cmp_neg x y
    unfold Lib.compareBytes Op.bytesLess
    by_cases h1 : a < b
    · simp [h1]
    · by_cases h2 : b < a
      · have hne : a ≠ b := fun e => by subst e; exact h1 h2
        simp [h1, h2, hne]
      · have he : a = b := by
          have := UInt8.le_antisymm (UInt8.not_lt.1 h2) (UInt8.not_lt.1 h1)
          exact this
        subst he
        simp [h1, ih]
theorem cmp_lt (a b : ByteArray) : decide (Lib.compareBytes a.data.toList b.data.toList < 0) = ltK a b := by
  unfold ltK
  rw [ByteArray.toList_eq, ByteArray.toList_eq]
  exact cmp_neg _ _
def cfP (x y : P2) : Int := Lib.compareBytes x.1.data.toList y.1.data.toList
theorem lt_cfP (x y : P2) : ltOf cfP x y = ltK x.1 y.1 := cmp_lt _ _
theorem bl_irrefl : ∀ a : List UInt8, Op.bytesLess a a = false
  | [] => rfl
  | a :: x => by simp [Op.bytesLess, bl_irrefl x]
theorem bl_trans : ∀ a b c : List UInt8, Op.bytesLess a b = true → Op.bytesLess b c = true → Op.bytesLess a c = true
  | _, [], _, h, _ => by simp [Op.bytesLess] at h
  | _, _ :: _, [], _, h => by simp [Op.bytesLess] at h
  | [], _ :: _, _ :: _, _, _ => by simp [Op.bytesLess]
  | a :: x, b :: y, c :: z, h1, h2 => by
    simp [Op.bytesLess] at *
    rcases h1 with h1 | ⟨rfl, h1⟩ <;> rcases h2 with h2 | ⟨rfl, h2⟩
    · exact .inl (UInt8.lt_trans h1 h2)
    · exact .inl h1
    · exact .inl h2
    · exact .inr ⟨rfl, bl_trans x y z h1 h2⟩
theorem bl_tri : ∀ a b : List UInt8, Op.bytesLess a b = false → Op.bytesLess b a = false → a = b
  | [], [], _, _ => rfl
  | [], _ :: _, h, _ => by simp [Op.bytesLess] at h
  | _ :: _, [], _, h => by simp [Op.bytesLess] at h
  | a :: x, b :: y, h1, h2 => by
    simp [Op.bytesLess] at h1 h2
    have he : a = b := UInt8.le_antisymm h2.1 h1.1
    subst he
    rw [bl_tri x y (h1.2 rfl) (h2.2 rfl)]
theorem ltK_irrefl (a : ByteArray) : ltK a a = false := bl_irrefl _
theorem ltK_trans {a b c : ByteArray} (h1 : ltK a b = true) (h2 : ltK b c = true) : ltK a c = true := bl_trans _ _ _ h1 h2
theorem ltK_tri {a b : ByteArray} (h1 : ltK a b = false) (h2 : ltK b a = false) : a = b := by
  have := bl_tri _ _ h1 h2
  rw [ByteArray.toList_eq, ByteArray.toList_eq] at this
  obtain ⟨⟨x⟩⟩ := a
  obtain ⟨⟨y⟩⟩ := b
  simp at this; rw [this]
theorem ltK_asymm {a b : ByteArray} (h : ltK a b = true) : ltK b a = false := by
  cases h2 : ltK b a with
  | false => rfl
  | true => have := ltK_trans h h2; rw [ltK_irrefl] at this; cases this
theorem swoP : SWO (ltOf cfP) where
  irrefl x := by rw [lt_cfP]; exact ltK_irrefl _
  trans x y z h1 h2 := by rw [lt_cfP] at *; exact ltK_trans h1 h2
  ntrans x y z h1 h2 := by
    rw [lt_cfP] at *
    cases h : ltK x.1 z.1 with
    | false => rfl
    | true =>
      exfalso
      cases h3 : ltK y.1 x.1 with
      | true => have := ltK_trans h3 h; rw [this] at h2; cases h2
      | false =>
        have e := ltK_tri h1 h3
        rw [e] at h; rw [h] at h2; cases h2

theorem closure_any (x y : P2) (W : World) : Calls Tryd.prog 15 #[.agg #[.string x.1, .int .i64 x.2], .agg #[.string y.1, .int .i64 y.2]] W fun e w' => e = .returned (.int .i64 (cfP x y)) ∧ ∃ q os', w' = grow (W.drewN q) os' := by
  have hcon := fun W' => Tryd.strings_Compare x.1 y.1 W'
  unfold cfP
  generalize Lib.compareBytes x.1.data.toList y.1.data.toList = r at hcon ⊢
  go_enter Tryd.func15, Tryd.ntmps15
  go_wp2_with fail
  refine (hcon _).mono ?_
  rintro e w1 ⟨rfl, rfl⟩
  go_wp2_with fail
  go_ret
  exact ⟨rfl, 0, _, by rw [alloc_eq_grow, alloc_eq_grow, grow_grow]; rfl⟩

theorem isAggP (w : World) : (isAgg 29).run Tryd.prog w = .ok true w := by kernel_rfl
theorem sizeOfP (w : World) : (sizeOf 29).run Tryd.prog w = .ok 2 w := by kernel_rfl
theorem infoP : (Tryd.prog.info? 29).map (fun i => (i.zero, i.size, i.bytes)) = some (some (.agg #[.string .empty, .int .i64 0]), 2, 24) := by kernel_rfl

theorem cmpLaysP (blk off size : Nat) (w : World) : CmpLays Tryd.prog 15 #[] encP 2 cfP blk off size w :=
  fun m os dk _ x y => closure_any x y _

theorem Fr.putRow {w : World} {blk off : Nat} {F : Array Value} : Fr (Only blk) w (putRow id w blk off F) :=
  ⟨rfl, rfl, rfl, by simp, fun k hk hs => by
    show (w.heap.modify blk _)[k]? = _
    rw [Array.getElem?_modify, if_neg (fun e => hs e.symm)]⟩

/-- slices.SortFunc of parts that lie whole at the head of a block. -/
theorem sort_any (w : World) (blk cap : Nat) (cs : Array Value) (xs : List P2) (hb : w.heap[blk]? = some (.cells cs 29 (0, 0))) (hc : ∀ j u, (flatP xs)[j]? = some u → w.cell? ⟨blk, j, none⟩ = some u) (hn : xs.length ≤ 1000) :
    Calls Tryd.prog 14 #[.slice (some ⟨blk, 0, none⟩) xs.length cap, .func (.func 15) #[] #[]] w fun e w' =>
      e = .returned (.tuple #[]) ∧ ∃ ys : List P2, ys.Perm xs ∧ (∀ i j, i < j → j < ys.length → ltK (ys.getD j (.empty, 0)).1 (ys.getD i (.empty, 0)).1 = false) ∧
        (∀ j u, (flatP ys)[j]? = some u → w'.cell? ⟨blk, j, none⟩ = some u) ∧ Fr (Only blk) w w' := by
  have eg : ∀ args w, (callFunc 15 args).run Tryd.prog w = .ok (.enter 15 args) w := enters_of Tryd.func15 (by kernel_rfl) rfl
  have hH : HoldsK encP 2 w blk 0 xs.toArray := by
    unfold HoldsK
    rw [flatK_eq]
    intro j hj
    rw [Nat.zero_add]
    have hj' : j < (flatP xs).length := by simpa using hj
    refine ⟨?_, free_of hb j⟩
    rw [getElem!_pos _ j hj]
    exact hc j _ (by simp [hj'])
  have hcon := AnyQ.slices_SortFunc Tryd.sortPart 2 isAggP sizeOfP encP (fun _ => rfl) (fun x v hv => by simp [encP] at hv; rcases hv with rfl | rfl <;> rfl) cfP swoP 15 #[] blk 0 cap xs.toArray w eg (cmpLaysP blk 0 _ w) hH (lt_of_heap hb) (by simp; omega)
  change Calls Tryd.prog 14 _ _ _ at hcon
  have e1 : xs.toArray.size = xs.length := by simp
  rw [e1] at hcon
  refine hcon.mono ?_
  rintro e w' ⟨rfl, d', n, os, ⟨hp1, hp2, hp3⟩, hs, rfl⟩
  have hsz : d'.toList.length = xs.length := by simpa using hp1
  refine ⟨rfl, d'.toList, ?_, ?_, ?_, ?_⟩
  · have h0 : d'.size = xs.length := by simpa using hp1
    have h1 : d'.extract 0 xs.length = d' := by rw [← h0]; simp
    have h2 : xs.toArray.extract 0 xs.length = xs.toArray := by simp
    rw [h1, h2] at hp3
    simpa using hp3
  · intro i j hij hj
    have h0 : d'.size = xs.length := by simpa using hp1
    have hj' : j < xs.length := by omega
    have := hs i j (Nat.zero_le _) hij hj'
    rw [lt_cfP] at this
    have g : ∀ t, t < xs.length → d'[t]! = d'.toList.getD t (.empty, 0) := fun t ht => by
      rw [getElem!_pos d' t (by omega), List.getD_eq_getElem?_getD, Array.getElem?_toList, Array.getElem?_eq_getElem (by omega)]; rfl
    rw [g j hj', g i (by omega)] at this
    exact this
  · intro j u hu
    have hf : flatK encP 2 d' = (flatP d'.toList).toArray := by
      have := flatK_eq d'.toList
      simpa using this
    have hF : Holds id (putRowK encP 2 (Sort.ahead w n) blk 0 d') blk 0 (flatK encP 2 d') := by
      refine holds_putRow id _ blk 0 (flatK encP 2 xs.toArray) _ (holds_ahead id w n blk 0 _ hH) ?_
      have h0 : d'.size = xs.length := by simpa using hp1
      simp [h0]
    have hj : j < (flatP d'.toList).length := (List.getElem?_eq_some_iff.1 hu).1
    have h1 := (hF j (by rw [hf]; simpa using hj)).1
    rw [Nat.zero_add] at h1
    have h2 : (sortWorldK encP 2 w blk 0 n d' os).cell? ⟨blk, j, none⟩ = (putRowK encP 2 (Sort.ahead w n) blk 0 d').cell? ⟨blk, j, none⟩ :=
      ((Fr.refl Non (putRowK encP 2 (Sort.ahead w n) blk 0 d')).grow os).cell (by show blk < (putRow id _ _ _ _).heap.size; simp; exact lt_of_heap hb) (fun f => f)
    rw [h2, h1, hf, getElem!_pos _ j (by simpa using hj)]
    have := List.getElem?_eq_some_iff.1 hu
    obtain ⟨_, this⟩ := this
    simp [this]
  · exact (Fr.trans (⟨rfl, rfl, rfl, Nat.le_refl _, fun _ _ _ => rfl⟩ : Fr (Only blk) w (Sort.ahead w n)) Fr.putRow).grow os

/-- slices.Clone of parts. -/
theorem cloneP_any (w : World) (v : Value) (xs : List P2) (hv : PartsAt w v xs) (h0 : xs ≠ []) (hn : xs.length ≤ 1000) :
    Calls Tryd.prog 13 #[v] w fun e w' => ∃ blk cap cs, e = .returned (.slice (some ⟨blk, 0, none⟩) xs.length cap) ∧ w.heap.size ≤ blk ∧
      w'.heap[blk]? = some (.cells cs 29 (0, 0)) ∧ (∀ j u, (flatP xs)[j]? = some u → w'.cell? ⟨blk, j, none⟩ = some u) ∧ Fr Non w w' := by
  obtain ⟨i0, hi, hz0, hz1, hz2⟩ := info_parts infoP
  obtain ⟨a, c, rfl, h⟩ := hv
  obtain ⟨blk, off, rfl, hlt, hc⟩ := h h0
  have hcon := AnyE.slices_Clone Tryd.clonePart i0 (.agg #[.string .empty, .int .i64 0]) 2 24 hi hz0 hz1 hz2 rfl (by decide) sizeOfP blk off xs.length c (flatP xs) w (flatP_length xs) (by unfold maxLen; omega) (by omega) hc
    (fun u hu => by
      obtain ⟨x, _, hx⟩ := List.mem_flatMap.1 hu
      simp [encP] at hx
      rcases hx with rfl | rfl <;> rfl)
  change Calls Tryd.prog 13 _ _ _ at hcon
  refine hcon.mono ?_
  rintro e w' ⟨v', rfl, hr, hne, hb⟩
  obtain ⟨hl, ⟨rfl, _⟩ | ⟨g, cap, cur, rfl, hb2, hh, h1, h2, h3, h4⟩⟩ := hr
  · exact absurd rfl hne
  · refine ⟨g, cap, cur, rfl, hb2, hh, fun j u hu => ?_, Fr.of_below hb⟩
    have hj : j < xs.length * 2 := by rw [← flatP_length]; exact (List.getElem?_eq_some_iff.1 hu).1
    rw [cell_of hh, ← Array.getElem?_toList]
    rw [← h4, List.getElem?_take_of_lt hj] at hu
    exact hu
end Go.Proofs.YtbfahkpckhbajaaDoor
