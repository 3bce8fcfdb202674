/- What a call's arguments and the listed variables give the walk: parts and results as data, the library's tables. No condition. -/
import Derived.Test.YtbfahkpckhbajaaDoorQLaw
import Derived.Test.YtbfahkpckhbajaaDoorCards
import Derived.Test.YtbfahkpckhbajaaDoorTie
import Derived.ProofKit
import Derived.OpenShut
import Derived.Carry
import Derived.Deep.SlicePairs
import Derived.Deep.Slices
import Derived.Deep.DeepHandedRow
import Derived.Lib.LaidTab
import Derived.Shelf.Vars
namespace Go.Proofs.YtbfahkpckhbajaaDoor
open Go.ChangeShapes Go.WideShapes Go.ChangeAt Go.RowKit
set_option linter.unusedVariables false
set_option linter.unusedSimpArgs false

/-! ### How much a datum holds -/
section
variable {H : Type}
theorem bulk_one (d : DataW H) : 1 ≤ Rows.uptoBulk d := by
  cases d with
  | lit l => cases l <;> simp [Rows.uptoBulk]
  | _ => simp [Rows.uptoBulk]
theorem bulk_part {d : DataW H} : ∀ {l : List (DataW H)}, d ∈ l → Rows.uptoBulk d ≤ Rows.uptoBulkAll l
  | x :: r, h => by
    rw [Rows.uptoBulkAll]
    rcases List.mem_cons.1 h with rfl | h
    · omega
    · have := bulk_part h; omega
theorem bulk_len : ∀ (l : List (DataW H)), l.length ≤ Rows.uptoBulkAll l
  | [] => by simp [Rows.uptoBulkAll]
  | x :: r => by
    have := bulk_one x
    have := bulk_len r
    rw [Rows.uptoBulkAll, List.length_cons]; omega
theorem bulk_two : ∀ (l : List (DataW H)), (∀ d ∈ l, 2 ≤ Rows.uptoBulk d) → 2 * l.length ≤ Rows.uptoBulkAll l
  | [], _ => by simp [Rows.uptoBulkAll]
  | x :: r, h => by
    have := h x (by simp)
    have := bulk_two r (fun d hd => h d (by simp [hd]))
    rw [Rows.uptoBulkAll, List.length_cons]; omega
theorem bulk_slice (a b : List (DataW H)) : Rows.uptoBulkAll a ≤ Rows.uptoBulk (.slice a b) := by
  rw [Rows.uptoBulk]; omega
theorem bulk_agg (a : List (DataW H)) : Rows.uptoBulkAll a ≤ Rows.uptoBulk (.agg a) := by
  rw [Rows.uptoBulk]; omega
theorem bulk_string' (s : ByteArray) : s.size + 1 ≤ Rows.uptoBulk (DataW.lit (H := H) (.string s.data.toList)) := by
  rw [Rows.uptoBulk, Array.length_toList]
  exact Nat.le_refl _
theorem bulk_string (s : ByteArray) : s.size ≤ Rows.uptoBulk (DataW.lit (H := H) (.string s.data.toList)) := by
  rw [Rows.uptoBulk, Array.length_toList]
  show s.data.size ≤ _
  omega
end

/-! ### The arguments -/
theorem cellsPart : Tryd.prog.cellsOf 29 = 2 := by kernel_rfl
theorem cellsRes : Tryd.prog.cellsOf 50 = 4 := by kernel_rfl
theorem cellsStr : Tryd.prog.cellsOf 9 = 1 := by kernel_rfl
theorem cellsInt : Tryd.prog.cellsOf 3 = 1 := by kernel_rfl
theorem cellsStrs : Tryd.prog.cellsOf 48 = 1 := by kernel_rfl
def strOf : Value → ByteArray
  | .string s => s
  | _ => .empty
theorem block_lt_of_cell {w : World} {a : Addr} {v : Value} (h : w.cell? a = some v) : a.block < w.heap.size := by
  unfold World.cell? at h
  split at h
  · next hh => exact lt_of_heap hh
  · cases h
theorem add_none (b o k : Nat) : (⟨b, o, none⟩ : Addr).add k = ⟨b, o + k, none⟩ := by unfold Addr.add; split <;> simp_all
section
variable {H : Type} {enc : TypeId × Value → H}
set_option maxRecDepth 100000 in
theorem open_parts {W : World} {base : Nat} {v : Value} {d : DataW H} {p : List MemPlace} (hv : Value.okWide Tryd.prog W .any base 22 v) (h : DataW.Trod enc Tryd.prog W 0 (fun _ => true) true 22 v d p) :
    ∃ xs : List P2, PartsAt W v xs ∧ SrcAt W 2 v xs.length (flatP xs) ∧ 2 * xs.length ≤ Rows.uptoBulk d := by
  obtain ⟨a, len, cap, rfl⟩ := okWide_slice Tryd.underlying22 hv
  obtain ⟨n, hn⟩ := h
  rcases Go.Deep.open_slice_pairs Tryd.underlying22 Tryd.underlying29 cellsPart rfl rfl cellsStr cellsInt hn with ⟨hc, hx⟩ | ⟨a', len', cap', m, k, V0, V1, D0, D1, P0, P1, hc, _, hl, hm, hmm, hx, hall⟩
  · have hc' : (Value.slice a len cap) = .slice none 0 0 := (List.cons.inj (show [Value.slice a len cap] = [.slice none 0 0] from hc)).1
    simp only [Value.slice.injEq] at hc'
    obtain ⟨rfl, rfl, rfl⟩ := hc'
    exact ⟨[], ⟨none, 0, rfl, fun h => absurd rfl h⟩, ⟨rfl, .inl ⟨rfl, rfl⟩⟩, by simp⟩
  · have hc' : (Value.slice a len cap) = .slice (some a') len' cap' := (List.cons.inj (show [Value.slice a len cap] = [.slice (some a') len' cap'] from hc)).1
    simp only [Value.slice.injEq] at hc'
    obtain ⟨rfl, rfl, rfl⟩ := hc'
    simp only [if_true] at hmm
    subst hmm
    simp only [Prod.mk.injEq] at hx
    have hV : ∀ i, i < m → V0 i = .string (strOf (V0 i)) ∧ V1 i = .int .i64 (intOf (V1 i)) := fun i hi => by
      obtain ⟨_, _, t0, t1⟩ := hall i hi
      obtain ⟨s, e0, _, _⟩ := DataW.trod_string Tryd.underlying9 t0
      obtain ⟨z, e1, _, _⟩ := DataW.trod_int Tryd.underlying3 t1
      simp only [List.cons.injEq, and_true] at e0 e1
      rw [e0, e1]; exact ⟨rfl, rfl⟩
    have hlen : ((List.range len).map fun i => (strOf (V0 i), intOf (V1 i))).length = len := by simp
    have hget : ∀ i, i < len → ((List.range len).map fun i => ((strOf (V0 i), intOf (V1 i)) : P2)).getD i (.empty, 0) = (strOf (V0 i), intOf (V1 i)) := fun i hi => by
      simp [List.getD, hi]
    have hcell : ∀ j u, (flatP ((List.range len).map fun i => (strOf (V0 i), intOf (V1 i))))[j]? = some u → W.cell? (a'.add j) = some u := fun j u hu => by
      have hj : j < len * 2 := by have := (List.getElem?_eq_some_iff.1 hu).1; rw [flatP_length, hlen] at this; exact this
      have hi : j / 2 < len := by omega
      obtain ⟨c0, c1, _, _⟩ := hall (j / 2) (by omega)
      obtain ⟨v0, v1⟩ := hV (j / 2) (by omega)
      have hg := flatP_get _ (j / 2) (by rw [hlen]; exact hi)
      rw [hget _ hi] at hg
      rcases Nat.mod_two_eq_zero_or_one j with e | e
      · have ej : j = j / 2 * 2 := by omega
        rw [← ej] at hg c0
        rw [hg.1] at hu
        rw [c0, ← Option.some.inj hu]; exact congrArg some v0
      · have ej : j = j / 2 * 2 + 1 := by omega
        rw [← ej] at hg c1
        rw [hg.2] at hu
        rw [c1, ← Option.some.inj hu]; exact congrArg some v1
    refine ⟨(List.range len).map fun i => (strOf (V0 i), intOf (V1 i)), ⟨some a', m, by rw [hlen], fun hne => ?_⟩, ⟨flatP_length _, .inr ⟨a', m, by rw [hlen], hcell⟩⟩, ?_⟩
    · have hpos : 0 < len := by
        rcases Nat.eq_zero_or_pos len with e | e
        · exact absurd (List.eq_nil_of_length_eq_zero (by rw [hlen, e])) hne
        · exact e
      have h0 := (hall 0 (by omega)).1
      have hlt := block_lt_of_cell h0
      obtain ⟨blk, off, spot⟩ := a'
      have hspot : spot = none := by simpa [Addr.add] using World.cell?_spot h0
      subst hspot
      exact ⟨blk, off, rfl, by simpa [Addr.add] using hlt, fun j u hu => by rw [← add_none]; exact hcell j u hu⟩
    · rw [hlen, hx.1]
      refine Nat.le_trans ?_ (bulk_slice _ _)
      have := bulk_two ((List.range len).map fun i => (DataW.agg [D0 i, D1 i] : DataW H)) (fun d hd => by
        obtain ⟨i, _, rfl⟩ := List.mem_map.1 hd
        have h1 := bulk_one (D0 i)
        rw [Rows.uptoBulk, Rows.uptoBulkAll]; omega)
      simpa using this
set_option maxRecDepth 100000 in
theorem open_results {W : World} {base : Nat} {v : Value} {d : DataW H} {p : List MemPlace} (hv : Value.okWide Tryd.prog W .any base 23 v) (h : DataW.Trod enc Tryd.prog W 0 (fun _ => true) true 23 v d p) :
    ∃ rs : List R4, ResAt W v rs ∧ 2 * rs.length ≤ Rows.uptoBulk d ∧ ∀ r, r ∈ rs → r.2.1.size ≤ Rows.uptoBulk d := by
  obtain ⟨a, len, cap, rfl⟩ := okWide_slice Tryd.underlying23 hv
  obtain ⟨n, hn⟩ := h
  rcases Go.Deep.open_slice Tryd.underlying23 hn with ⟨hc, hx⟩ | ⟨a', len', cap', m, k, D, Pl, hc, _, hl, hm, hmm, hx, hall⟩
  · have hc' : (Value.slice a len cap) = .slice none 0 0 := (List.cons.inj (show [Value.slice a len cap] = [.slice none 0 0] from hc)).1
    simp only [Value.slice.injEq] at hc'
    obtain ⟨rfl, rfl, rfl⟩ := hc'
    exact ⟨[], ⟨none, 0, rfl, fun h => absurd rfl h⟩, by simp, fun r hr => by cases hr⟩
  · have hc' : (Value.slice a len cap) = .slice (some a') len' cap' := (List.cons.inj (show [Value.slice a len cap] = [.slice (some a') len' cap'] from hc)).1
    simp only [Value.slice.injEq] at hc'
    obtain ⟨rfl, rfl, rfl⟩ := hc'
    simp only [if_true] at hmm
    subst hmm
    simp only [Prod.mk.injEq] at hx
    have hone : ∀ i, i < m → ∃ r : R4, (∀ q u, (encR r)[q]? = some u → W.cell? (a'.add (i * 4 + q)) = some u) ∧ r.2.1.size + 2 ≤ Rows.uptoBulk (D i) := fun i hi => by
      obtain ⟨cs, hcs, ht⟩ := hall i hi
      rw [cellsRes] at hcs
      obtain ⟨_, hlen, hat⟩ := World.cells?_some hcs
      obtain ⟨ys, n', _, hy, _, hyl, hf⟩ := DataW.trod_struct Tryd.underlying50 ht
      simp only [Prod.mk.injEq] at hy
      match cs, hlen with
      | [c0, c1, c2, c3], _ =>
        match ys, hyl with
        | [y0, y1, y2, y3], _ =>
          have f0 := hf 0 _ rfl
          have f1 := hf 1 _ rfl
          have f2 := hf 2 _ rfl
          obtain ⟨z0, e0, _, _⟩ := DataW.trod_int Tryd.underlying3 f0
          obtain ⟨s, e1, g1, _⟩ := DataW.trod_string Tryd.underlying9 f1
          obtain ⟨z2, e2, _, _⟩ := DataW.trod_int Tryd.underlying3 f2
          have e0' : c0 = .int .i64 z0 := (List.cons.inj ((congrArg (fun k => List.take k [c0, c1, c2, c3]) cellsInt).symm.trans e0)).1
          have e1' : c1 = .string s := (List.cons.inj ((congrArg (fun k => List.take k [c1, c2, c3]) cellsStr).symm.trans e1)).1
          have e2' : c2 = .int .i64 z2 := (List.cons.inj ((congrArg (fun k => List.take k [c2, c3]) cellsInt).symm.trans e2)).1
          subst e0' e1' e2'
          refine ⟨(z0, s, z2, c3), fun q u hq => ?_, ?_⟩
          · have hq4 : q < 4 := (List.getElem?_eq_some_iff.1 hq).1
            have := hat q hq4
            rw [Go.Deep.add_add] at this
            rw [this]; exact hq
          · rw [hy.1]
            have hb := bulk_part (d := y1.1) (l := [y0, y1, y2, y3].map (·.1)) (by simp)
            have g1' : y1.1 = .lit (.string s.data.toList) := by rw [g1]
            rw [g1'] at hb
            have hs := bulk_string' (H := H) s
            rw [Rows.uptoBulk]
            show s.size + 2 ≤ _
            omega
    have hR : ∃ R : Nat → R4, ∀ i, i < m → (∀ q u, (encR (R i))[q]? = some u → W.cell? (a'.add (i * 4 + q)) = some u) ∧ (R i).2.1.size + 2 ≤ Rows.uptoBulk (D i) := by
      refine ⟨fun i => if h : i < m then (hone i h).choose else noR, fun i hi => ?_⟩
      have e : (fun i => if h : i < m then (hone i h).choose else noR) i = (hone i hi).choose := dif_pos hi
      rw [e]
      exact (hone i hi).choose_spec
    obtain ⟨R, hR⟩ := hR
    have hlen : ((List.range len).map R).length = len := by simp
    have hget : ∀ i, i < len → ((List.range len).map R).getD i noR = R i := fun i hi => by simp [List.getD, hi]
    have hcell : ∀ j u, (flatR ((List.range len).map R))[j]? = some u → W.cell? (a'.add j) = some u := fun j u hu => by
      have hfl : ∀ l : List R4, (flatR l).length = l.length * 4 := fun l => by
        induction l with
        | nil => rfl
        | cons x l ih => simp [flatR, encR] at *; omega
      have hj : j < len * 4 := by have := (List.getElem?_eq_some_iff.1 hu).1; rw [hfl, hlen] at this; exact this
      have hi : j / 4 < len := by omega
      have hq : j % 4 < 4 := Nat.mod_lt _ (by omega)
      have ej : j / 4 * 4 + j % 4 = j := by omega
      have hc := (hR (j / 4) (by omega)).1 (j % 4)
      have hg := flatR_get _ (j / 4) (by rw [hlen]; exact hi)
      rw [hget _ hi] at hg
      rw [ej] at hc
      apply hc
      rw [← ej] at hu
      generalize R (j / 4) = r at *
      have h4 : j % 4 = 0 ∨ j % 4 = 1 ∨ j % 4 = 2 ∨ j % 4 = 3 := by omega
      rcases h4 with e | e | e | e <;> rw [e] at hu ⊢
      · rw [Nat.add_zero, hg.1] at hu; exact hu
      · rw [hg.2.1] at hu; exact hu
      · rw [hg.2.2.1] at hu; exact hu
      · rw [hg.2.2.2] at hu; exact hu
    refine ⟨(List.range len).map R, ⟨some a', m, by rw [hlen], fun hne => ?_⟩, ?_, fun r hr => ?_⟩
    · have hpos : 0 < len := by
        rcases Nat.eq_zero_or_pos len with e | e
        · exact absurd (List.eq_nil_of_length_eq_zero (by rw [hlen, e])) hne
        · exact e
      have h0 := (hR 0 (by omega)).1 0 _ rfl
      have hlt := block_lt_of_cell h0
      obtain ⟨blk, off, spot⟩ := a'
      have hspot : spot = none := by simpa [Addr.add] using World.cell?_spot h0
      subst hspot
      exact ⟨blk, off, rfl, by simpa [Addr.add] using hlt, fun j u hu => by rw [← add_none]; exact hcell j u hu⟩
    · rw [hlen, hx.1]
      refine Nat.le_trans ?_ (bulk_slice _ _)
      have := bulk_two ((List.range len).map D) (fun d hd => by
        obtain ⟨i, hi, rfl⟩ := List.mem_map.1 hd
        have hi' : i < len := List.mem_range.1 hi
        have := (hR i (by omega)).2
        omega)
      simpa using this
    · obtain ⟨i, hi, rfl⟩ := List.mem_map.1 hr
      have hi' : i < len := List.mem_range.1 hi
      refine Nat.le_trans (show _ ≤ Rows.uptoBulk (D i) by have := (hR i (by omega)).2; omega) ?_
      rw [hx.1]
      refine Nat.le_trans ?_ (bulk_slice _ _)
      exact bulk_part (List.mem_map.2 ⟨i, hi, rfl⟩)
end

/-! ### The listed variables -/
theorem tPow : (Tryd.prog.globals[1]?).map (·.type) = some 122 := by kernel_rfl
theorem tSyn : (Tryd.prog.globals[2]?).map (·.type) = some 92 := by kernel_rfl
theorem tRng : (Tryd.prog.globals[3]?).map (·.type) = some 92 := by kernel_rfl
theorem cellsPow : Tryd.prog.cellsOf 122 = 20 := by kernel_rfl
theorem cellsU64 : Tryd.prog.cellsOf 89 = 1 := by kernel_rfl
set_option maxRecDepth 100000 in
theorem pow_of {W : World} (h : laidMetH Tryd.prog Rows.txnExactRow.laid W) : Lib.TabIs Tryd.prog W "internal/strconv.uint64pow10" .u64 Lib.pow10Tab :=
  Lib.tabIs_of_head (rest := []) gPow tPow Tryd.underlying122 Tryd.underlying89 cellsU64 cellsPow (h.filter fun x => x.1 == "internal/strconv.uint64pow10")
set_option maxRecDepth 100000 in
theorem iface_of {W : World} {name what : String} {d : DataW Unit} {g : Nat} (hg : Tryd.prog.globalNamed name = some g) (ht : (Tryd.prog.globals[g]?).map (·.type) = some 92) (h : laidMet Tryd.prog [(name, .iface what d)] W) : ∃ tp p, W.var? Tryd.prog name = some #[.iface tp p] := by
  obtain ⟨ps, ⟨g', t', cs, fuel, p, q, hg', ht', hvar, hd, _, _⟩, _⟩ := h
  obtain rfl := Option.some.inj (hg.symm.trans hg')
  obtain rfl := Option.some.inj (ht.symm.trans ht')
  rw [hvar]
  cases fuel with
  | zero => simp [DataW.trod] at hd
  | succ n =>
    unfold DataW.trod at hd
    rw [Tryd.underlying92] at hd
    split at hd
    case h_12 h => exact ⟨_, _, congrArg some (Array.ext' h)⟩
    all_goals simp_all
set_option maxRecDepth 100000 in
theorem gl_of {W : World} (h : laidMetH Tryd.prog Rows.txnExactRow.laid W) (hs : W.ShapedOpen Tryd.prog) : Gl W.heap.size W := by
  obtain ⟨tp, p, hsyn⟩ := iface_of gSyn tSyn (h.filter fun x => x.1 == "strconv.ErrSyntax")
  obtain ⟨tp2, p2, hrng⟩ := iface_of gRng tRng (h.filter fun x => x.1 == "strconv.ErrRange")
  obtain ⟨m, hm⟩ := cell_of_shapedOpen_int (g := 0) (zero := #[.int .i64 0]) (t := 3) hs (of_decide_eq_true (by kernel_rfl)) (by kernel_rfl) rfl (by kernel_rfl) (by kernel_rfl) Tryd.underlying3
  have hp := pow_of h
  refine ⟨Nat.le_refl _, ⟨block_lt_of_cell hm, block_lt_of_cell (hp.cell gPow 0 (by decide)), block_lt_of_cell (World.var?_cell gSyn hsyn 0), block_lt_of_cell (World.var?_cell gRng hrng 0)⟩, ⟨m, hm⟩, hp, ⟨tp, p, hsyn⟩, ⟨tp2, p2, hrng⟩⟩
end Go.Proofs.YtbfahkpckhbajaaDoor
