/- Rows: append of a row to a row, whichever of them is nil or empty; quorateref.SameInts and quoratelaw.overInts. Condition: rows of at most 1,000,000 elements. -/
import Derived.Test.YtbfahkpckhbajaaDoorQHeld
import Derived.Laws.AppendOwnNone
namespace Go.Proofs.YtbfahkpckhbajaaDoor
open Go.RowKit
set_option linter.unusedVariables false
set_option linter.unusedSimpArgs false

/-- what is appended: nil, or m elements that lie somewhere -/
def SrcAt (w : World) (size : Nat) (x : Value) (m : Nat) (ys : List Value) : Prop :=
  ys.length = m * size ∧ ((x = .slice none 0 0 ∧ m = 0) ∨ ∃ ad c, x = .slice (some ad) m c ∧ ∀ j u, ys[j]? = some u → w.cell? (ad.add j) = some u)
theorem SrcAt.own {w : World} {base : Nat} {e : TypeId} {size : Nat} {x : Value} {m : Nat} {ys : List Value} (h : w.ownsRow base e size x m ys) : SrcAt w size x m ys := by
  rcases h.2 with ⟨rfl, rfl⟩ | ⟨g, cap, cur, rfl, hb, hh, h2, h3, h4, h5⟩
  · exact ⟨h.1, .inl ⟨rfl, rfl⟩⟩
  · exact ⟨h.1, .inr ⟨_, _, rfl, h.cells (g := g) rfl⟩⟩
/-- append of a row to a row -/
theorem run_append_row {P : Program} {w : World} (t ty e : TypeId) (i : TypeInfo) (z : Value) (size bytes base : Nat) (ht : P.underlying t = some (.slice e)) (hi : P.info? e = some i) (hz : i.zero = some z)
    (hsize : i.size = size) (hby : i.bytes = bytes) (hzs : z.cells.size = size) (hsz : 0 < size)
    (v : Value) (n : Nat) (xs : List Value) (hown : w.ownsRow base e size v n xs) (x : Value) (m : Nat) (ys : List Value) (hsrc : SrcAt w size x m ys) (h1 : ∀ u ∈ ys, u.oneCell' = true)
    (h63 : n + m ≤ maxLen) (hbytes : (n + m) * bytes ≤ 140737488355328) (hbase : base ≤ w.heap.size) :
    ∃ v' w', (Builtin.append_ #[t, t] ty #[v, x]).run P w = .ok v' w' ∧ w'.ownsRow base e size v' (n + m) (xs ++ ys) ∧ w.grownBy w' v.ownBlock ∧ (v'.ownBlock = v.ownBlock ∨ v'.ownBlock = some w.heap.size) := by
  obtain ⟨hl, ⟨rfl, rfl⟩ | ⟨ad, c, rfl, hn⟩⟩ := hsrc
  · have hx : ys = [] := List.eq_nil_of_length_eq_zero (by simpa using hl)
    subst hx
    exact ⟨_, w, run_append_owned_none (P := P) (w := w) base t ty e i size ht hi _ n xs hown, by simpa using hown, ⟨rfl, rfl, rfl, Nat.le_refl _, fun _ _ _ => rfl⟩, .inl rfl⟩
  · obtain ⟨v', w', hr, ho, hg, _, h5⟩ := run_append_own_at (P := P) w base t ty e i z size bytes ht hi hz hsize hby hzs hsz v n xs hown ad m c ys hl hn h1 h63 hbytes hbase
    exact ⟨v', w', hr, ho, hg, h5⟩
theorem wp_append_row {P : Program} {w : World} {o : Oper} {a : Act} {K : Act → World → Prop} {Q : Exit → Act → World → Prop} (s x : Operand) (t : TypeId)
    (ho : o.op = .call { callee := .builtin .append, args := #[s, x], argTypes := #[t, t] })
    (e : TypeId) (i : TypeInfo) (z : Value) (size bytes base : Nat) (ht : P.underlying t = some (.slice e)) (hi : P.info? e = some i) (hz : i.zero = some z)
    (hsize : i.size = size) (hby : i.bytes = bytes) (hzs : z.cells.size = size) (hsz : 0 < size)
    (v : Value) (n : Nat) (xs : List Value) (hs : a.eval s = v) (hown : w.ownsRow base e size v n xs) (vx : Value) (m : Nat) (ys : List Value) (hx : a.eval x = vx) (hsrc : SrcAt w size vx m ys) (h1 : ∀ u ∈ ys, u.oneCell' = true)
    (h63 : n + m ≤ maxLen) (hbytes : (n + m) * bytes ≤ 140737488355328) (hbase : base ≤ w.heap.size)
    (h : ∀ v' w', w'.ownsRow base e size v' (n + m) (xs ++ ys) → w.grownBy w' v.ownBlock → (v'.ownBlock = v.ownBlock ∨ v'.ownBlock = some w.heap.size) → K (a.put o.dst v') w') : o.wp P a w K Q := by
  obtain ⟨v', w', hr, h2, h3, h4⟩ := run_append_row (P := P) (w := w) t o.type e i z size bytes base ht hi hz hsize hby hzs hsz v n xs hown vx m ys hsrc h1 h63 hbytes hbase
  unfold Oper.wp execOp
  simp only [ho, resolve, invoke, builtin, Sem.run_bind, Sem.run_pure, Result.andThen_ok, List.map_toArray, List.map_cons, List.map_nil, hs, hx, hr]
  exact h v' w' h2 h3 h4
theorem step_append_row {P : Program} {w : World} {ops : Array Oper} {o : Oper} {a : Act} {K : Act → World → Prop} {Q : Exit → Act → World → Prop} {E : Prop} (hgd : o.guard = none) (s x : Operand) (t : TypeId)
    (ho : o.op = .call { callee := .builtin .append, args := #[s, x], argTypes := #[t, t] })
    (e : TypeId) (i : TypeInfo) (z : Value) (size bytes base : Nat) (ht : P.underlying t = some (.slice e)) (hi : P.info? e = some i) (hz : i.zero = some z)
    (hsize : i.size = size) (hby : i.bytes = bytes) (hzs : z.cells.size = size) (hsz : 0 < size)
    (v : Value) (n : Nat) (xs : List Value) (hs : a.eval s = v) (hown : w.ownsRow base e size v n xs) (vx : Value) (m : Nat) (ys : List Value) (hx : a.eval x = vx) (hsrc : SrcAt w size vx m ys) (h1 : ∀ u ∈ ys, u.oneCell' = true)
    (h63 : n + m ≤ maxLen) (hbytes : (n + m) * bytes ≤ 140737488355328) (hbase : base ≤ w.heap.size)
    (h : ∀ v' w', w'.ownsRow base e size v' (n + m) (xs ++ ys) → w.grownBy w' v.ownBlock → (v'.ownBlock = v.ownBlock ∨ v'.ownBlock = some w.heap.size) → K (a.put o.dst v') w') :
    if Region.wanted o (yielded ops a.tmps) = true then Oper.wp P o a w K Q else E := by
  have hw : Region.wanted o (yielded ops a.tmps) = true := by simp [Region.wanted, hgd]
  rw [if_pos hw]
  exact wp_append_row s x t ho e i z size bytes base ht hi hz hsize hby hzs hsz v n xs hs hown vx m ys hx hsrc h1 h63 hbytes hbase h
theorem wpList_append_row {P : Program} {w : World} {ops : Array Oper} {rest : List Oper} {o : Oper} {a : Act} {Q : Exit → Act → World → Prop} (hgd : o.guard = none) (s x : Operand) (t : TypeId)
    (ho : o.op = .call { callee := .builtin .append, args := #[s, x], argTypes := #[t, t] })
    (e : TypeId) (i : TypeInfo) (z : Value) (size bytes base : Nat) (ht : P.underlying t = some (.slice e)) (hi : P.info? e = some i) (hz : i.zero = some z)
    (hsize : i.size = size) (hby : i.bytes = bytes) (hzs : z.cells.size = size) (hsz : 0 < size)
    (v : Value) (n : Nat) (xs : List Value) (hs : a.eval s = v) (hown : w.ownsRow base e size v n xs) (vx : Value) (m : Nat) (ys : List Value) (hx : a.eval x = vx) (hsrc : SrcAt w size vx m ys) (h1 : ∀ u ∈ ys, u.oneCell' = true)
    (h63 : n + m ≤ maxLen) (hbytes : (n + m) * bytes ≤ 140737488355328) (hbase : base ≤ w.heap.size)
    (h : ∀ v' w', w'.ownsRow base e size v' (n + m) (xs ++ ys) → w.grownBy w' v.ownBlock → (v'.ownBlock = v.ownBlock ∨ v'.ownBlock = some w.heap.size) → wpList P ops Q rest (a.put o.dst v') w') : wpList P ops Q (o :: rest) a w :=
  wpList_plain hgd fun _ hK => wp_append_row s x t ho e i z size bytes base ht hi hz hsize hby hzs hsz v n xs hs hown vx m ys hx hsrc h1 h63 hbytes hbase fun v' w' h2 h3 h4 => hK _ _ (h v' w' h2 h3 h4)
/-- the head of an owned row -/
theorem own_head {w : World} {base : Nat} {e : TypeId} {size : Nat} {a : Option Addr} {n cap : Nat} {xs : List Value} (h : w.ownsRow base e size (.slice a n cap) n xs) (k : Nat) (hk : k ≤ n) : w.ownsRow base e size (.slice a k cap) k (xs.take (k * size)) := by
  have hks : k * size ≤ n * size := Nat.mul_le_mul_right _ hk
  refine ⟨by rw [List.length_take, h.1]; omega, ?_⟩
  rcases h.2 with ⟨h', h0⟩ | ⟨g, cap', cur, h', hb, hg, hnc, hcm, hcs, htake⟩
  · simp only [Value.slice.injEq] at h'
    obtain ⟨rfl, _, rfl⟩ := h'
    have : k = 0 := by omega
    subst this
    exact .inl ⟨rfl, rfl⟩
  · simp only [Value.slice.injEq] at h'
    obtain ⟨rfl, _, rfl⟩ := h'
    refine .inr ⟨g, cap, cur, rfl, hb, hg, by omega, hcm, hcs, ?_⟩
    rw [← htake, List.take_take, Nat.min_eq_left hks]

abbrev OwnB (v : Value) : Nat → Prop := fun k => v.ownBlock = some k

set_option maxHeartbeats 400000 in
/-- quorateref.SameInts of two rows that hold the same. -/
theorem same_any {B C : Nat} (w : World) (va vb : Value) (xs : List Int) (ha : w.ownsRow B 3 1 va xs.length (xs.map (Value.int .i64))) (hb : w.ownsRow C 3 1 vb xs.length (xs.map (Value.int .i64))) (hn : xs.length ≤ 1000000) :
    Calls Tryd.prog 9 #[va, vb] w fun e w' => e = .returned (.bool true) ∧ Fr Non w w' := by
  obtain ⟨aa, ac, rfl, hac, _⟩ := own_shape ha
  obtain ⟨ba, bc, rfl, hbc, _⟩ := own_shape hb
  generalize hlen : xs.length = n at *
  have HA := Lib.hid ha
  have HB := Lib.hid hb
  have Hlen := Lib.hid hlen
  clear ha hb hlen
  have hne : ((n : Int) != (n : Int)) = false := by simp
  go_enter Tryd.func9, Tryd.ntmps9
  go_wp2_with fail
  go_loopw [5] (fun v5 wr => ∃ k : Nat, k ≤ n ∧ v5 = .int .i64 k ∧ Hid (Fr Non w wr)) (fun v5 _ => n - (intOf v5).toNat)
  case atStart => exact ⟨0, Nat.zero_le _, rfl, Fr.refl _ _⟩
  case round =>
    obtain ⟨k, hk, rfl, hfr⟩ := hrel
    have hk0 : (0 : Int) ≤ ((k : Nat) : Int) := by omega
    by_cases hlt : k < n
    · have hlt' : ((k : Nat) : Int) < ((n : Nat) : Int) := by omega
      obtain ⟨g, c, hv, _, _, _, hg, hcell⟩ := own_full HA.out (by omega)
      obtain ⟨g2, c2, hv2, _, _, _, hg2, hcell2⟩ := own_full HB.out (by omega)
      have hkx : k < xs.length := by rw [Hlen.out]; exact hlt
      have hx : (xs.map (Value.int .i64))[k]? = some (.int .i64 xs[k]) := by simp [hkx]
      have d1 := (hfr.out.cell (p := ⟨g, k, none⟩) hg (fun h => h)).trans (hcell k _ hx)
      have d2 := (hfr.out.cell (p := ⟨g2, k, none⟩) hg2 (fun h => h)).trans (hcell2 k _ hx)
      generalize xs[k] = x at *
      simp only [Value.slice.injEq] at hv hv2
      obtain ⟨rfl, _, rfl⟩ := hv
      obtain ⟨rfl, _, rfl⟩ := hv2
      clear hcell hcell2 hx
      go_wp2_with fail
      go_quiet (fail)
      go_wp2_with fail
      go_roundw
      case rel => exact ⟨k + 1, by omega, by go_num, Fr.trans hfr.out (by with_reducible repeat (first | exact Fr.refl _ _ | refine Fr.drew ?_ | refine Fr.drewN ?_ _))⟩
      case measure => simp [intOf]; omega
    · have hlt' : ¬ ((k : Nat) : Int) < ((n : Nat) : Int) := by omega
      go_wp2_with fail
      go_ret
      exact ⟨rfl, hfr.out⟩

set_option maxHeartbeats 1000000 in
/-- quoratelaw.overInts: it writes over the row alone. -/
theorem over_any {B : Nat} (w : World) (v : Value) (n : Nat) (vs : List Value) (hv : w.ownsRow B 3 1 v n vs) (hn : n ≤ 1000000) (hB : B ≤ w.heap.size) :
    Calls Tryd.prog 10 #[v] w fun e w' => e = .returned (.tuple #[]) ∧ Fr (OwnB v) w w' := by
  obtain ⟨aa, ac, rfl, hac, _⟩ := own_shape hv
  obtain ⟨i0, hi, hz0, hz1, hz2⟩ := info_parts infoInt
  have Hi := Lib.hid hi
  have Hz0 := Lib.hid hz0
  have Hz1 := Lib.hid hz1
  have Hz2 := Lib.hid hz2
  clear hi hz0 hz1 hz2
  have HV := Lib.hid hv
  clear hv
  go_enter Tryd.func10, Tryd.ntmps10
  go_wp2_with fail
  go_loopw [2] (fun v2 wr => ∃ k : Nat, k ≤ n ∧ v2 = .int .i64 k ∧ Hid (Fr (OwnB (.slice aa n ac)) w wr) ∧ Hid (∃ us, wr.ownsRow B 3 1 (.slice aa n ac) n us)) (fun v2 _ => n - (intOf v2).toNat)
  case atStart => exact ⟨0, Nat.zero_le _, rfl, Fr.refl _ _, ⟨_, HV.out⟩⟩
  case round =>
    obtain ⟨k, hk, rfl, hfr, how⟩ := hrel
    have hk0 : (0 : Int) ≤ ((k : Nat) : Int) := by omega
    by_cases hlt : k < n
    · have hlt' : ((k : Nat) : Int) < ((n : Nat) : Int) := by omega
      obtain ⟨us, hus⟩ := how.out
      obtain ⟨g, c, hv, _, _, _, hg, hcell⟩ := own_full hus (by omega)
      have hkx : k < us.length := by rw [hus.1]; omega
      have hx : us[k]? = some us[k] := by simp [hkx]
      have d1 := hcell k _ hx
      have hf : wr.frozen? ⟨g, k, none⟩ = false := by
        rcases hus.2 with ⟨_, h0⟩ | ⟨g', cap', cur, h', _, hh, _⟩
        · omega
        · rw [hv] at h'
          simp only [Value.slice.injEq, Option.some.injEq, Addr.mk.injEq] at h'
          rw [h'.1.1]
          exact free_of hh k
      have HU := Lib.hid hus
      clear hus
      simp only [Value.slice.injEq] at hv
      obtain ⟨rfl, _, rfl⟩ := hv
      generalize us[k] = x at d1
      have hst := HU.out.stored k (.int .i64 (-7))
      have HS := Lib.hid hst
      clear hcell hx hst how
      go_wp2_with fail
      go_roundw
      case rel =>
        refine ⟨k + 1, by omega, by go_num, Fr.trans hfr.out ?_, ⟨_, HS.out.1⟩⟩
        exact Fr.setCell (S := OwnB (.slice (some ⟨g, 0, none⟩) n ac)) (Fr.refl _ _) (p := ⟨g, k, none⟩) (fun _ => rfl) _
      case measure => simp [intOf]; omega
    · have hlt' : ¬ ((k : Nat) : Int) < ((n : Nat) : Int) := by omega
      have HU := how
      clear how
      go_wp2_with (at_builtin; obtain ⟨us, hus⟩ := HU.out; refine wpList_append_row rfl _ _ _ rfl 3 i0 (.int .i64 0) 1 8 B Tryd.underlying37 Hi.out Hz0.out Hz1.out Hz2.out rfl (by decide) _ n us rfl (Fr.own ((Fr.refl Non wr).alloc _) hus (fun _ _ f => f)) _ 2 [.int .i64 (-7), .int .i64 (-7)] rfl ⟨rfl, .inr ⟨_, _, rfl, World.news_of_block (heap_alloc_new wr _)⟩⟩ (fun u hu => by simp at hu; subst hu; rfl) (by unfold maxLen; omega) (by omega) (by have := hfr.out.size; simp; omega) ?_; intro v' w1 hown1 hgrow1 hat1; have hF1 : Fr (OwnB (.slice aa n ac)) wr w1 := ((Fr.refl _ wr).alloc _).grown hgrow1 (fun _ _ e => e); have HF1 := Lib.hid hF1; clear hown1 hgrow1 hat1 hF1 hus)
      go_end0
      exact ⟨rfl, Fr.trans hfr.out HF1.out⟩
end Go.Proofs.YtbfahkpckhbajaaDoor
