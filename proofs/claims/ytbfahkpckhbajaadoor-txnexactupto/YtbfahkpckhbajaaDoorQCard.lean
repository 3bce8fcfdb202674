/- Chapter 16's law: a transaction of any parts, and any results: the call returns true, its input reads as it did. Condition: what the call reads is of bulk at most 1,048,576 ('UptoCardSaid'). -/
import Derived.Test.YtbfahkpckhbajaaDoorQOpen
import Derived.Deep.DeepWitnessRowRef
import Derived.LaidMore
import Derived.Lay
import Derived.SevenTiedAt
namespace Go.Proofs.YtbfahkpckhbajaaDoor
open Go.ChangeShapes Go.WideShapes Go.ChangeAt Go.RowKit
set_option linter.unusedVariables false
set_option linter.unusedSimpArgs false

theorem own : ownKnob Tryd.prog.godebug = none := by kernel_rfl
theorem laidOut : laidOutB Tryd.prog = true := by kernel_rfl
section
variable {H : Type} {enc : TypeId × Value → H}
/-- arguments read behind a call as they did, where of what lay there nothing has changed -/
theorem stays_all {P : Program} (hl : laidOutB P = true) {W W' : World} {sp : Nat → Bool} (hb : Below W.heap.size W W') : ∀ {ts : List TypeId} {vs : List Value} {ds : List (DataW H)} {ps : List MemPlace}, (∀ t ∈ ts, P.readableRec t = true ∧ t < P.types.size) →
    DataW.TrodAll enc P W 0 (fun _ => true) true ts vs ds ps → (∀ x ∈ ps, x.block < W.heap.size ∧ sp x.block = true) → DataW.TrodAll enc P W' 0 sp true ts vs ds ps
  | [], [], [], _, _, h, _ => h
  | t :: ts, v :: vs, d :: ds, ps, ht, ⟨p, q, h1, h2, e⟩, hs =>
    ⟨p, q, Go.WideElems.Trod_stays hl (ht t (List.mem_cons_self ..)).1 (ht t (List.mem_cons_self ..)).2 h1 (fun x hx => hb.same (hs x (by rw [e]; exact List.mem_append_left _ hx)).1) (fun x hx => (hs x (by rw [e]; exact List.mem_append_left _ hx)).2),
      stays_all hl hb (fun u hu => ht u (List.mem_cons_of_mem _ hu)) h2 (fun x hx => hs x (by rw [e]; exact List.mem_append_right _ hx)), e⟩
end

set_option maxRecDepth 100000 in
theorem contract (H : Type) (enc : TypeId × Value → H) (W : World) (base : Nat) (args : Array Value) (ds gs : List (DataW H)) (before : List MemPlace)
    (hval : ∀ (j : Nat) t v, Tryd.f3.params[j]? = some t → args[j]? = some v → Value.okWide Tryd.prog W .any base t v)
    (hW : DataW.Whole enc Tryd.prog Tryd.f3.params.toList Rows.txnExactSpec.vars false W args.toList ds gs before) (hk : Rows.uptoSmall H (ds ++ gs) = true) (hL : laidMetH Tryd.prog Rows.txnExactUptoRow.laid W) (hsh : W.ShapedOpen Tryd.prog) :
    Calls Tryd.prog 3 args W fun e W' => ∃ v, e = .returned v ∧ Rows.txnExactSpec.post enc Tryd.prog Tryd.f3 false true false false W args v W' := by
  have hW' := hW
  have hlt := hW.lt
  obtain ⟨p, q, hA0, hV, rfl, hfz, _⟩ := hW
  have hA : DataW.TrodAll enc Tryd.prog W 0 (fun _ => true) true Tryd.f3.params.toList args.toList ds p := hA0
  obtain ⟨rfl, rfl⟩ := trodVars_none hV
  have hAk := hA
  rw [Tryd.params3] at hA hval
  obtain ⟨v0, vs0, d0, ds0, p0, q0, hargs, rfl, rfl, h0, r0⟩ := trodAll_cons hA
  obtain ⟨v1, vs1, d1, ds1, p1, q1, rfl, rfl, rfl, h1, r1⟩ := trodAll_cons r0
  obtain ⟨v2, vs2, d2, ds2, p2, q2, rfl, rfl, rfl, h2, r2⟩ := trodAll_cons r1
  obtain ⟨rfl, rfl, rfl⟩ := trodAll_nil r2
  obtain rfl : args = #[v0, v1, v2] := by cases args; simp_all
  obtain ⟨id, rfl, rfl, rfl, _⟩ := open_int Tryd.underlying3 (hval 0 3 v0 rfl rfl) h0
  obtain ⟨xs, hx1, hx2, hx3⟩ := open_parts (hval 1 22 v1 rfl rfl) h1
  obtain ⟨rs, hr1, hr2, hr3⟩ := open_results (hval 2 23 v2 rfl rfl) h2
  have hbound : Rows.uptoBulkAll [DataW.lit (.int .i64 id), d1, d2] ≤ 1048576 := of_decide_eq_true hk
  have hb3 : Rows.uptoBulk d1 + Rows.uptoBulk d2 ≤ 1048576 := by
    simp only [Rows.uptoBulkAll] at hbound
    have := bulk_one (H := H) (DataW.lit (.int .i64 id))
    omega
  have e0 : (∀ r, r ∈ rs → r.2.1.size ≤ 2000000) := fun r hr => by have := hr3 r hr; omega
  refine (law_any W id v1 v2 xs rs hx1 hx2 hr1 (by omega) (by omega) e0 (gl_of hL hsh)).mono fun e W' ⟨he, hf⟩ => ?_
  subst he
  have hb := hf.to_below
  have hread : ∀ t ∈ Tryd.f3.params.toList, Tryd.prog.readableRec t = true ∧ t < Tryd.prog.types.size := by
    rw [Tryd.params3]
    intro t ht
    have hall : ([3, 22, 23].all fun t => Tryd.prog.readableRec t && decide (t < Tryd.prog.types.size)) = true := by kernel_rfl
    have := List.all_eq_true.1 hall t (by simpa using ht)
    simpa using this
  have hargs' : ∀ sp : Nat → Bool, (∀ x ∈ [] ++ (p1 ++ (p2 ++ [])), sp x.block = true) → DataW.TrodAll enc Tryd.prog W' 0 sp true Tryd.f3.params.toList [Value.int .i64 id, v1, v2] [DataW.lit (.int .i64 id), d1, d2] ([] ++ (p1 ++ (p2 ++ []))) :=
    fun sp hsp => stays_all laidOut hb hread hAk (fun x hx => ⟨hlt x (by simpa using hx), hsp x hx⟩)
  have hrt : Tryd.f3.resultTypes = #[4] := by kernel_rfl
  have hb0 : ∀ (b : Nat) (sp : Nat → Bool) (hd : Bool), DataW.Trod enc Tryd.prog W' b sp hd 4 (.bool true) (.lit (.bool true)) [] := fun _ _ _ => shut_bool Tryd.underlying4 true
  refine ⟨_, rfl, _, _, _, [], [] ++ (p1 ++ (p2 ++ [])), [], hW', ?_, hargs' _ (fun x hx => by simpa using hlt x (by simpa using hx)), rfl, hb.frame _, fun _ => ⟨ok_one (by kernel_rfl) rfl (okWide_bool_mk Tryd.underlying4 _), [.lit (.bool true), .lit (.int .i64 id), d1, d2], [], [] ++ (p1 ++ (p2 ++ [])), ⟨[] ++ (p1 ++ (p2 ++ [])), [], ?_, rfl, by simp, ?_, fun h => by cases h⟩, fun x hx _ => by simpa using hx⟩⟩
  · rw [hrt]
    exact trodAll_cons_mk (hb0 _ _ _) rfl
  · rw [hrt]
    exact trodAll_cons_mk (p := []) (hb0 _ _ _) (hargs' _ (fun _ _ => rfl))
  · intro b off hin
    have hin' : MemPlace.cell b off ∈ ([] ++ (p1 ++ (p2 ++ []))) ++ [] := by simpa using hin
    rw [hb.frozen (hlt _ hin')]
    exact hfz b off hin'
end Go.Proofs.YtbfahkpckhbajaaDoor
