/- What the package-level variables hold that the library's numbers read, and that it stays so. No condition. -/
import Derived.Test.YtbfahkpckhbajaaDoorQBase
import Derived.Test.YtbfahkpckhbajaaDoorQShelf
import Derived.Lib.ItoaLen
namespace Go.Proofs.YtbfahkpckhbajaaDoor
open Go.RowKit

/-- The listed variables lie below block B and hold what they are listed with. -/
structure Gl (B : Nat) (w : World) : Prop where
  big : B ≤ w.heap.size
  lt : 0 < B ∧ 1 < B ∧ 2 < B ∧ 3 < B
  most : ∃ m, w.cell? ⟨0, 0, none⟩ = some (.int .i64 m)
  pow : Lib.TabIs Tryd.prog w "internal/strconv.uint64pow10" .u64 Lib.pow10Tab
  syn : ∃ tp p, w.var? Tryd.prog "strconv.ErrSyntax" = some #[.iface tp p]
  rng : ∃ tp p, w.var? Tryd.prog "strconv.ErrRange" = some #[.iface tp p]

theorem var_keep {w w' : World} {name : String} {g : Nat} (hg : Tryd.prog.globalNamed name = some g) (h : w'.heap[g]? = w.heap[g]?) : w'.var? Tryd.prog name = w.var? Tryd.prog name := by
  unfold World.var?
  rw [hg]
  simp only [Option.bind_some, h]
theorem gPow : Tryd.prog.globalNamed "internal/strconv.uint64pow10" = some 1 := by kernel_rfl
theorem gSyn : Tryd.prog.globalNamed "strconv.ErrSyntax" = some 2 := by kernel_rfl
theorem gRng : Tryd.prog.globalNamed "strconv.ErrRange" = some 3 := by kernel_rfl

theorem Gl.fr {B : Nat} {S : Nat → Prop} {w w' : World} (h : Gl B w) (hf : Fr S w w') (hs : ∀ k, k < B → ¬ S k) : Gl B w' where
  big := Nat.le_trans h.big hf.size
  lt := h.lt
  most := by
    obtain ⟨m, hm⟩ := h.most
    exact ⟨m, (hf.cell (p := ⟨0, 0, none⟩) (Nat.lt_of_lt_of_le h.lt.1 h.big) (hs _ h.lt.1)).trans hm⟩
  pow := by
    have := h.pow
    unfold Lib.TabIs at *
    rw [var_keep gPow (hf.block _ (Nat.lt_of_lt_of_le h.lt.2.1 h.big) (hs _ h.lt.2.1))]; exact this
  syn := by
    rw [var_keep gSyn (hf.block _ (Nat.lt_of_lt_of_le h.lt.2.2.1 h.big) (hs _ h.lt.2.2.1))]; exact h.syn
  rng := by
    rw [var_keep gRng (hf.block _ (Nat.lt_of_lt_of_le h.lt.2.2.2 h.big) (hs _ h.lt.2.2.2))]; exact h.rng
theorem Gl.non {B : Nat} {w w' : World} (h : Gl B w) (hf : Fr Non w w') : Gl B w' := h.fr hf (fun _ _ f => f)

/-- strconv.Itoa's text -/
def itoaB (n : Int) : ByteArray := ⟨(Lib.itoa n).toArray⟩
theorem itoaB_size (n : Int) (h0 : -9223372036854775808 ≤ n) (h1 : n ≤ 9223372036854775807) : (itoaB n).size ≤ 21 := by
  have := Lib.itoa_length_le n h0 h1
  show (Lib.itoa n).toArray.size ≤ 21
  simpa using this

theorem itoa_any {B : Nat} (n : Int) (w : World) (h0 : -9223372036854775808 ≤ n) (h1 : n ≤ 9223372036854775807) (ht : Gl B w) :
    Calls Tryd.prog 33 #[.int .i64 n] w fun e w' => e = .returned (.string (itoaB n)) ∧ Fr Non w w' :=
  (Tryd.strconv_Itoa n h0 h1 w ht.pow).mono fun _ _ ⟨he, k, os, hw⟩ => ⟨he, hw ▸ ((Fr.refl _ _).drewN k).grow os⟩

/-- strconv.Atoi's number, and whether there is one -/
def atoiN (s : ByteArray) : Int × Bool :=
  match Lib.atoiAll s.data.toList with
  | .ok v => (v, true)
  | .range => (Lib.atoiSat s.data.toList, false)
  | _ => (0, false)

theorem Fr.bytesWorld {S : Nat → Prop} {a w : World} (h : Fr S a w) (e : TypeId) (s : ByteArray) : Fr S a (Lib.bytesWorld w e s) := by
  unfold Lib.bytesWorld
  have h1 : Fr S a (w.drew.alloc (.cells (Lib.bytesCells w e s) e)) := h.drew.alloc _
  refine ⟨?_, ?_, ?_, ?_, ?_⟩
  · unfold World.freeze; split <;> exact h1.os
  · unfold World.freeze; split <;> exact h1.tape
  · unfold World.freeze; split <;> exact h1.output
  · unfold World.freeze; split
    · exact h1.size
    · simpa using h1.size
  · intro k hk hs
    rw [← h1.block k hk hs]
    unfold World.freeze; split
    · rfl
    · simp only [Array.getElem?_modify]
      rw [if_neg]
      have := h.size
      show w.heap.size ≠ k
      omega

/-- strconv.Atoi: the number and no error, or some number and an error. -/
def AtoiPost (s : ByteArray) (w : World) (e : Ending) (w' : World) : Prop :=
  Fr Non w w' ∧ (((atoiN s).2 = true ∧ e = .returned (.tuple #[.int .i64 (atoiN s).1, .nilIface])) ∨
    ((atoiN s).2 = false ∧ ∃ N, e = .returned (.tuple #[.int .i64 (atoiN s).1, .iface 117 (.pointer (some ⟨N, 0, none⟩))])))
theorem atoi_any {B : Nat} (s : ByteArray) (w : World) (hs : s.size ≤ 281474976710656) (ht : Gl B w) :
    Calls Tryd.prog 50 #[.string s] w (AtoiPost s w) := by
  unfold AtoiPost atoiN
  rcases h : Lib.atoiAll s.data.toList with v | _ | _
  · refine (Tryd.strconv_Atoi_ok s (by omega) v h w).mono ?_
    rintro e w' ⟨rfl, rfl | ⟨t, rfl⟩⟩
    · exact ⟨Fr.refl _ _, .inl ⟨rfl, rfl⟩⟩
    · exact ⟨(Fr.refl _ _).bytesWorld _ _, .inl ⟨rfl, rfl⟩⟩
  · obtain ⟨tp, p, hv⟩ := ht.syn
    refine (Tryd.strconv_Atoi_syntax_var s hs h tp p w hv).mono ?_
    rintro e w' ⟨N, rfl, _, _, hb⟩
    exact ⟨Fr.of_below hb, .inr ⟨rfl, N, rfl⟩⟩
  · obtain ⟨tp, p, hv⟩ := ht.rng
    refine (Tryd.strconv_Atoi_range_var s hs h tp p w hv).mono ?_
    rintro e w' ⟨N, rfl, _, _, hb⟩
    exact ⟨Fr.of_below hb, .inr ⟨rfl, N, rfl⟩⟩
end Go.Proofs.YtbfahkpckhbajaaDoor
