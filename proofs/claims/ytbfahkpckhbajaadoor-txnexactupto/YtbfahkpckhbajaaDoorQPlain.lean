/- Plain law: numbers in letters read alike by both packages: txn.read and quorateref.heldOf compute the same. Condition: a most of at most 1,000,000,000. -/
import Derived.Test.YtbfahkpckhbajaaDoorQHeld
namespace Go.Proofs.YtbfahkpckhbajaaDoor
open Go.RowKit
set_option linter.unusedVariables false
set_option linter.unusedSimpArgs false

def Dig (c : UInt8) : Prop := 48 ≤ c.toNat ∧ c.toNat ≤ 57
/-- the number that letters say behind others that said a -/
def dval (a : Nat) : List UInt8 → Nat
  | [] => a
  | c :: r => dval (10 * a + (c.toNat - 48)) r
theorem dval_snoc (c : UInt8) : ∀ (l : List UInt8) (a : Nat), dval a (l ++ [c]) = 10 * dval a l + (c.toNat - 48)
  | [], a => rfl
  | d :: l, a => dval_snoc c l _
theorem dval_ge : ∀ (l : List UInt8) (a : Nat), a ≤ dval a l
  | [], a => Nat.le_refl _
  | d :: l, a => Nat.le_trans (by omega) (dval_ge l _)
theorem digit_of (u : Nat) (h : u < 10) : (UInt8.ofNat (48 + u)).toNat = 48 + u := by
  rw [UInt8.toNat_ofNat']; omega
theorem dec_all (u : Nat) : ∀ c ∈ Lib.decDigits u, Dig c := by
  induction u using Nat.strongRecOn with
  | _ u ih =>
    intro c hc
    rw [Lib.decDigits] at hc
    split at hc
    · next h =>
      rw [List.mem_singleton] at hc
      subst hc
      unfold Dig
      rw [digit_of u h]; omega
    · next h =>
      rw [List.mem_append, List.mem_singleton] at hc
      rcases hc with hc | hc
      · exact ih _ (by omega) c hc
      · subst hc
        unfold Dig
        rw [digit_of _ (by omega)]; omega
theorem dec_val (u : Nat) : dval 0 (Lib.decDigits u) = u := by
  induction u using Nat.strongRecOn with
  | _ u ih =>
    rw [Lib.decDigits]
    split
    · next h =>
      show 10 * 0 + _ = u
      rw [digit_of u h]; omega
    · next h =>
      rw [dval_snoc, ih _ (by omega), digit_of _ (by omega)]; omega
theorem dec_ne (u : Nat) : Lib.decDigits u ≠ [] := by
  rw [Lib.decDigits]
  split <;> simp
theorem dec_zero : Lib.decDigits 0 = [48] := by rw [Lib.decDigits]; rfl
theorem dec_unique : ∀ (n : Nat) (l : List UInt8), l.length = n → l ≠ [] → (∀ c ∈ l, Dig c) → (l.head? = some 48 → l.length ≤ 1) → Lib.decDigits (dval 0 l) = l
  | 0, l, hn, h, _, _ => absurd (List.eq_nil_of_length_eq_zero hn) h
  | n + 1, l, hn, h, hd, hz => by
    obtain ⟨l', c, rfl⟩ : ∃ l' c, l = l' ++ [c] := ⟨l.dropLast, l.getLast h, (List.dropLast_concat_getLast h).symm⟩
    have hc := hd c (by simp)
    have hc' : UInt8.ofNat (48 + (c.toNat - 48)) = c := by
      apply UInt8.toNat_inj.mp
      rw [UInt8.toNat_ofNat']
      have := hc.1; have := hc.2; omega
    rw [dval_snoc]
    by_cases h' : l' = []
    · subst h'
      show Lib.decDigits (10 * 0 + (c.toNat - 48)) = [c]
      have h1 : 10 * 0 + (c.toNat - 48) < 10 := by have := hc.2; omega
      rw [Lib.decDigits, dif_pos h1, Nat.mul_zero, Nat.zero_add, hc']
    · have hlen : l'.length = n := by simpa using hn
      have hn0 : 0 < l'.length := List.length_pos_iff.2 h'
      have hh : (l' ++ [c]).head? = l'.head? := by
        cases l' with
        | nil => exact absurd rfl h'
        | cons a t => rfl
      have hz' : l'.head? ≠ some 48 := by
        intro e
        have := hz (hh.trans e)
        rw [List.length_append, List.length_singleton] at this; omega
      have ih := dec_unique n l' hlen h' (fun d hm => hd d (by simp [hm])) (fun e => absurd e hz')
      have hv : 0 < dval 0 l' := by
        apply Nat.pos_of_ne_zero
        intro e
        rw [e, dec_zero] at ih
        exact hz' (by rw [← ih]; rfl)
      have h1 : ¬ 10 * dval 0 l' + (c.toNat - 48) < 10 := by omega
      rw [Lib.decDigits, dif_neg h1]
      have e1 : (10 * dval 0 l' + (c.toNat - 48)) / 10 = dval 0 l' := by have := hc.2; omega
      have e2 : (10 * dval 0 l' + (c.toNat - 48)) % 10 = c.toNat - 48 := by have := hc.2; omega
      rw [e1, e2, ih, hc']

theorem dec_lead (u : Nat) (h : u ≠ 0) : (Lib.decDigits u).head? ≠ some 48 := by
  induction u using Nat.strongRecOn with
  | _ u ih =>
    rw [Lib.decDigits]
    split
    · next h1 =>
      intro e
      have e' : UInt8.ofNat (48 + u) = 48 := by simpa using e
      have := congrArg UInt8.toNat e'
      rw [digit_of u h1] at this
      have h48 : (48 : UInt8).toNat = 48 := rfl
      omega
    · next h1 =>
      have hne := dec_ne (u / 10)
      have := ih (u / 10) (by omega) (by omega)
      cases hd : Lib.decDigits (u / 10) with
      | nil => exact absurd hd hne
      | cons a t => rw [hd] at this; exact this
theorem amtGo_ok (l : List UInt8) (m : Int) (hl : l ≠ []) (hh : ¬ (l.head? = some 48 ∧ 1 < l.length)) : ∀ (r : List UInt8) (n : Nat), (∀ c ∈ r, Dig c) → (dval n r : Int) ≤ m → amtGo l m r n = dval n r
  | [], n, _, h => by
    show amtEnd l m n = n
    have h' : (n : Int) ≤ m := h
    unfold amtEnd
    rw [if_neg]
    rintro (h1 | h1 | h1)
    · exact hl h1
    · omega
    · exact hh h1
  | c :: r, n, hd, h => by
    have hc := hd c (by simp)
    have hg := dval_ge r (10 * n + (c.toNat - 48))
    have h' : (dval (10 * n + (c.toNat - 48)) r : Int) ≤ m := h
    show (if (c.toNat : Int) < 48 ∨ 57 < (c.toNat : Int) ∨ m < n then -1 else amtGo l m r (10 * n + ((c.toNat : Int) - 48))) = (dval (10 * n + (c.toNat - 48)) r : Int)
    have h1 := hc.1
    have h2 := hc.2
    rw [if_neg (by omega)]
    have e : (10 * (n : Int) + ((c.toNat : Int) - 48)) = ((10 * n + (c.toNat - 48) : Nat) : Int) := by omega
    rw [e]
    exact amtGo_ok l m hl hh r _ (fun d hm => hd d (by simp [hm])) h'
theorem amtGo_inv (l : List UInt8) (m : Int) : ∀ (r : List UInt8) (n : Nat), amtGo l m r n ≠ -1 → (∀ c ∈ r, Dig c) ∧ (dval n r : Int) ≤ m ∧ l ≠ [] ∧ ¬ (l.head? = some 48 ∧ 1 < l.length)
  | [], n, h => by
    have h' : amtEnd l m n ≠ -1 := h
    unfold amtEnd at h'
    split at h'
    · exact absurd rfl h'
    · next hn =>
      have h1 : ¬ l = [] := fun e => hn (.inl e)
      have h2 : ¬ m < n := fun e => hn (.inr (.inl e))
      refine ⟨by simp, ?_, h1, fun e => hn (.inr (.inr e))⟩
      show (n : Int) ≤ m
      omega
  | c :: r, n, h => by
    have h' : (if (c.toNat : Int) < 48 ∨ 57 < (c.toNat : Int) ∨ m < n then -1 else amtGo l m r (10 * n + ((c.toNat : Int) - 48))) ≠ -1 := h
    split at h'
    · exact absurd rfl h'
    · next hn =>
      have h1 : 48 ≤ c.toNat := by omega
      have h2 : c.toNat ≤ 57 := by omega
      have e : (10 * (n : Int) + ((c.toNat : Int) - 48)) = ((10 * n + (c.toNat - 48) : Nat) : Int) := by omega
      rw [e] at h'
      obtain ⟨g1, g2, g3, g4⟩ := amtGo_inv l m r _ h'
      refine ⟨fun d hm => ?_, g2, g3, g4⟩
      rcases List.mem_cons.1 hm with rfl | hm
      · exact ⟨h1, h2⟩
      · exact g1 d hm
theorem parse_ok : ∀ (l : List UInt8) (a : Nat), (∀ c ∈ l, Dig c) → dval a l < 18446744073709551616 → Lib.parseUint10 a l = .ok (dval a l)
  | [], a, _, _ => rfl
  | c :: r, a, hd, h => by
    have hc := hd c (by simp)
    have hg := dval_ge r (10 * a + (c.toNat - 48))
    have h' : dval (10 * a + (c.toNat - 48)) r < 18446744073709551616 := h
    unfold Lib.parseUint10
    have e : a * 10 + (c.toNat - 48) = 10 * a + (c.toNat - 48) := by omega
    rw [if_pos (show 48 ≤ c.toNat ∧ c.toNat ≤ 57 from hc), if_neg (by omega), e, if_neg (by omega)]
    exact parse_ok r _ (fun d hm => hd d (by simp [hm])) h'
theorem atoi_ok (l : List UInt8) (hl : l ≠ []) (hd : ∀ c ∈ l, Dig c) (h : dval 0 l ≤ 1000000000) : Lib.atoiAll l = .ok (dval 0 l) := by
  obtain _ | ⟨c, r⟩ := l
  · exact absurd rfl hl
  have hc := hd c (by simp)
  have h1 : c.toNat ≠ 43 := by have := hc.1; omega
  have h2 : c.toNat ≠ 45 := by have := hc.1; omega
  unfold Lib.atoiAll
  simp only [h1, h2, or_self, if_false]
  unfold Lib.parseMag
  rw [if_neg (by simp), parse_ok _ _ hd (by omega)]
  simp only
  generalize dval 0 (c :: r) = u at h ⊢
  simp
  omega
theorem bytes_eq {s t : ByteArray} (h : s.data.toList = t.data.toList) : s = t := by
  obtain ⟨⟨x⟩⟩ := s
  obtain ⟨⟨y⟩⟩ := t
  simp at h; rw [h]
theorem itoaB_data (n : Int) (h : 0 ≤ n) : (itoaB n).data.toList = Lib.decDigits n.toNat := by
  unfold itoaB Lib.itoa
  rw [if_neg (by omega)]
theorem num_ok (s : ByteArray) (m : Int) (h : (numB s m).2 = true) : amtB s m = (numB s m).1 ∧ 0 ≤ (numB s m).1 := by
  unfold numB at h
  simp only [Bool.and_eq_true, decide_eq_true_eq, beq_iff_eq] at h
  obtain ⟨⟨⟨h1, h2⟩, h3⟩, h4⟩ := h
  show amtB s m = (atoiN s).1 ∧ 0 ≤ (atoiN s).1
  generalize (atoiN s).1 = n at *
  rw [ByteArray.toList_eq, ByteArray.toList_eq, itoaB_data n h2] at h4
  refine ⟨?_, h2⟩
  unfold amtB
  rw [← h4]
  have hv := dec_val n.toNat
  have hn : ((n.toNat : Nat) : Int) = n := by omega
  have := amtGo_ok (Lib.decDigits n.toNat) m (dec_ne _) (fun e => by
    by_cases h0 : n.toNat = 0
    · rw [h0, dec_zero] at e; simp at e
    · exact dec_lead n.toNat h0 e.1) (Lib.decDigits n.toNat) 0 (dec_all _) (by rw [hv]; omega)
  rw [hv, hn] at this
  exact this
theorem num_no (s : ByteArray) (m : Int) (hm : m ≤ 1000000000) (h : (numB s m).2 = false) : amtB s m = -1 := by
  apply Classical.byContradiction
  intro hne
  obtain ⟨h1, h2, h3, h4⟩ := amtGo_inv s.data.toList m s.data.toList 0 hne
  have hu := dec_unique _ s.data.toList rfl h3 h1 (fun e => by
    apply Classical.byContradiction; intro hl; exact h4 ⟨e, by omega⟩)
  generalize hv : dval 0 s.data.toList = v at *
  have ha : Lib.atoiAll s.data.toList = .ok v := by
    rw [atoi_ok _ h3 h1 (by omega), hv]
  have hN : atoiN s = ((v : Int), true) := by unfold atoiN; rw [ha]
  have : (numB s m).2 = true := by
    unfold numB
    rw [hN]
    simp only [Bool.and_eq_true, decide_eq_true_eq, beq_iff_eq]
    refine ⟨⟨⟨trivial, by omega⟩, h2⟩, ?_⟩
    rw [ByteArray.toList_eq, ByteArray.toList_eq, itoaB_data _ (by omega)]
    simpa using hu
  rw [this] at h; cases h

theorem read_held (xs : List ByteArray) : readL xs = heldL xs := by
  have n0 := num_ok (xs.getD 0 .empty) 999999999
  have n1 := num_ok (xs.getD 1 .empty) 999
  have n2 := num_ok (xs.getD 2 .empty) 999999999
  have f0 := num_no (xs.getD 0 .empty) 999999999 (by omega)
  have f1 := num_no (xs.getD 1 .empty) 999 (by omega)
  have f2 := num_no (xs.getD 2 .empty) 999999999 (by omega)
  unfold readL heldL
  by_cases h : xs.length = 1 ∨ xs.length = 3
  · have r0 : rd xs 0 = (0, 0, 0, true) := by
      show (0, 0, 0, xs.length == 1 || xs.length == 3) = _
      rcases h with h | h <;> rw [h] <;> rfl
    have r1 : rd xs 1 = ((numB (xs.getD 0 .empty) 999999999).1, 0, 0, (numB (xs.getD 0 .empty) 999999999).2) := by
      rw [rd_go (by omega) (by rw [r0])]
      simp [r0]
    generalize numB (xs.getD 0 .empty) 999999999 = x0 at *
    generalize amtB (xs.getD 0 .empty) 999999999 = a0 at *
    rcases h with h | h
    · have r3 : rd xs 3 = rd xs 1 := by rw [rd_skip (by omega), rd_skip (by omega)]
      rw [r3, r1, h]
      obtain ⟨v, b⟩ := x0
      simp only at *
      cases b with
      | false => simp [f0 rfl]
      | true =>
        obtain ⟨g1, g2⟩ := n0 rfl
        simp [g1]
        omega
    · cases hb : x0.2 with
      | false =>
        have r3 : rd xs 3 = rd xs 1 := by rw [rd_skip (fun e => by have := e.2; rw [rd_skip (by rw [r1]; simp [hb])] at this; rw [r1] at this; simp [hb] at this), rd_skip (by rw [r1]; simp [hb])]
        rw [r3, r1]
        simp [hb, f0 hb]
      | true =>
        obtain ⟨g1, g2⟩ := n0 hb
        have r2 : rd xs 2 = (x0.1, (numB (xs.getD 1 .empty) 999).1, 0, (numB (xs.getD 1 .empty) 999).2) := by
          rw [rd_go (by omega) (by rw [r1]; exact hb), r1]
          simp
        generalize numB (xs.getD 1 .empty) 999 = x1 at *
        generalize amtB (xs.getD 1 .empty) 999 = a1 at *
        cases hb1 : x1.2 with
        | false =>
          have r3 : rd xs 3 = rd xs 2 := rd_skip (fun e => by have := e.2; rw [r2] at this; simp [hb1] at this)
          rw [r3, r2]
          simp [hb1, f1 hb1, h]
        | true =>
          obtain ⟨g3, g4⟩ := n1 hb1
          have r3 : rd xs 3 = (x0.1, x1.1, (numB (xs.getD 2 .empty) 999999999).1, (numB (xs.getD 2 .empty) 999999999).2) := by
            rw [rd_go (by omega) (by rw [r2]; exact hb1), r2]
            simp
          generalize numB (xs.getD 2 .empty) 999999999 = x2 at *
          generalize amtB (xs.getD 2 .empty) 999999999 = a2 at *
          rw [r3]
          cases hb2 : x2.2 with
          | false => simp [hb2, f2 hb2, h]
          | true =>
            obtain ⟨g5, g6⟩ := n2 hb2
            simp only [hb2, h, g1, g3, g5]
            by_cases hz : x1.1 = 0
            · rw [if_neg (by simp [hz]), if_neg (by omega), if_pos trivial, if_pos (by omega)]
            · rw [if_pos (by simp [hz]), if_neg (by omega), if_pos trivial, if_neg (by omega)]
  · have h0 : (rd xs 0).2.2.2 = false := by
      show (xs.length == 1 || xs.length == 3) = false
      simp only [Bool.or_eq_false_iff, beq_eq_false_iff_ne]
      omega
    have r1 : rd xs 1 = rd xs 0 := rd_skip (by simp [h0])
    have r2 : rd xs 2 = rd xs 0 := by rw [rd_skip (by rw [r1]; simp [h0]), r1]
    have r3 : rd xs 3 = rd xs 0 := by rw [rd_skip (by rw [r2]; simp [h0]), r2]
    rw [r3, if_neg (by simp [h0]), if_pos (by omega)]
theorem held_read (s : ByteArray) : heldL (wordsB s) = readB s := (read_held _).symm
end Go.Proofs.YtbfahkpckhbajaaDoor
