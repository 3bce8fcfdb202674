/- The law of transactions, walked. Condition: short texts, few parts and results. -/
import Derived.Test.YtbfahkpckhbajaaDoorQLaw0
import Derived.Outline
import Derived.Deep.RegionHeld3
namespace Go.Proofs.YtbfahkpckhbajaaDoor
open Go.RowKit
set_option linter.unusedSimpArgs false
set_option linter.unusedVariables false

set_option maxRecDepth 100000 in
set_option maxHeartbeats 16000000 in
theorem law_any (w : World) (id : Int) (vp vr : Value) (xs : List P2) (rs : List R4) (hp : PartsAt w vp xs) (hsrc : SrcAt w 2 vp xs.length (flatP xs)) (hr : ResAt w vr rs) (hn : xs.length ≤ 1000000) (hm : rs.length ≤ 1000000) (hs : ∀ r, r ∈ rs → r.2.1.size ≤ 2000000) (ht : Gl w.heap.size w) :
    Calls Tryd.prog 3 #[.int .i64 id, vp, vr] w fun e w' => e = .returned (.bool true) ∧ Fr Non w w' := by
  obtain ⟨i0, hi, hz0, hz1, hz2⟩ := info_parts infoP
  have Hi := Lib.hid hi
  have Hz0 := Lib.hid hz0
  have Hz1 := Lib.hid hz1
  have Hz2 := Lib.hid hz2
  have HP := Lib.hid hp
  have HSrc := Lib.hid hsrc
  have HR := Lib.hid hr
  have Hs := Lib.hid hs
  have HG := Lib.hid ht
  obtain ⟨pa, pcap, rfl, hpx⟩ := hp
  obtain ⟨ra, rcap, rfl, hrx⟩ := hr
  have HPx := Lib.hid hpx
  have HRx := Lib.hid hrx
  clear hi hz0 hz1 hz2 hs ht hsrc hpx hrx
  go_enter Tryd.func3, Tryd.ntmps3
  go_wp2_with fail
  generalize hW : World.alloc w _ = W
  have HW : Hid (Fr Non w W) := by show Fr _ _ _; rw [← hW]; exact (Fr.refl _ _).alloc _
  have HW2 : Hid (W.heap[w.heap.size]? = some (.cells #[.string ⟨#[97]⟩, .int .i64 1] 29 (0, 0))) := by show _ = _; rw [← hW]; exact heap_alloc_new _ _
  clear hW
  refine (new_any (B := w.heap.size) W 1 _ [((⟨#[97]⟩ : ByteArray), (1 : Int))] ⟨_, _, rfl, fun _ => ⟨w.heap.size, 0, rfl, lt_of_heap HW2.out, fun j u hj => by rw [Nat.zero_add]; exact cell_of_flat HW2.out hj⟩⟩ (by simp) HW.out.size).mono ?_
  rintro e w1 ⟨hf1, ⟨_, b, pb, pc, ys, rfl, hys, _, _, _, hT⟩ | ⟨hno, _⟩⟩
  case inr => exact absurd valid_one hno
  have HF1 : Hid (Fr Non w w1) := HW.out.trans hf1
  have HT := Lib.hid hT
  clear hf1 hT hys
  go_wp2_with fail
  refine (next_any (B := w.heap.size) w1 b pb pc _ _ HT.out (HG.out.non HF1.out)).mono ?_
  rintro e w2 ⟨rfl, hf2⟩
  have HF2 : Hid (Fr Non w w2) := HF1.out.trans hf2
  rw [next_start, itoa_one, show openB = ⟨#[111, 112, 101, 110]⟩ from rfl]
  clear hf2
  go_wp2_with (at_builtin; refine wpList_append_row rfl _ _ 22 rfl 29 i0 (.agg #[.string .empty, .int .i64 0]) 2 24 w.heap.size Tryd.underlying22 Hi.out Hz0.out Hz1.out Hz2.out rfl (by decide) (.slice none 0 0) 0 [] rfl ⟨rfl, .inl ⟨rfl, rfl⟩⟩ _ xs.length (flatP xs) rfl (SrcAt.fr (w := w) HSrc.out (Fr.trans HF2.out (by with_reducible repeat (first | exact Fr.refl _ _ | assumption | refine Fr.drew ?_ | refine Fr.drewN ?_ _ | refine Fr.alloc ?_ _)))) flatP_one (by unfold maxLen; omega) (by omega) (by have := HF2.out.size; (try simp); omega) ?_; intro v3 w3 hown3 hgrow3 hat3; have HF3 : Hid (Fr Non w w3) := Fr.grown (S := Non) (Fr.trans HF2.out (by with_reducible repeat (first | exact Fr.refl _ _ | assumption | refine Fr.drew ?_ | refine Fr.drewN ?_ _ | refine Fr.alloc ?_ _))) hgrow3 (fun _ _ e => by cases e); have Hown3 := Lib.hid hown3; clear hown3 hgrow3 hat3)
  have hown3 := Hown3.out
  simp only [Nat.zero_add, List.nil_append] at hown3
  have HO3 := Lib.hid hown3
  clear Hown3 hown3
  have HPO := Lib.hid (PartsAt.own HO3.out)
  obtain ⟨la, lc, hv3, hlc, _⟩ := own_shape HO3.out
  subst hv3
  refine (new_any (B := w.heap.size) w3 id _ xs HPO.out hn HF3.out.size).mono ?_
  rintro e w4 ⟨hf4, hx⟩
  have HF4 : Hid (Fr Non w3 w4) := hf4
  have HX := Lib.hid hx
  clear hf4 hx
  by_cases hval : ValidP id xs
  case neg =>
    obtain ⟨hno, _⟩ | ⟨_, rfl⟩ := HX.out
    · exact absurd hno hval
    go_wp2_with fail
    refine (rnew_any (B := w.heap.size) w4 id _ xs (HP.out.fr (HF3.out.trans HF4.out)) hn (HF3.out.trans HF4.out).size).mono ?_
    rintro e w5 ⟨hf5, hy⟩
    have HF5 : Hid (Fr Non w4 w5) := hf5
    have HY := Lib.hid hy
    have HO5 := Lib.hid (Fr.own (HF4.out.trans HF5.out) HO3.out (fun _ _ f => f))
    have HF05 : Hid (Fr Non w w5) := (HF3.out.trans HF4.out).trans HF5.out
    clear hf5 hy
    obtain ⟨hno, _⟩ | ⟨_, rfl⟩ := HY.out
    · exact absurd hno hval
    have Hval := Lib.hid hval
    clear hval
    go_wp2_with fail
    go_loopw [16] (fun v16 wr => ∃ i : Nat, i ≤ xs.length ∧ v16 = .int .i64 i ∧ Hid (Fr (OwnB (.slice la xs.length lc)) w5 wr) ∧ Hid (∃ us, wr.ownsRow w.heap.size 29 2 (.slice la xs.length lc) xs.length us ∧ ∀ j, i * 2 ≤ j → us[j]? = (flatP xs)[j]?)) (fun v16 _ => xs.length - (intOf v16).toNat)
    case atStart => exact ⟨0, Nat.zero_le _, rfl, Fr.refl _ _, ⟨_, HO5.out, fun _ _ => rfl⟩⟩
    case round =>
      obtain ⟨i, hi, rfl, Hfr, Hus⟩ := hrel
      have hi0 : (0 : Int) ≤ ((i : Nat) : Int) := by omega
      by_cases hlt : i < xs.length
      · have hlt' : ((i : Nat) : Int) < ((xs.length : Nat) : Int) := by omega
        obtain ⟨us, hus, heq⟩ := Hus.out
        obtain ⟨g, c, hv, _, _, hgb, hg, hcell⟩ := own_full hus (by omega)
        have hf := own_free hus hv
        simp only [Value.slice.injEq] at hv
        obtain ⟨rfl, _, rfl⟩ := hv
        obtain ⟨blk, off, rfl, hbl, hcs⟩ := HPx.out (fun e => by rw [e] at hlt; simp at hlt)
        have hk := flatP_get xs i hlt
        have d0 := hcell (i * 2) _ ((heq _ (Nat.le_refl _)).trans hk.1)
        have d1 := hcell (i * 2 + 1) _ ((heq _ (by omega)).trans hk.2)
        have hbw5 : blk < w5.heap.size := Nat.lt_of_lt_of_le hbl HF05.out.size
        have hng : ¬ OwnB (.slice (some ⟨g, 0, none⟩) xs.length lc) blk := fun e => by have e' : g = blk := Option.some.inj e; omega
        have q0 := ((Hfr.out.cell (p := ⟨blk, off + i * 2, none⟩) hbw5 hng).trans (HF05.out.cell (p := ⟨blk, off + i * 2, none⟩) hbl (fun h => h))).trans (hcs _ _ hk.1)
        have q1 := ((Hfr.out.cell (p := ⟨blk, off + (i * 2 + 1), none⟩) hbw5 hng).trans (HF05.out.cell (p := ⟨blk, off + (i * 2 + 1), none⟩) hbl (fun h => h))).trans (hcs _ _ hk.2)
        have hadd : off + (i * 2 + 1) = off + i * 2 + 1 := by omega
        rw [hadd] at q1
        generalize xs.getD i (.empty, 0) = x at *
        obtain ⟨xk, xa⟩ := x
        simp only at d0 d1 q0 q1
        have f0 := hf (i * 2)
        have f1 := hf (i * 2 + 1)
        have hgw : g < wr.heap.size := hg
        have hbw : blk < wr.heap.size := Nat.lt_of_lt_of_le hbw5 Hfr.out.size
        have HUs := Lib.hid hus
        have Heq := Lib.hid heq
        clear hus heq hcell hf hcs hk hadd Hus
        go_wp2_with fail
        go_quiet (fail)
        go_wp2_with fail
        generalize hwd : World.drewN _ _ = wd
        have hFd : Fr Non wr wd := by rw [← hwd]; exact (Fr.refl _ _).drewN _
        have HOd := Lib.hid (Fr.own hFd HUs.out (fun _ _ f => f))
        have HFd := Lib.hid hFd
        clear hwd hFd
        go_roundw
        case rel =>
          have hs1 := HOd.out.stored (i * 2) (.string ⟨#[111, 118, 101, 114]⟩)
          have hs2 := hs1.1.stored (i * 2 + 1) (.int .i64 0)
          refine ⟨i + 1, by omega, by go_num, Fr.trans (Hfr.out.trans HFd.out.lift) ?_, ⟨_, hs2.1, fun j hj => ?_⟩⟩
          · exact ((Fr.refl _ _).setOwn rfl _).setOwn rfl _
          · rw [List.getElem?_set_ne (by omega), List.getElem?_set_ne (by omega)]
            exact Heq.out j (by omega)
        case measure => simp [intOf]; omega
      · have hlt' : ¬ ((i : Nat) : Int) < ((xs.length : Nat) : Int) := by omega
        have HFw : Hid (Fr Non w wr) := Fr.then HF05.out Hfr.out (fun k hk e => absurd (own_block_lt HO5.out e).2 (by omega))
        clear Hus
        go_wp2_with fail
        go_ret
        exact ⟨rfl, HFw.out⟩
  case pos =>
    obtain ⟨_, b1, pb1, pc1, ys, rfl, hys, hris, hb1, hpb1, hT1⟩ | ⟨hno, _⟩ := HX.out
    case inr => exact absurd hval hno
    have HT1 := Lib.hid hT1
    have HYs := Lib.hid (And.intro hys hris)
    clear hT1 hys hris
    go_wp2_with fail
    refine (rnew_any (B := w.heap.size) w4 id _ xs (HP.out.fr (HF3.out.trans HF4.out)) hn (HF3.out.trans HF4.out).size).mono ?_
    rintro e w5 ⟨hf5, hy⟩
    have HF5 : Hid (Fr Non w4 w5) := hf5
    have HY := Lib.hid hy
    have HO5 := Lib.hid (Fr.own (HF4.out.trans HF5.out) HO3.out (fun _ _ f => f))
    have HF05 : Hid (Fr Non w w5) := (HF3.out.trans HF4.out).trans HF5.out
    clear hf5 hy
    obtain ⟨_, b2, pb2, pc2, zs, rfl, hzs, hris2, hb2, hpb2, hT2⟩ | ⟨hno, _⟩ := HY.out
    case inr => exact absurd hval hno
    obtain rfl : ys = zs := rising_unique HYs.out.1 hzs HYs.out.2 hris2
    have HT2 := Lib.hid hT2
    have Hval := Lib.hid hval
    have h1l := HT1.out.lt
    have h1p := HT1.out.base.2.2
    clear hval hT2 hzs hris2
    go_wp2_with fail
    go_loopw [16] (fun v16 wr => ∃ i : Nat, i ≤ xs.length ∧ v16 = .int .i64 i ∧ Hid (Fr (OwnB (.slice la xs.length lc)) w5 wr) ∧ Hid (∃ us, wr.ownsRow w.heap.size 29 2 (.slice la xs.length lc) xs.length us ∧ ∀ j, i * 2 ≤ j → us[j]? = (flatP xs)[j]?)) (fun v16 _ => xs.length - (intOf v16).toNat)
    case atStart => exact ⟨0, Nat.zero_le _, rfl, Fr.refl _ _, ⟨_, HO5.out, fun _ _ => rfl⟩⟩
    case round =>
      obtain ⟨i, hi, rfl, Hfr, Hus⟩ := hrel
      have hi0 : (0 : Int) ≤ ((i : Nat) : Int) := by omega
      by_cases hlt : i < xs.length
      · have hlt' : ((i : Nat) : Int) < ((xs.length : Nat) : Int) := by omega
        obtain ⟨us, hus, heq⟩ := Hus.out
        obtain ⟨g, c, hv, _, _, hgb, hg, hcell⟩ := own_full hus (by omega)
        have hf := own_free hus hv
        simp only [Value.slice.injEq] at hv
        obtain ⟨rfl, _, rfl⟩ := hv
        obtain ⟨blk, off, rfl, hbl, hcs⟩ := HPx.out (fun e => by rw [e] at hlt; simp at hlt)
        have hk := flatP_get xs i hlt
        have d0 := hcell (i * 2) _ ((heq _ (Nat.le_refl _)).trans hk.1)
        have d1 := hcell (i * 2 + 1) _ ((heq _ (by omega)).trans hk.2)
        have hbw5 : blk < w5.heap.size := Nat.lt_of_lt_of_le hbl HF05.out.size
        have hng : ¬ OwnB (.slice (some ⟨g, 0, none⟩) xs.length lc) blk := fun e => by have e' : g = blk := Option.some.inj e; omega
        have q0 := ((Hfr.out.cell (p := ⟨blk, off + i * 2, none⟩) hbw5 hng).trans (HF05.out.cell (p := ⟨blk, off + i * 2, none⟩) hbl (fun h => h))).trans (hcs _ _ hk.1)
        have q1 := ((Hfr.out.cell (p := ⟨blk, off + (i * 2 + 1), none⟩) hbw5 hng).trans (HF05.out.cell (p := ⟨blk, off + (i * 2 + 1), none⟩) hbl (fun h => h))).trans (hcs _ _ hk.2)
        have hadd : off + (i * 2 + 1) = off + i * 2 + 1 := by omega
        rw [hadd] at q1
        generalize xs.getD i (.empty, 0) = x at *
        obtain ⟨xk, xa⟩ := x
        simp only at d0 d1 q0 q1
        have f0 := hf (i * 2)
        have f1 := hf (i * 2 + 1)
        have hgw : g < wr.heap.size := hg
        have hbw : blk < wr.heap.size := Nat.lt_of_lt_of_le hbw5 Hfr.out.size
        have HUs := Lib.hid hus
        have Heq := Lib.hid heq
        clear hus heq hcell hf hcs hk hadd Hus
        go_wp2_with fail
        go_quiet (fail)
        go_wp2_with fail
        generalize hwd : World.drewN _ _ = wd
        have hFd : Fr Non wr wd := by rw [← hwd]; exact (Fr.refl _ _).drewN _
        have HOd := Lib.hid (Fr.own hFd HUs.out (fun _ _ f => f))
        have HFd := Lib.hid hFd
        clear hwd hFd
        go_roundw
        case rel =>
          have hs1 := HOd.out.stored (i * 2) (.string ⟨#[111, 118, 101, 114]⟩)
          have hs2 := hs1.1.stored (i * 2 + 1) (.int .i64 0)
          refine ⟨i + 1, by omega, by go_num, Fr.trans (Hfr.out.trans HFd.out.lift) ?_, ⟨_, hs2.1, fun j hj => ?_⟩⟩
          · exact ((Fr.refl _ _).setOwn rfl _).setOwn rfl _
          · rw [List.getElem?_set_ne (by omega), List.getElem?_set_ne (by omega)]
            exact Heq.out j (by omega)
        case measure => simp [intOf]; omega
      · have hlt' : ¬ ((i : Nat) : Int) < ((xs.length : Nat) : Int) := by omega
        have HFw : Hid (Fr Non w wr) := Fr.then HF05.out Hfr.out (fun k hk e => absurd (own_block_lt HO5.out e).2 (by omega))
        clear Hus
        have hLb : ∀ k, OwnB (.slice la xs.length lc) k → k < w3.heap.size := fun k e => (own_block_lt HO3.out e).1
        have hT1w : IsTx w.heap.size wr b1 (Tx.start id ys) pb1 pc1 (.slice none 0 0) := (HT1.out.non HF5.out).fr Hfr.out (fun e => by have := hLb _ e; omega) (fun e => by have := hLb _ e; omega) (fun k e => by cases e)
        have h34 := HF4.out.size
        have hT2w : IsRx w.heap.size wr b2 (Tx.start id ys) pb2 pc2 (.slice none 0 0) false := HT2.out.fr Hfr.out (fun e => by have := hLb _ e; omega) (fun e => by have := hLb _ e; omega) (fun k e => by cases e)
        have hap : Apart b1 pb1 (.slice none 0 0) b2 pb2 (.slice none 0 0) := ⟨by omega, by omega, by simp [Value.ownBlock], by omega, by simp [Value.ownBlock], by simp [Value.ownBlock], fun k e => by cases e⟩
        have HT1w := Lib.hid hT1w
        have HT2w := Lib.hid hT2w
        have Hap := Lib.hid hap
        clear hLb hT1w hT2w hap
        obtain ⟨wo, rfl⟩ : ∃ wo : World, wo = wr := ⟨_, rfl⟩
        go_wp2_with fail
        go_loopw [17] (fun v17 wr => ∃ (j : Nat) (T : Tx) (ov1 ov2 : Value) (dn : Bool), j ≤ rs.length + 1 ∧ v17 = .int .i64 j ∧ Hid (IsTx w.heap.size wr b1 T pb1 pc1 ov1) ∧ Hid (IsRx w.heap.size wr b2 T pb2 pc2 ov2 dn) ∧ Hid (Apart b1 pb1 ov1 b2 pb2 ov2) ∧ Hid (Fr Non w wr)) (fun v17 _ => rs.length + 1 - (intOf v17).toNat)
        case atStart => exact ⟨0, _, _, _, _, Nat.zero_le _, rfl, HT1w, HT2w, Hap, HFw⟩
        case round =>
          obtain ⟨j, T, ov1, ov2, dn, hj, rfl, HX1, HX2, HAp, HFr⟩ := hrel
          have hj0 : (0 : Int) ≤ ((j : Nat) : Int) := by omega
          by_cases hle : j ≤ rs.length
          · have hle' : ((j : Nat) : Int) ≤ ((rs.length : Nat) : Int) := by omega
            generalize hnx : T.next = nx
            obtain ⟨⟨ck, ckey, cval, cif⟩, cb⟩ := nx
            have HN := Lib.hid hnx
            clear hnx
            go_wp2_with fail
            refine (next_any (B := w.heap.size) wr b1 pb1 pc1 ov1 T HX1.out (HG.out.non HFr.out)).mono ?_
            rintro e a1 ⟨rfl, hf⟩
            rw [HN.out]
            have HA1 : Hid (Fr Non wr a1) := hf
            clear hf
            go_wp2_with fail
            generalize hA1 : World.alloc a1 _ = A1
            have HFA1 : Hid (Fr Non wr A1) := by show Fr _ _ _; rw [← hA1]; exact HA1.out.alloc _
            have HC1 : Hid (A1.heap[a1.heap.size]? = some (.cells #[.int .i64 ck, .string ckey, .string cval, .int .i64 cif] 31 (0, 0))) := by show _ = _; rw [← hA1]; exact heap_alloc_new _ _
            clear hA1
            refine (cmd_any (B := w.heap.size) A1 b2 pb2 pc2 ov2 T dn (HX2.out.non HFA1.out)).mono ?_
            rintro e a2 ⟨rfl, hf⟩
            rw [HN.out]
            have HA2 : Hid (Fr Non A1 a2) := hf
            clear hf
            go_wp2_with fail
            generalize hA2 : World.alloc a2 _ = A2
            have HFA2 : Hid (Fr Non A1 A2) := by show Fr _ _ _; rw [← hA2]; exact HA2.out.alloc _
            have HC2 : Hid (A2.heap[a2.heap.size]? = some (.cells #[.int .i64 ck, .string ckey, .string cval, .int .i64 cif] 31 (0, 0))) := by show _ = _; rw [← hA2]; exact heap_alloc_new _ _
            clear hA2
            have HFw2 : Hid (Fr Non wr A2) := HFA1.out.trans HFA2.out
            refine (look_any (B := w.heap.size) A2 b1 pb1 pc1 ov1 T (HX1.out.non HFw2.out)).mono ?_
            rintro e a3 ⟨v', rfl, hown, hf⟩
            have HA3 : Hid (Fr Non A2 a3) := hf
            obtain ⟨sa, sc, hsv, _, _⟩ := own_shape hown
            subst hsv
            have HOv := Lib.hid hown
            clear hf hown
            go_wp2_with fail
            generalize hA3 : World.alloc a3 _ = A3
            have HFA3 : Hid (Fr Non A2 A3) := by show Fr _ _ _; rw [← hA3]; exact HA3.out.alloc _
            have hC3 : A3.heap[a3.heap.size]? = some (.cells #[.int .i64 T.state, .slice sa T.old.length sc] 39 (0, 0)) := by rw [← hA3]; exact heap_alloc_new _ _
            have HOv3 : Hid (A3.ownsRow A2.heap.size 3 1 (.slice sa T.old.length sc) T.old.length (T.old.map (Value.int .i64))) := by show World.ownsRow _ _ _ _ _ _ _; rw [← hA3]; exact Fr.own (S := Non) ((Fr.refl _ _).alloc _) HOv.out (fun _ _ f => f)
            clear hA3
            have HFw3 : Hid (Fr Non wr A3) := HFw2.out.trans HFA3.out
            have HX23 := Lib.hid (HX2.out.non HFw3.out)
            have hb23 := HX23.out.blk
            have k1 : A3.cell? ⟨a3.heap.size, 1, none⟩ = some (.slice sa T.old.length sc) := cell_of hC3 1
            have k4 : A3.cell? ⟨b2, 4, none⟩ = some ov2 := cell_of hb23 4
            have hl3 := lt_of_heap hC3
            have hb3 := lt_of_heap hb23
            have HC3 := Lib.hid hC3
            have hol : T.old.length ≤ 1000000 := by have := HX1.out.wf.old.1; have := HX1.out.wf.len.2; omega
            clear hC3 hb23
            have keep : ∀ w', Fr Non A3 w' → (Fr Non A3 w' ∧ w'.cell? ⟨a3.heap.size, 1, none⟩ = some (.slice sa T.old.length sc) ∧ w'.cell? ⟨b2, 4, none⟩ = some ov2) :=
              fun w' hf => ⟨hf, (hf.cell hl3 (fun h => h)).trans k1, (hf.cell hb3 (fun h => h)).trans k4⟩
            go_region_held3 (fun w' => Fr Non A3 w' ∧ w'.cell? ⟨a3.heap.size, 1, none⟩ = some (.slice sa T.old.length sc) ∧ w'.cell? ⟨b2, 4, none⟩ = some ov2)
              ((refine keep _ ?_; with_reducible repeat (first | assumption | exact Fr.refl _ _ | apply Fr.drew)))
              (first | (go_at_call 9; refine (same_any (B := A2.heap.size) (C := w.heap.size) _ _ _ T.old (Fr.own (Fr.refl Non A3).drew HOv3.out (fun _ _ f => f)) (Fr.own (Fr.refl Non A3).drew HX23.out.old (fun _ _ f => f)) hol).mono ?_; rintro e a4 ⟨rfl, hf⟩; have hA4 : Fr Non A3 a4 := Fr.trans (Fr.refl _ _).drew hf; have HA4 := Lib.hid hA4; clear hf))
            have hC4 := HA4.out.blk HC3.out (fun h => h)
            have n1 : a4.cell? ⟨a3.heap.size, 1, none⟩ = some (.slice sa T.old.length sc) := cell_of hC4 1
            clear hC4 k1 k4 keep
            go_wp2_with fail
            refine (over_any (B := A2.heap.size) a4 _ _ _ (Fr.own HA4.out HOv3.out (fun _ _ f => f)) hol (by have := HFA3.out.size; have := HA4.out.size; omega)).mono ?_
            rintro e a5 ⟨rfl, hf⟩
            have HA5 : Hid (Fr (OwnB (.slice sa T.old.length sc)) A2 a5) := (HFA3.out.trans HA4.out).lift.trans hf
            have Hvb : Hid (∀ k, OwnB (.slice sa T.old.length sc) k → A2.heap.size ≤ k ∧ k < a3.heap.size) := fun k e => ⟨(own_block_lt HOv.out e).2, (own_block_lt HOv.out e).1⟩
            have hC1 := HA5.out.blk (HFA2.out.blk HC1.out (fun h => h)) (fun e => by have h1 := (Hvb.out _ e).1; have h2 := lt_of_heap (HFA2.out.blk HC1.out (fun h => h)); omega)
            have hC2 := HA5.out.blk HC2.out (fun e => by have h1 := (Hvb.out _ e).1; have h2 := lt_of_heap HC2.out; omega)
            have hC3 := (show Fr (OwnB (.slice sa T.old.length sc)) A3 a5 from HA4.out.lift.trans hf).blk HC3.out (fun e => by have h1 := (Hvb.out _ e).2; omega)
            have HFw5 : Hid (Fr Non wr a5) := HFw2.out.then HA5.out (fun k hk e => by have h1 := (Hvb.out _ e).1; have h2 := HFw2.out.size; omega)
            have hY5 := HFw5.out.blk HX2.out.blk (fun h => h)
            have u0 : a5.cell? ⟨a1.heap.size, 0, none⟩ = some (.int .i64 ck) := cell_of hC1 0
            have u1 : a5.cell? ⟨a1.heap.size, 1, none⟩ = some (.string ckey) := cell_of hC1 1
            have u2 : a5.cell? ⟨a1.heap.size, 2, none⟩ = some (.string cval) := cell_of hC1 2
            have u3 : a5.cell? ⟨a1.heap.size, 3, none⟩ = some (.int .i64 cif) := cell_of hC1 3
            have x0 : a5.cell? ⟨a2.heap.size, 0, none⟩ = some (.int .i64 ck) := cell_of hC2 0
            have x1 : a5.cell? ⟨a2.heap.size, 1, none⟩ = some (.string ckey) := cell_of hC2 1
            have x2 : a5.cell? ⟨a2.heap.size, 2, none⟩ = some (.string cval) := cell_of hC2 2
            have x3 : a5.cell? ⟨a2.heap.size, 3, none⟩ = some (.int .i64 cif) := cell_of hC2 3
            have s0 : a5.cell? ⟨a3.heap.size, 0, none⟩ = some (.int .i64 T.state) := cell_of hC3 0
            have t10 : a5.cell? ⟨b2, 10, none⟩ = some (.int .i64 T.state) := cell_of hY5 10
            clear hf n1 hC1 hC2 hC3 hY5
            by_cases hjm : j < rs.length
            · have hjm' : decide (((j : Nat) : Int) < ((rs.length : Nat) : Int)) = true := by rw [decide_eq_true_eq]; omega
              cases cb with
              | true =>
                go_wp2_with fail
                go_quiet (fail)
                obtain ⟨rb, ro, rfl, hrb, hrc⟩ := HRx.out (fun e => by rw [e] at hjm; simp at hjm)
                generalize hwd : World.drewN _ _ = a6
                have HFw6 : Hid (Fr Non wr a6) := by show Fr _ _ _; rw [← hwd]; exact HFw5.out.drewN _
                have HF6 : Hid (Fr Non w a6) := HFr.out.trans HFw6.out
                have hg := flatR_get rs j hjm
                have hz := Hs.out (rs.getD j noR) (by rw [List.getD_eq_getElem?_getD, List.getElem?_eq_getElem hjm]; exact List.getElem_mem _)
                have HRc : Hid (∀ w', Fr Non w w' → w'.cell? ⟨rb, ro + j * 4, none⟩ = some (.int .i64 (rs.getD j noR).1) ∧ w'.cell? ⟨rb, ro + j * 4 + 1, none⟩ = some (.string (rs.getD j noR).2.1) ∧ w'.cell? ⟨rb, ro + j * 4 + 2, none⟩ = some (.int .i64 (rs.getD j noR).2.2.1) ∧ w'.cell? ⟨rb, ro + j * 4 + 3, none⟩ = some (rs.getD j noR).2.2.2) := fun w' hf =>
                  ⟨(hf.cell (p := ⟨rb, ro + j * 4, none⟩) hrb (fun h => h)).trans (hrc (j * 4) _ hg.1), (hf.cell (p := ⟨rb, ro + j * 4 + 1, none⟩) hrb (fun h => h)).trans (hrc (j * 4 + 1) _ hg.2.1), (hf.cell (p := ⟨rb, ro + j * 4 + 2, none⟩) hrb (fun h => h)).trans (hrc (j * 4 + 2) _ hg.2.2.1), (hf.cell (p := ⟨rb, ro + j * 4 + 3, none⟩) hrb (fun h => h)).trans (hrc (j * 4 + 3) _ hg.2.2.2)⟩
                generalize rs.getD j noR = r at HRc hz hg
                obtain ⟨rk, rv, rver, rkv⟩ := r
                obtain ⟨q0, q1, q2, q3⟩ := HRc.out a6 HF6.out
                try simp only at q0 q1 q2 q3 hz
                have hbr : rb < a6.heap.size := Nat.lt_of_lt_of_le hrb HF6.out.size
                clear hrc hg hwd u0 u1 u2 u3 x0 x1 x2 x3 s0 t10
                go_wp2_with fail
                refine (answer_any (B := w.heap.size) a6 b1 pb1 pc1 ov1 T rk rv rver rkv hz (HX1.out.non HFw6.out) (HG.out.non HF6.out)).mono ?_
                rintro e a7 ⟨rfl, ov1', hT7, hf7, hg7⟩
                have HF7 : Hid (Fr Non w a7) := HF6.out.then hf7 (fun k hk e => by
                  rcases e with e | e
                  · have := HX1.out.base.1; omega
                  · have := (own_block_lt HX1.out.old e).2; omega)
                have HR7 : Hid (IsRx w.heap.size a7 b2 T pb2 pc2 ov2 dn) := (HX2.out.non HFw6.out).fr hf7 (fun e => e.elim (fun e => HAp.out.b e.symm) HAp.out.o) (fun e => e.elim HAp.out.p2 HAp.out.q2) (fun k hk e => e.elim (fun e => HAp.out.o2 (e ▸ hk)) (fun e => HAp.out.oo k e hk))
                obtain ⟨q0, q1, q2, q3⟩ := HRc.out a7 HF7.out
                try simp only at q0 q1 q2 q3
                have hbr : rb < a7.heap.size := Nat.lt_of_lt_of_le hrb HF7.out.size
                have HT7 := Lib.hid hT7
                have Hf7 := Lib.hid hf7
                have Hg7 := Lib.hid hg7
                clear hT7 hf7 hg7
                go_wp2_with fail
                refine (rans_any (B := w.heap.size) a7 b2 pb2 pc2 ov2 T dn rk rv rver rkv hz HR7.out HF7.out.size).mono ?_
                rintro e a8 ⟨rfl, ov2', dn', hT8, hf8, hg8⟩
                have HT8 := Lib.hid hT8
                have Hf8 := Lib.hid hf8
                have Hg8 := Lib.hid hg8
                clear hT8 hf8 hg8 q0 q1 q2 q3
                go_wp2_with fail
                go_roundw
                case rel =>
                  have hX16 := HX1.out.non HFw6.out
                  have hX26 := HX2.out.non HFw6.out
                  have hap : Apart b1 pb1 ov1' b2 pb2 ov2' := HAp.out.step (m := a6.heap.size) (n := a7.heap.size) Hf7.out.size hX16.lt hX26.lt hX26.base.2.2 (fun k hk => (own_block_lt hX26.old hk).1) (fun k hk => (own_block_lt HT7.out.old hk).1) Hg7.out Hg8.out
                  refine ⟨j + 1, _, ov1', ov2', dn', by omega, by go_num, ?_, HT8, hap, ?_⟩
                  · exact HT7.out.fr Hf8.out hap.b hap.p (fun k hk e => hap.o (e ▸ hk))
                  · exact HF7.out.then Hf8.out (fun k hk e => by have := HX2.out.base.1; have e' : k = b2 := e; omega)
                case measure => simp [intOf]; omega
              | false =>
                go_wp2_with fail
                go_quiet (fail)
                generalize hwd : World.drewN _ _ = a6
                have HFw6 : Hid (Fr Non wr a6) := by show Fr _ _ _; rw [← hwd]; exact HFw5.out.drewN _
                clear hwd u0 u1 u2 u3 x0 x1 x2 x3 s0 t10
                go_wp2_with fail
                go_roundw
                case rel => exact ⟨j + 1, T, ov1, ov2, dn, by omega, by go_num, HX1.out.non HFw6.out, HX2.out.non HFw6.out, HAp, HFr.out.trans HFw6.out⟩
                case measure => simp [intOf]; omega
            · have hjm' : decide (((j : Nat) : Int) < ((rs.length : Nat) : Int)) = false := by rw [decide_eq_false_iff_not]; omega
              have hjm2 : ¬ ((j : Nat) : Int) < ((rs.length : Nat) : Int) := by omega
              go_wp2_with fail
              go_quiet (fail)
              generalize hwd : World.drewN _ _ = a6
              have HFw6 : Hid (Fr Non wr a6) := by show Fr _ _ _; rw [← hwd]; exact HFw5.out.drewN _
              clear hwd u0 u1 u2 u3 x0 x1 x2 x3 s0 t10
              go_wp2_with fail
              go_roundw
              case rel => exact ⟨j + 1, T, ov1, ov2, dn, by omega, by go_num, HX1.out.non HFw6.out, HX2.out.non HFw6.out, HAp, HFr.out.trans HFw6.out⟩
              case measure => simp [intOf]; omega
          · have hle' : ¬ ((j : Nat) : Int) ≤ ((rs.length : Nat) : Int) := by omega
            go_wp2_with fail
            go_ret
            exact ⟨rfl, HFr.out⟩
end Go.Proofs.YtbfahkpckhbajaaDoor
