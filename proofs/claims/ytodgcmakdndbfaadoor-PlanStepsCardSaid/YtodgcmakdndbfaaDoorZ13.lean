/-
  Parts of a proof: Move2, ItemS. Merged by program.
-/
import Derived.Test.YtodgcmakdndbfaaDoorZ12
/-
  Contracts: coterieref09.Move. Printed by wip/gen/gk.py.
-/
namespace Go.Proofs.YtodgcmakdndbfaaDoor
open Go.RowKit Cot
set_option linter.unusedSimpArgs false
set_option linter.unusedVariables false
set_option maxRecDepth 100000 in
set_option maxHeartbeats 3000000 in
theorem ref09_Move (r : Nat → Entry) (lv jn : List Int) (since base : Int) (ao bo : Option Addr) (cap cap2 : Nat) (w : World) (hr : ∀ j, I64 (r j).base) (hr2 : ∀ j, I64 (r j).who) (hl1 : lv.length ≤ 35184372088832) (hl2 : jn.length ≤ 35184372088832)
    (hA : IntsAt w ao lv) (hJ : IntsAt w bo jn) (hwl : ∀ x, x ∈ lv → I64 x) (hwj : ∀ x, x ∈ jn → I64 x) (hfit : fitsS r lv jn = 0) (hs1 : 1 ≤ since) (hs2 : since ≤ 200) (hb1 : 1 ≤ base) (hb2 : base + jn.length ≤ 32768) (hbase : ∀ j, j < 64 → (r j).base < base) :
    Calls Tryd.prog 65 #[.agg (rosterC r), .agg #[.slice ao lv.length cap, .slice bo jn.length cap2], .int .i64 since, .int .i64 base] w fun e w' => ∃ v1 v2, e = .returned (.tuple #[.agg (rosterC (moveR r lv jn since base)), v1, v2, .int .i64 0]) ∧ OwnSeats w' w.heap.size v1 (seatsOf r lv) ∧ OwnSeats w' w.heap.size v2 (moveJ r lv jn) ∧ Below w.heap.size w w' := by
  have F := fits_ok hfit
  have hlv := lv_len F
  have hjn := jn_len F
  have HF := Lib.hid F; clear F
  obtain ⟨i0, hi, hz0, hz1, hz2⟩ := info_parts info_seat
  have hbs := (bAlloc (bAlloc (bAlloc (Below.refl w.heap.size w) (.cells (rosterC r) 29)) (.cells #[.slice ao lv.length cap, .slice bo jn.length cap2] 34)) (.cells (rosterC roster0) 29))
  have hA3 := hA.kept hbs; have hJ3 := hJ.kept hbs
  have k0 : Blk (((w.alloc (.cells (rosterC r) 29)).alloc (.cells #[.slice ao lv.length cap, .slice bo jn.length cap2] 34)).alloc (.cells (rosterC roster0) 29)) w.heap.size (rosterC r) 29 := ((Blk.new w _ _).alloc _).alloc _
  have k1 : Blk (((w.alloc (.cells (rosterC r) 29)).alloc (.cells #[.slice ao lv.length cap, .slice bo jn.length cap2] 34)).alloc (.cells (rosterC roster0) 29)) (w.heap.size + 1) #[.slice ao lv.length cap, .slice bo jn.length cap2] 34 := by
    have h := (Blk.new (w.alloc (.cells (rosterC r) 29)) #[.slice ao lv.length cap, .slice bo jn.length cap2] 34).alloc (.cells (rosterC roster0) 29); rw [World.size_alloc] at h; exact h
  have k2 : Blk (((w.alloc (.cells (rosterC r) 29)).alloc (.cells #[.slice ao lv.length cap, .slice bo jn.length cap2] 34)).alloc (.cells (rosterC roster0) 29)) (w.heap.size + 2) (rosterC roster0) 29 := by
    have h := Blk.new ((w.alloc (.cells (rosterC r) 29)).alloc (.cells #[.slice ao lv.length cap, .slice bo jn.length cap2] 34)) (rosterC roster0) 29; simp only [World.size_alloc] at h; exact h
  have HFIT := Lib.hid hfit; clear hfit
  have K0 := Lib.hid k0; have K1 := Lib.hid k1; have K2 := Lib.hid k2
  have HA3 := Lib.hid hA3; have HJ3 := Lib.hid hJ3
  have HBASE := Lib.hid hbase
  have HR := Lib.hid hr; have HR2 := Lib.hid hr2; have HWL := Lib.hid hwl; have HWJ := Lib.hid hwj; have HBS := Lib.hid hbs
  clear k0 k1 k2 hA3 hJ3 hbase hr hr2 hwl hwj hbs
  by_cases hj0 : 0 < jn.length
  rotate_left
  all_goals have hgd2 : base ≤ 32768 - (jn.length : Int) := by omega
  all_goals go_enter Tryd.func65, Tryd.ntmps65
  all_goals go_wp2_with (go_at_call 62; refine (ref09_Fits r lv jn ao bo cap cap2 _ hl1 hl2 HA3.out HJ3.out).mono ?_; rintro e w1 ⟨rfl, hb⟩; simp only [HFIT.out]; have hB0 : Blk w1 w.heap.size (rosterC r) 29 := K0.out.kept hb (by first | omega | (simp; done) | (simp; omega)); have hB1 : Blk w1 (w.heap.size + 1) #[.slice ao lv.length cap, .slice bo jn.length cap2] 34 := K1.out.kept hb (by first | omega | (simp; done) | (simp; omega)); have hB2 : Blk w1 (w.heap.size + 2) (rosterC roster0) 29 := K2.out.kept hb (by first | omega | (simp; done) | (simp; omega)); have hc0 := hB0.cell; have hf0 := hB0.frozen; have ha0 := hB0.at; have hr0 := hB0.row; have hc1 := hB1.cell; have hf1 := hB1.frozen; have hy0 := hB0.lt; have hy1 := hB1.lt; have hy2 := hB2.lt)
  all_goals have hbel2 : Below w.heap.size w w1 := HBS.out.trans (hb.mono (by simp; omega))
  all_goals have hsz2 : w.heap.size + 3 ≤ w1.heap.size := by omega
  all_goals clear hb
  · go_loopw [14] (fun i wr => i = .int .i64 0 ∧ wr = w1) (fun _ _ => 0)
    case atStart => exact ⟨rfl, rfl⟩
    case round =>
      obtain ⟨rfl, rfl⟩ := hrel
      have hj1 : decide (0 < jn.length) = false := decide_eq_false hj0
      go_wp2
      obtain ⟨wg, rfl⟩ : ∃ wg : World, wg = wr := ⟨_, rfl⟩
      clear hc0 hf0 ha0 hr0 hc1 hf1 hy0 hy1 hy2
      go_loopw [15, 18, 19, 81] (fun u _ _ i wr => ∃ (n : Nat) (v : Value), n ≤ lv.length ∧ i = .int .i64 n ∧ v = u ∧ OwnSeats wr (w.heap.size + 3) v (seatsOf r (lv.take n)) ∧ Blk wr w.heap.size (rosterC (goneR r (lv.take n))) 29 ∧ Blk wr (w.heap.size + 1) #[.slice ao lv.length cap, .slice bo jn.length cap2] 34 ∧ Blk wr (w.heap.size + 2) (rosterC roster0) 29 ∧ Below w.heap.size w wr) (fun _ _ _ i _ => lv.length - (intOf i).toNat)
      case atStart => exact ⟨0, _, by omega, rfl, rfl, World.ownsRow_nil _ _ _ _, by rw [List.take_zero, gone_nil]; exact hB0, hB1, hB2, hbel2⟩
      case round =>
        clear hB0 hB1 hB2 hbel2 hsz2
        obtain ⟨n, v, hn, rfl, rfl, hown, hB0, hB1, hB2, hbel⟩ := hrel
        have hc0 := hB0.cell; have hf0 := hB0.frozen; have ha0 := hB0.at; have hr0 := hB0.row; have hc1 := hB1.cell; have hf1 := hB1.frozen; have hy0 := hB0.lt; have hy1 := hB1.lt; have hy2 := hB2.lt
        by_cases hlt : n < lv.length
        · have hlt' : (n : Int) < (lv.length : Int) := by omega
          obtain ⟨x, hx⟩ := some_of_lt hlt
          obtain ⟨b, off, rfl, hbb, hcx⟩ := (hA.kept hbel) n x hx
          obtain ⟨_, hno, hf⟩ := HF.out.leaves n x hx
          obtain ⟨s, hs, hfs, hts, hws⟩ := findI_nat hf
          have hfg : findI (goneR r (lv.take n)) x = (s : Int) := (find_gone hno).trans hfs
          have hs' : (s : Int) < 64 := by omega
          have hgs := gone_snoc (l := lv.take n) HF.out.right hs hts hws
          have hsl : (seatsOf r (lv.take n)).length = n := by unfold seatsOf; simp; omega
          have hown2 : wr.ownsRow (w.heap.size + 3) 45 2 v n (seatC (seatsOf r (lv.take n))) := by have h := hown; unfold OwnSeats at h; rwa [hsl] at h
          obtain ⟨vo, vc, rfl⟩ := ownV hown2
          have he : seatsOf r (lv.take (n + 1)) = seatsOf r (lv.take n) ++ [⟨x, (s : Int)⟩] := by rw [take_snoc' hx]; unfold seatsOf; simp [hfs]
          have HE := Lib.hid he; have HSL := Lib.hid hsl; have HX := Lib.hid hx; have HGS := Lib.hid hgs
          have HB0 := Lib.hid hB0; have HB1 := Lib.hid hB1; have HB2 := Lib.hid hB2; have HAA := Lib.hid hA; have HJJ := Lib.hid hJ
          have HFG := Lib.hid hfg
          clear he hsl hx hgs hown hno hf hfs hts hws hB0 hB1 hB2 hA hJ hfg hc0 hf0 hr0 hf1
          go_wp2_with (first | (go_at_call 19; refine (ref09_Find _ x _).mono ?_; rintro e w9 ⟨rfl, hb9⟩; simp only [HFG.out]; have hown9 := ownBelow hown2 hb9 (Nat.le_refl _); have hz9 := hb9.size; clear ha0; have hB09 := HB0.out.kept hb9 hy0) | (at_builtin; refine wpList_append_own _ rfl _ _ 36 rfl (w.heap.size + 3) 45 i0 (.agg #[.int .i64 0, .int .i64 0]) 2 16 Tryd.underlying36 hi hz0 hz1 hz2 rfl (by decide) _ _ _ rfl (hown9.alloc _) ⟨w9.heap.size, 0, none⟩ 1 1 [I x, I (s : Int)] rfl rfl (two_cells_at' _ _ (by first | rfl | simp) _ _ _) (two_one _ _) (by unfold maxLen; omega) (by omega) (by first | omega | (simp; done) | (simp; omega)) ?_; intro v' wa hown' hgrow _; simp only [Value.ownBlock] at hgrow; have hB0a := hB09.grown hgrow (fun k e => by have := ownLt hown9 k e; omega); have hca := hB0a.cell; have hfa := hB0a.frozen; have hya := hB0a.lt))
          have HRR : OwnSeats wa (w.heap.size + 3) v' (seatsOf r (lv.take (n + 1))) := by
            rw [HE.out]; unfold OwnSeats; rw [seatC_snoc, List.length_append, HSL.out]; exact hown'
          have hBe := (hB0a.ent s hs 0 0 0).cast (rosterC_congr (l := goneR r (lv.take (n + 1))) (by rw [take_snoc' HX.out]; exact HGS.out))
          have hB1a := ((((HB1.out.kept hb9 hy1).grown hgrow (fun k e => by have := ownLt hown9 k e; omega)).set_other (a := ⟨w.heap.size, s * 3, none⟩) (by simp) (I 0)).set_other (a := ⟨w.heap.size, s * 3 + 1, none⟩) (by simp) (I 0)).set_other (a := ⟨w.heap.size, s * 3 + 2, none⟩) (by simp) (I 0)
          have hB2a := ((((HB2.out.kept hb9 hy2).grown hgrow (fun k e => by have := ownLt hown9 k e; omega)).set_other (a := ⟨w.heap.size, s * 3, none⟩) (by simp) (I 0)).set_other (a := ⟨w.heap.size, s * 3 + 1, none⟩) (by simp) (I 0)).set_other (a := ⟨w.heap.size, s * 3 + 2, none⟩) (by simp) (I 0)
          have hba : Below w.heap.size w wa := (bAlloc (bCall' hb9 hbel) _).grown hgrow (by simp; omega) (fun k e => by have := ownLt hown9 k e; omega)
          have hbe := bSet (bSet (bSet hba (p := ⟨w.heap.size, s * 3, none⟩) (Nat.le_refl _) (I 0)) (p := ⟨w.heap.size, s * 3 + 1, none⟩) (Nat.le_refl _) (I 0)) (p := ⟨w.heap.size, s * 3 + 2, none⟩) (Nat.le_refl _) (I 0)
          have HRR2 := ownSet (ownSet (ownSet HRR (a := ⟨w.heap.size, s * 3, none⟩) (by simp) (I 0)) (a := ⟨w.heap.size, s * 3 + 1, none⟩) (by simp) (I 0)) (a := ⟨w.heap.size, s * 3 + 2, none⟩) (by simp) (I 0)
          go_roundw
          case rel => exact ⟨n + 1, v', by omega, by go_num, rfl, HRR2, hBe, hB1a, hB2a, hbe⟩
          case measure => simp [intOf]; omega
        · have hge : (lv.length : Int) ≤ (n : Int) := by omega
          rw [List.take_of_length_le (by omega)] at hown hB0
          obtain ⟨w5, rfl⟩ : ∃ wl : World, wl = wr := ⟨_, rfl⟩
          have hroom2 := free_room HF.out
          generalize hrr : goneR r lv = rr at *
          generalize hfl : freeP (takenP rr) = fl at *
          have HRR := Lib.hid hrr; have HFL := Lib.hid hfl
          have hsz5 := hB2.lt
          have HB0 := Lib.hid hB0; have HB1R := Lib.hid hB1; have HB2R := Lib.hid hB2; have HOWN5 := Lib.hid hown; have HBEL := Lib.hid hbel
          clear hlt hn hrr hfl hown hc0 hf0 ha0 hr0 hf1 hy0 hB0 hB1 hB2
          go_wp2
          clear hge hc1 hy1 hy2
          try generalize decide (n < lv.length) = bq
          go_loopw [16, 20, 21, 22, 101] (fun u _ _ _ i wr => ∃ (n : Nat) (v2 : Value), n ≤ jn.length ∧ i = .int .i64 n ∧ v2 = u ∧ OwnSeats wr w5.heap.size v2 (joinL fl jn n) ∧ Blk wr w.heap.size (rosterC (joinR rr fl jn since base n)) 29 ∧ Mid (w.heap.size + 1) w5.heap.size w5 wr ∧ Below w.heap.size w wr) (fun _ _ _ _ i _ => jn.length - (intOf i).toNat)
          case atStart => exact ⟨0, _, by omega, rfl, rfl, World.ownsRow_nil _ _ _ _, HB0.out, Mid.refl (Nat.le_refl _), HBEL.out⟩
          case round =>
            clear hbel
            obtain ⟨n, v2, hn, rfl, rfl, hown, hB0, hM, hbel⟩ := hrel
            have hB1 := HB1R.out.mid hM (by omega) (by omega)
            have hB2 := HB2R.out.mid hM (by omega) (by omega)
            have hc0 := hB0.cell; have hf0 := hB0.frozen; have ha0 := hB0.at; have hr0 := hB0.row; have hc1 := hB1.cell; have hf1 := hB1.frozen; have hy0 := hB0.lt; have hy1 := hB1.lt; have hy2 := hB2.lt
            have hr2 := hB2.row
            by_cases hlt : n < jn.length
            · exact absurd hlt (by omega)
            · have hge : (jn.length : Int) ≤ (n : Int) := by omega
              obtain rfl : n = jn.length := by omega
              have hleft : OwnSeats wr (w.heap.size + 3) v (seatsOf r lv) := ownMid HOWN5.out hM (by omega) (Nat.le_refl _)
              have hat := (hB2.setRow (rosterC (joinR rr fl jn since base jn.length))).at 0 192
              rw [cellsIn_roster] at hat
              have HL := Lib.hid hleft; have HO := Lib.hid hown
              have HV := Lib.hid (show moveR r lv jn since base = joinR rr fl jn since base jn.length by unfold moveR; rw [HRR.out, HFL.out])
              have HV2 := Lib.hid (show moveJ r lv jn = joinL fl jn jn.length by unfold moveJ; rw [HRR.out, HFL.out])
              have hsm := hM.size
              clear hlt hn hleft hown hB0 hB1 hB2 hM hA hJ
              go_wp2
              exact bodyPost_ret (v := .tuple #[.agg (rosterC (joinR rr fl jn since base jn.length)), v, v2, .int .i64 0]) (by simp [results, Tryd.results65, Sem.run_bind, asAddr, loadVar_roster, ldV_roster, hat]) rfl ⟨v, v2, by rw [HV.out], ownBase (base := w.heap.size + 3) (ownRow HL.out (by omega) _) (by omega), by rw [HV2.out]; exact ownBase (ownRow HO.out (by omega) _) (by omega), below_setRow hbel (by omega) _⟩
  · go_loopw [14] (fun i wr => ∃ m : Nat, m ≤ 64 ∧ i = .int .i64 m ∧ wr = w1) (fun i _ => 64 - (intOf i).toNat)
    case atStart => exact ⟨0, by omega, rfl, rfl⟩
    case round =>
      obtain ⟨m, hm, rfl, rfl⟩ := hrel
      by_cases hlt : m < 64
      · have hlt' : (m : Int) < 64 := by omega
        have hlb := HBASE.out m hlt
        have hq0 : wr.cell? ⟨w.heap.size, m * 3 + 1, none⟩ = some (I (r m).base) := by rw [hB0.cell, rosterC_get1 _ _ hlt]
        have HB0 := Lib.hid hB0; have HB1 := Lib.hid hB1; have HB2 := Lib.hid hB2
        clear hB0 hB1 hB2 hc0 hc1 ha0 hf0 hf1 hr0
        go_wp2
        go_roundw
        case rel => exact ⟨m + 1, by omega, by go_num, by first | rfl | trivial⟩
        case measure => simp [intOf]; omega
      · have hge : (64 : Int) ≤ (m : Int) := by omega
        clear hlt hm
        go_wp2
        obtain ⟨wg, rfl⟩ : ∃ wg : World, wg = wr := ⟨_, rfl⟩
        clear hc0 hf0 ha0 hr0 hc1 hf1 hy0 hy1 hy2
        go_loopw [15, 18, 19, 81] (fun u _ _ i wr => ∃ (n : Nat) (v : Value), n ≤ lv.length ∧ i = .int .i64 n ∧ v = u ∧ OwnSeats wr (w.heap.size + 3) v (seatsOf r (lv.take n)) ∧ Blk wr w.heap.size (rosterC (goneR r (lv.take n))) 29 ∧ Blk wr (w.heap.size + 1) #[.slice ao lv.length cap, .slice bo jn.length cap2] 34 ∧ Blk wr (w.heap.size + 2) (rosterC roster0) 29 ∧ Below w.heap.size w wr) (fun _ _ _ i _ => lv.length - (intOf i).toNat)
        case atStart => exact ⟨0, _, by omega, rfl, rfl, World.ownsRow_nil _ _ _ _, by rw [List.take_zero, gone_nil]; exact hB0, hB1, hB2, hbel2⟩
        case round =>
          clear hB0 hB1 hB2 hbel2 hsz2
          obtain ⟨n, v, hn, rfl, rfl, hown, hB0, hB1, hB2, hbel⟩ := hrel
          have hc0 := hB0.cell; have hf0 := hB0.frozen; have ha0 := hB0.at; have hr0 := hB0.row; have hc1 := hB1.cell; have hf1 := hB1.frozen; have hy0 := hB0.lt; have hy1 := hB1.lt; have hy2 := hB2.lt
          by_cases hlt : n < lv.length
          · have hlt' : (n : Int) < (lv.length : Int) := by omega
            obtain ⟨x, hx⟩ := some_of_lt hlt
            obtain ⟨b, off, rfl, hbb, hcx⟩ := (hA.kept hbel) n x hx
            obtain ⟨_, hno, hf⟩ := HF.out.leaves n x hx
            obtain ⟨s, hs, hfs, hts, hws⟩ := findI_nat hf
            have hfg : findI (goneR r (lv.take n)) x = (s : Int) := (find_gone hno).trans hfs
            have hs' : (s : Int) < 64 := by omega
            have hgs := gone_snoc (l := lv.take n) HF.out.right hs hts hws
            have hsl : (seatsOf r (lv.take n)).length = n := by unfold seatsOf; simp; omega
            have hown2 : wr.ownsRow (w.heap.size + 3) 45 2 v n (seatC (seatsOf r (lv.take n))) := by have h := hown; unfold OwnSeats at h; rwa [hsl] at h
            obtain ⟨vo, vc, rfl⟩ := ownV hown2
            have he : seatsOf r (lv.take (n + 1)) = seatsOf r (lv.take n) ++ [⟨x, (s : Int)⟩] := by rw [take_snoc' hx]; unfold seatsOf; simp [hfs]
            have HE := Lib.hid he; have HSL := Lib.hid hsl; have HX := Lib.hid hx; have HGS := Lib.hid hgs
            have HB0 := Lib.hid hB0; have HB1 := Lib.hid hB1; have HB2 := Lib.hid hB2; have HAA := Lib.hid hA; have HJJ := Lib.hid hJ
            have HFG := Lib.hid hfg
            clear he hsl hx hgs hown hno hf hfs hts hws hB0 hB1 hB2 hA hJ hfg hc0 hf0 hr0 hf1
            go_wp2_with (first | (go_at_call 19; refine (ref09_Find _ x _).mono ?_; rintro e w9 ⟨rfl, hb9⟩; simp only [HFG.out]; have hown9 := ownBelow hown2 hb9 (Nat.le_refl _); have hz9 := hb9.size; clear ha0; have hB09 := HB0.out.kept hb9 hy0) | (at_builtin; refine wpList_append_own _ rfl _ _ 36 rfl (w.heap.size + 3) 45 i0 (.agg #[.int .i64 0, .int .i64 0]) 2 16 Tryd.underlying36 hi hz0 hz1 hz2 rfl (by decide) _ _ _ rfl (hown9.alloc _) ⟨w9.heap.size, 0, none⟩ 1 1 [I x, I (s : Int)] rfl rfl (two_cells_at' _ _ (by first | rfl | simp) _ _ _) (two_one _ _) (by unfold maxLen; omega) (by omega) (by first | omega | (simp; done) | (simp; omega)) ?_; intro v' wa hown' hgrow _; simp only [Value.ownBlock] at hgrow; have hB0a := hB09.grown hgrow (fun k e => by have := ownLt hown9 k e; omega); have hca := hB0a.cell; have hfa := hB0a.frozen; have hya := hB0a.lt))
            have HRR : OwnSeats wa (w.heap.size + 3) v' (seatsOf r (lv.take (n + 1))) := by
              rw [HE.out]; unfold OwnSeats; rw [seatC_snoc, List.length_append, HSL.out]; exact hown'
            have hBe := (hB0a.ent s hs 0 0 0).cast (rosterC_congr (l := goneR r (lv.take (n + 1))) (by rw [take_snoc' HX.out]; exact HGS.out))
            have hB1a := ((((HB1.out.kept hb9 hy1).grown hgrow (fun k e => by have := ownLt hown9 k e; omega)).set_other (a := ⟨w.heap.size, s * 3, none⟩) (by simp) (I 0)).set_other (a := ⟨w.heap.size, s * 3 + 1, none⟩) (by simp) (I 0)).set_other (a := ⟨w.heap.size, s * 3 + 2, none⟩) (by simp) (I 0)
            have hB2a := ((((HB2.out.kept hb9 hy2).grown hgrow (fun k e => by have := ownLt hown9 k e; omega)).set_other (a := ⟨w.heap.size, s * 3, none⟩) (by simp) (I 0)).set_other (a := ⟨w.heap.size, s * 3 + 1, none⟩) (by simp) (I 0)).set_other (a := ⟨w.heap.size, s * 3 + 2, none⟩) (by simp) (I 0)
            have hba : Below w.heap.size w wa := (bAlloc (bCall' hb9 hbel) _).grown hgrow (by simp; omega) (fun k e => by have := ownLt hown9 k e; omega)
            have hbe := bSet (bSet (bSet hba (p := ⟨w.heap.size, s * 3, none⟩) (Nat.le_refl _) (I 0)) (p := ⟨w.heap.size, s * 3 + 1, none⟩) (Nat.le_refl _) (I 0)) (p := ⟨w.heap.size, s * 3 + 2, none⟩) (Nat.le_refl _) (I 0)
            have HRR2 := ownSet (ownSet (ownSet HRR (a := ⟨w.heap.size, s * 3, none⟩) (by simp) (I 0)) (a := ⟨w.heap.size, s * 3 + 1, none⟩) (by simp) (I 0)) (a := ⟨w.heap.size, s * 3 + 2, none⟩) (by simp) (I 0)
            go_roundw
            case rel => exact ⟨n + 1, v', by omega, by go_num, rfl, HRR2, hBe, hB1a, hB2a, hbe⟩
            case measure => simp [intOf]; omega
          · have hge : (lv.length : Int) ≤ (n : Int) := by omega
            rw [List.take_of_length_le (by omega)] at hown hB0
            obtain ⟨w5, rfl⟩ : ∃ wl : World, wl = wr := ⟨_, rfl⟩
            have hroom2 := free_room HF.out
            generalize hrr : goneR r lv = rr at *
            generalize hfl : freeP (takenP rr) = fl at *
            have HRR := Lib.hid hrr; have HFL := Lib.hid hfl
            have hsz5 := hB2.lt
            have HB0 := Lib.hid hB0; have HB1R := Lib.hid hB1; have HB2R := Lib.hid hB2; have HOWN5 := Lib.hid hown; have HBEL := Lib.hid hbel
            clear hlt hn hrr hfl hown hc0 hf0 ha0 hr0 hf1 hy0 hB0 hB1 hB2
            go_wp2
            clear hge hc1 hy1 hy2
            try generalize decide (n < lv.length) = bq
            go_loopw [16, 20, 21, 22, 101] (fun u _ _ _ i wr => ∃ (n : Nat) (v2 : Value), n ≤ jn.length ∧ i = .int .i64 n ∧ v2 = u ∧ OwnSeats wr w5.heap.size v2 (joinL fl jn n) ∧ Blk wr w.heap.size (rosterC (joinR rr fl jn since base n)) 29 ∧ Mid (w.heap.size + 1) w5.heap.size w5 wr ∧ Below w.heap.size w wr) (fun _ _ _ _ i _ => jn.length - (intOf i).toNat)
            case atStart => exact ⟨0, _, by omega, rfl, rfl, World.ownsRow_nil _ _ _ _, HB0.out, Mid.refl (Nat.le_refl _), HBEL.out⟩
            case round =>
              clear hbel
              obtain ⟨n, v2, hn, rfl, rfl, hown, hB0, hM, hbel⟩ := hrel
              have hB1 := HB1R.out.mid hM (by omega) (by omega)
              have hB2 := HB2R.out.mid hM (by omega) (by omega)
              have hc0 := hB0.cell; have hf0 := hB0.frozen; have ha0 := hB0.at; have hr0 := hB0.row; have hc1 := hB1.cell; have hf1 := hB1.frozen; have hy0 := hB0.lt; have hy1 := hB1.lt; have hy2 := hB2.lt
              have hr2 := hB2.row
              by_cases hlt : n < jn.length
              · have hlt' : (n : Int) < (jn.length : Int) := by omega
                obtain ⟨x, hx⟩ := some_of_lt hlt
                obtain ⟨b, off, rfl, hbb0, hcx0⟩ := hJ n x hx
                have hcx := (hbel.cell (p := ⟨b, off + n, none⟩) hbb0).trans hcx0
                have hbb : b < wr.heap.size := by omega
                have hbne : b ≠ w.heap.size := by omega
                clear hcx0
                obtain ⟨s, hfs⟩ := some_of_lt (show n < fl.length by omega)
                obtain ⟨hs, hfree, htk⟩ := join_least (r := rr) (jn := jn) (since := since) hb1 (by rw [HFL.out]; exact hfs)
                rw [HFL.out] at hfree htk
                have hs' : (s : Int) < 64 := by omega
                have hsl := joinL_len fl jn n
                have hown2 : wr.ownsRow w5.heap.size 45 2 v2 n (seatC (joinL fl jn n)) := by have h := hown; unfold OwnSeats at h; rwa [hsl] at h
                obtain ⟨vo, vc, rfl⟩ := ownV hown2
                have he : joinL fl jn (n + 1) = joinL fl jn n ++ [⟨x, (s : Int)⟩] := by rw [joinL_succ]; simp [List.getD, hx, hfs]
                have hje : joinR rr fl jn since base (n + 1) = upd (joinR rr fl jn since base n) s ⟨x, base + n, since⟩ := by
                  show upd (joinR rr fl jn since base n) (fl.getD n 0) ⟨jn.getD n 0, base + n, since⟩ = _
                  simp [List.getD, hx, hfs]
                have hsm := hM.size
                have HE := Lib.hid he; have HSL := Lib.hid hsl; have HX := Lib.hid hx; have HFS := Lib.hid hfs; have HJE := Lib.hid hje
                have HFREE := Lib.hid hfree; have HTK := Lib.hid htk
                have HB0 := Lib.hid hB0; have HB1 := Lib.hid hB1; have HB2 := Lib.hid hB2; have HAA := Lib.hid hA; have HJJ := Lib.hid hJ; have HM := Lib.hid hM
                clear he hsl hx hfs hje hown hB0 hB1 hB2 hA hJ hM ha0 hr2 hfree htk
                go_wp2
                obtain ⟨wx, rfl⟩ : ∃ wx : World, wx = wr := ⟨_, rfl⟩
                go_loopw [22] (fun u wq => ∃ q : Nat, q ≤ s ∧ u = .int .i64 q ∧ wq = wx) (fun u _ => s - (intOf u).toNat)
                case atStart => exact ⟨0, by omega, rfl, rfl⟩
                case round =>
                  obtain ⟨q, hq, rfl, rfl⟩ := hrel
                  by_cases hqs : q < s
                  · have hq64 : q < 64 := by omega
                    have hq64' : (q : Int) < 64 := by omega
                    have htk := HTK.out q hqs
                    have hbz : ((joinR rr fl jn since base n q).base != 0) = true := (takenP_bne _ q).trans htk
                    clear htk
                    go_wp2
                    go_roundw
                    case rel => exact ⟨q + 1, by omega, by go_num, by first | rfl | trivial⟩
                    case measure => simp [intOf]; omega
                  · obtain rfl : q = s := by omega
                    have hbz : ((joinR rr fl jn since base n q).base != 0) = false := (takenP_bne _ q).trans HFREE.out
                    go_wp2_with (first | (at_builtin; refine wpList_append_own _ rfl _ _ 36 rfl w5.heap.size 45 i0 (.agg #[.int .i64 0, .int .i64 0]) 2 16 Tryd.underlying36 hi hz0 hz1 hz2 rfl (by decide) _ _ _ rfl ((ownSet (ownSet (ownSet hown2 (by simp; omega) _) (by simp; omega) _) (by simp; omega) _).alloc _) ⟨wr.heap.size, 0, none⟩ 1 1 [I x, I (q : Int)] rfl rfl (two_cells_at' _ _ (by first | rfl | simp) _ _ _) (two_one _ _) (by unfold maxLen; omega) (by omega) (by first | omega | (simp; done) | (simp; omega)) ?_; intro v' wa hown' hgrow _; simp only [Value.ownBlock] at hgrow; ))
                    have hBe : Blk (((wr.setCell ⟨w.heap.size, q * 3, none⟩ (I x)).setCell ⟨w.heap.size, q * 3 + 1, none⟩ (I (base + n))).setCell ⟨w.heap.size, q * 3 + 2, none⟩ (I since)) w.heap.size (rosterC (joinR rr fl jn since base (n + 1))) 29 := by
                      rw [HJE.out]; exact HB0.out.ent q hs _ _ _
                    have hB0a := hBe.grown hgrow (fun k e => by have := ownLt hown2 k e; omega)
                    have hMa := ((((HM.out.set (.inl (by simp)) _).set (.inl (by simp)) _).set (.inl (by simp)) _).alloc _).grown hgrow (fun k e => .inr (by have := ownLt hown2 k e; omega))
                    have hba : Below w.heap.size w wa := (bAlloc (bSet (bSet (bSet hbel (Nat.le_refl _) _) (Nat.le_refl _) _) (Nat.le_refl _) _) _).grown hgrow (by simp; omega) (fun k e => by have := ownLt hown2 k e; omega)
                    have HRR2 : OwnSeats wa w5.heap.size v' (joinL fl jn (n + 1)) := by
                      rw [HE.out]; unfold OwnSeats; rw [seatC_snoc, List.length_append, HSL.out]; exact hown'
                    go_roundw
                    case rel => exact ⟨n + 1, v', by omega, by go_num, rfl, HRR2, hB0a, hMa, hba⟩
                    case measure => simp [intOf]; omega
              · have hge : (jn.length : Int) ≤ (n : Int) := by omega
                obtain rfl : n = jn.length := by omega
                have hleft : OwnSeats wr (w.heap.size + 3) v (seatsOf r lv) := ownMid HOWN5.out hM (by omega) (Nat.le_refl _)
                have hat := (hB2.setRow (rosterC (joinR rr fl jn since base jn.length))).at 0 192
                rw [cellsIn_roster] at hat
                have HL := Lib.hid hleft; have HO := Lib.hid hown
                have HV := Lib.hid (show moveR r lv jn since base = joinR rr fl jn since base jn.length by unfold moveR; rw [HRR.out, HFL.out])
                have HV2 := Lib.hid (show moveJ r lv jn = joinL fl jn jn.length by unfold moveJ; rw [HRR.out, HFL.out])
                have hsm := hM.size
                clear hlt hn hleft hown hB0 hB1 hB2 hM hA hJ
                go_wp2
                exact bodyPost_ret (v := .tuple #[.agg (rosterC (joinR rr fl jn since base jn.length)), v, v2, .int .i64 0]) (by simp [results, Tryd.results65, Sem.run_bind, asAddr, loadVar_roster, ldV_roster, hat]) rfl ⟨v, v2, by rw [HV.out], ownBase (base := w.heap.size + 3) (ownRow HL.out (by omega) _) (by omega), by rw [HV2.out]; exact ownBase (ownRow HO.out (by omega) _) (by omega), below_setRow hbel (by omega) _⟩
end Go.Proofs.YtodgcmakdndbfaaDoor
/-
  Plain: the items of a message. No program, no world.
-/
namespace Cot
open Go.Proofs.YtodgcmakdndbfaaDoor
def nodeK (t : Tree) (v : Nat) : Key := (nodeKI t v).1
def itemOf (t : Tree) (v c : Nat) : Itm := ⟨v, c, nodeK t c, nodeK t v⟩
/-- The items of node v for its first i children. -/
def itemsV (t : Tree) (v i : Nat) : List Itm := ((List.range i).filter fun j => heldP t.roster (4 * v + 1 + j)).map fun j => itemOf t v (4 * v + 1 + j)
/-- The items of the first k nodes, from 20 down. -/
def itemsA (t : Tree) (left : List Seat) : Nat → List Itm
  | 0 => []
  | k + 1 => itemsA t left k ++ if replP left (20 - k) then itemsV t (20 - k) 4 else []
def pathN (s j : Nat) : Nat := if j = 0 then 5 + s / 4 else if j = 1 then 1 + s / 16 else 0
/-- The items of who sits at slot s, for the first i nodes of its path. -/
def itemsJ (t : Tree) (left : List Seat) (s i : Nat) : List Itm := ((List.range i).filter fun j => !replP left (pathN s j)).map fun j => itemOf t (pathN s j) (21 + s)
def itemsB (t : Tree) (left joined : List Seat) (k : Nat) : List Itm := (joined.take k).flatMap fun x => itemsJ t left x.slot.toNat 3
def itemsS (t : Tree) (left joined : List Seat) : List Itm := itemsA t left 21 ++ itemsB t left joined joined.length
theorem itemsV_succ (t : Tree) (v i : Nat) : itemsV t v (i + 1) = itemsV t v i ++ if heldP t.roster (4 * v + 1 + i) then [itemOf t v (4 * v + 1 + i)] else [] := by
  unfold itemsV; rw [List.range_succ, List.filter_append, List.map_append]
  congr 1
  by_cases h : heldP t.roster (4 * v + 1 + i) = true <;> simp [h]
theorem itemsJ_succ (t : Tree) (left : List Seat) (s i : Nat) : itemsJ t left s (i + 1) = itemsJ t left s i ++ if replP left (pathN s i) then [] else [itemOf t (pathN s i) (21 + s)] := by
  unfold itemsJ; rw [List.range_succ, List.filter_append, List.map_append]
  congr 1
  by_cases h : replP left (pathN s i) = true <;> simp [h]
theorem itemsV_len (t : Tree) (v i : Nat) : (itemsV t v i).length ≤ i := by
  unfold itemsV; rw [List.length_map]; exact Nat.le_trans (List.length_filter_le _ _) (by simp)
theorem itemsJ_len (t : Tree) (left : List Seat) (s i : Nat) : (itemsJ t left s i).length ≤ i := by
  unfold itemsJ; rw [List.length_map]; exact Nat.le_trans (List.length_filter_le _ _) (by simp)
theorem itemsA_len (t : Tree) (left : List Seat) : ∀ k, (itemsA t left k).length ≤ 4 * k
  | 0 => by simp [itemsA]
  | k + 1 => by
    have h1 := itemsA_len t left k
    have h2 := itemsV_len t (20 - k) 4
    unfold itemsA
    rw [List.length_append]
    split <;> simp <;> omega
theorem itemsB_succ (t : Tree) (left joined : List Seat) {k : Nat} {x : Seat} (h : joined[k]? = some x) : itemsB t left joined (k + 1) = itemsB t left joined k ++ itemsJ t left x.slot.toNat 3 := by
  unfold itemsB; rw [take_snoc' h]; simp
theorem itemsB_len (t : Tree) (left joined : List Seat) : ∀ k, (itemsB t left joined k).length ≤ 3 * k
  | 0 => by simp [itemsB]
  | k + 1 => by
    have h1 := itemsB_len t left joined k
    cases h : joined[k]? with
    | none =>
      have : joined.length ≤ k := by simpa using h
      unfold itemsB at h1 ⊢
      rw [List.take_of_length_le (by omega)] at h1 ⊢; omega
    | some x =>
      rw [itemsB_succ t left joined h, List.length_append]
      have := itemsJ_len t left x.slot.toNat 3
      omega
theorem itemsS_len (t : Tree) (left joined : List Seat) : (itemsS t left joined).length ≤ 84 + 3 * joined.length := by
  unfold itemsS; rw [List.length_append]
  have h1 := itemsA_len t left 21
  have h2 := itemsB_len t left joined joined.length
  omega
end Cot
