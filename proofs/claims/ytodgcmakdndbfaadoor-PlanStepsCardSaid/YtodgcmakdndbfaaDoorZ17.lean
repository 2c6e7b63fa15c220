/-
  Parts of a proof: Next2, SetR. Merged by program.
-/
import Derived.Test.YtodgcmakdndbfaaDoorZ16
/-
  Contracts: coterieref11.Next where the batch fits. Printed by wip/gen/gk.py.
-/
namespace Go.Proofs.YtodgcmakdndbfaaDoor
open Go.RowKit Cot
set_option linter.unusedSimpArgs false
set_option linter.unusedVariables false
theorem Blk.fresh {w : World} {b : Nat} {t : Tree} {ty : TypeId} (h : Blk w b (treeC t) ty) : w.cell? ⟨b, 1, none⟩ = some (I t.fresh) := by rw [h.cell, treeC_get1]
theorem treeKF {W w' : World} {b : Nat} {t : Tree} {ty : TypeId} (h : Blk W b (treeC t) ty) (hlt : b < W.heap.size) (hb : Below W.heap.size W w') : w'.rangeAt b 2 (keysC t.keys).toList ∧ w'.cell? ⟨b, 1, none⟩ = some (I t.fresh) :=
  ⟨(h.kept hb hlt).rangeK, (h.kept hb hlt).fresh⟩
theorem ref10_Turn_ok (k : Nat → Key) (p : Nat → Bool) (fresh : Int) (hk : RightKeys k) (hf : 1 ≤ fresh) (hf2 : fresh ≤ 32768) (hb : ∀ j, j < 21 → (k j).base < fresh) (hst : ∀ j, j < 21 → (k j).step ≤ 254) (hr : fresh + (cntOf p 21 : Nat) ≤ 32768) (w : World) :
    Calls Tryd.prog 63 #[.agg (keysC k), .int .u32 (bitsOf p 21), .int .i64 fresh] w fun e w' => e = .returned (.tuple #[.agg (keysC (turnK k p fresh)), .int .i64 (fresh + (cntOf p 21 : Nat)), .int .i64 0]) ∧ Below w.heap.size w w' := by
  have h := ref10_Turn k p fresh hk hf hf2 hb hst w
  simp only [if_pos hr] at h
  exact h
theorem ref10_Turn_bad (k : Nat → Key) (p : Nat → Bool) (fresh : Int) (hk : RightKeys k) (hf : 1 ≤ fresh) (hf2 : fresh ≤ 32768) (hb : ∀ j, j < 21 → (k j).base < fresh) (hst : ∀ j, j < 21 → (k j).step ≤ 254) (hr : 32768 < fresh + (cntOf p 21 : Nat)) (w : World) :
    Calls Tryd.prog 63 #[.agg (keysC k), .int .u32 (bitsOf p 21), .int .i64 fresh] w fun e w' => e = .returned (.tuple #[.agg (keysC keys0), .int .i64 0, .int .i64 3]) ∧ Below w.heap.size w w' := by
  have h := ref10_Turn k p fresh hk hf hf2 hb hst w
  simp only [if_neg (Int.not_le.2 hr)] at h
  exact h
set_option maxRecDepth 100000 in
set_option maxHeartbeats 3000000 in
theorem ref11_Next_good (t : Tree) (lv jn : List Int) (ao bo : Option Addr) (cap cap2 : Nat) (w : World) (hl1 : lv.length ≤ 35184372088832) (hl2 : jn.length ≤ 35184372088832) (hA : IntsAt w ao lv) (hJ : IntsAt w bo jn) (hi1 : ∀ j, I64 (t.roster j).base) (hi2 : ∀ j, I64 (t.roster j).who) (hi3 : ∀ x, x ∈ lv → I64 x) (hi4 : ∀ x, x ∈ jn → I64 x) (hR : RightTree t) (hep : t.epoch ≠ 200) (hfit : fitsS t.roster lv jn = 0) :
    Calls Tryd.prog 39 #[.agg (treeC t), .agg #[.slice ao lv.length cap, .slice bo jn.length cap2]] w fun e w' => ∃ v1 v2, e = .returned (.tuple #[.agg (treeC (outT t lv jn)), v1, v2, .int .i64 (errI t lv jn)]) ∧ OwnSeats w' w.heap.size v1 (outL t lv jn) ∧ OwnSeats w' w.heap.size v2 (outJ t lv jn) ∧ Below w.heap.size w w' := by
  have hbs : Below w.heap.size w (((w.alloc (.cells (treeC t) 31)).alloc (.cells #[.slice ao lv.length cap, .slice bo jn.length cap2] 34)).alloc (.cells (treeC tree0) 31)) := bAlloc (bAlloc (bAlloc (Below.refl _ _) _) _) _
  have k0 : Blk (((w.alloc (.cells (treeC t) 31)).alloc (.cells #[.slice ao lv.length cap, .slice bo jn.length cap2] 34)).alloc (.cells (treeC tree0) 31)) w.heap.size (treeC t) 31 := ((Blk.new w _ _).alloc _).alloc _
  have k1 : Blk (((w.alloc (.cells (treeC t) 31)).alloc (.cells #[.slice ao lv.length cap, .slice bo jn.length cap2] 34)).alloc (.cells (treeC tree0) 31)) (w.heap.size + 1) #[.slice ao lv.length cap, .slice bo jn.length cap2] 34 := by
    have h := (Blk.new (w.alloc (.cells (treeC t) 31)) #[.slice ao lv.length cap, .slice bo jn.length cap2] 34).alloc (.cells (treeC tree0) 31); rw [World.size_alloc] at h; exact h
  have k2 : Blk (((w.alloc (.cells (treeC t) 31)).alloc (.cells #[.slice ao lv.length cap, .slice bo jn.length cap2] 34)).alloc (.cells (treeC tree0) 31)) (w.heap.size + 2) (treeC tree0) 31 := by
    have h := Blk.new ((w.alloc (.cells (treeC t) 31)).alloc (.cells #[.slice ao lv.length cap, .slice bo jn.length cap2] 34)) (treeC tree0) 31; simp only [World.size_alloc] at h; exact h
  have HBS := Lib.hid hbs; have K0 := Lib.hid k0; have K1 := Lib.hid k1; have K2 := Lib.hid k2
  have HA3 := Lib.hid (hA.kept hbs); have HJ3 := Lib.hid (hJ.kept hbs)
  clear hbs k0 k1 k2
  have hck := checkTree_yes hR
  have hep' : (t.epoch == 200) = false := by simpa using hep
  have hfit' : (fitsS t.roster lv jn != 0) = false := by simpa using hfit
  have F := fits_ok hfit
  have hlv := lv_len F
  have hjn := jn_len F
  have hso := seats_ok F
  have HSO := Lib.hid hso; have HR := Lib.hid hR; have HFIT := Lib.hid hfit; have HEP := Lib.hid hep
  have HAA := Lib.hid hA; have HJJ := Lib.hid hJ; have HI1 := Lib.hid hi1; have HI2 := Lib.hid hi2; have HI3 := Lib.hid hi3; have HI4 := Lib.hid hi4
  clear hi1 hi2 hi3 hi4
  have he0 := hR.epoch0; have he1 := hR.epoch1; have hf0 := hR.fresh0; have hf1 := hR.fresh1
  obtain ⟨i0, hi, hz0, hz1, hz2⟩ := info_parts info_seat
  clear hR hfit hep F hso hA hJ
  go_enter Tryd.func39, Tryd.ntmps39
  go_wp2_with (first | (go_at_call 18; refine (ref11_Check t _).mono ?_; rintro e w1 ⟨rfl, hb⟩; simp only [hck]; have hB0 := K0.out.kept hb (by first | omega | (simp; done) | (simp; omega)); have hB1 := K1.out.kept hb (by first | omega | (simp; done) | (simp; omega)); have hB2 := K2.out.kept hb (by first | omega | (simp; done) | (simp; omega)); have hbel := bCall' hb HBS.out; have hc0 := hB0.cell; have ha0 := hB0.at; have hc1 := hB1.cell; have hy0 := hB0.lt; have hy1 := hB1.lt; have hr2 := hB2.row; have hy2 := hB2.lt) | (go_at_call 62; refine (ref09_Fits t.roster lv jn ao bo cap cap2 _ hl1 hl2 (HA3.out.kept hb) (HJ3.out.kept hb)).mono ?_; rintro e w2 ⟨rfl, hb2⟩; skip; have hB0' := hB0.kept hb2 hB0.lt; have hB1' := hB1.kept hb2 hB1.lt; have hB2' := hB2.kept hb2 hB2.lt; have hbel' := bCall' hb2 hbel; clear hc0 ha0 hc1 hy0 hy1 hr2 hy2 hB0 hB1 hB2 hbel; have hB0 := hB0'; have hB1 := hB1'; have hB2 := hB2'; have hbel := hbel'; clear hB0' hB1' hB2' hbel'; have hc0 := hB0.cell; have ha0 := hB0.at; have hc1 := hB1.cell; have hy0 := hB0.lt; have hy1 := hB1.lt; have hr2 := hB2.row; have hy2 := hB2.lt))
  have hz2w : w.heap.size + 3 ≤ w2.heap.size := by omega
  clear hb hb2 hc0 ha0 hc1 hy0 hy1 hr2 hy2
  go_loopw [9, 11, 36] (fun u _ i wr => ∃ (n : Nat) (v : Value), n ≤ lv.length ∧ i = .int .i64 n ∧ v = u ∧ OwnSeats wr (w.heap.size + 3) v (seatsOf t.roster (lv.take n)) ∧ Blk wr w.heap.size (treeC t) 31 ∧ Blk wr (w.heap.size + 1) #[.slice ao lv.length cap, .slice bo jn.length cap2] 34 ∧ Blk wr (w.heap.size + 2) (treeC tree0) 31 ∧ Below w.heap.size w wr) (fun _ _ i _ => lv.length - (intOf i).toNat)
  case atStart => exact ⟨0, _, by omega, rfl, rfl, World.ownsRow_nil _ _ _ _, hB0, hB1, hB2, hbel⟩
  case round =>
    clear hB0 hB1 hB2 hbel hz2w
    obtain ⟨n, v, hn, rfl, rfl, hown, hB0, hB1, hB2, hbel⟩ := hrel
    have hc0 := hB0.cell; have ha0 := hB0.at; have hc1 := hB1.cell; have hy0 := hB0.lt; have hy1 := hB1.lt; have hr2 := hB2.row; have hy2 := hB2.lt
    by_cases hlt : n < lv.length
    · have hlt' : (n : Int) < (lv.length : Int) := by omega
      obtain ⟨x, hx⟩ := some_of_lt hlt
      obtain ⟨b, off, rfl, hbb, hcx⟩ := (HAA.out.kept hbel) n x hx
      have hsl : (seatsOf t.roster (lv.take n)).length = n := by unfold seatsOf; simp; omega
      have hown2 : wr.ownsRow (w.heap.size + 3) 45 2 v n (seatC (seatsOf t.roster (lv.take n))) := by have h := hown; unfold OwnSeats at h; rwa [hsl] at h
      obtain ⟨vo, vc, rfl⟩ := ownV hown2
      have he : seatsOf t.roster (lv.take (n + 1)) = seatsOf t.roster (lv.take n) ++ [⟨x, findI t.roster x⟩] := by rw [take_snoc' hx]; unfold seatsOf; simp
      have HE := Lib.hid he; have HSL := Lib.hid hsl; have HX := Lib.hid hx
      have HB0 := Lib.hid hB0; have HB1 := Lib.hid hB1; have HB2 := Lib.hid hB2
      clear he hsl hx hown hB0 hB1 hB2 hc0 hc1 hr2
      go_wp2_with (first | (go_at_call 19; refine (ref09_Find _ x _).mono ?_; rintro e w9 ⟨rfl, hb9⟩; have hown9 := ownBelow hown2 hb9 (Nat.le_refl _); have hz9 := hb9.size; clear ha0) | (at_builtin; refine wpList_append_own _ rfl _ _ 36 rfl (w.heap.size + 3) 45 i0 (.agg #[.int .i64 0, .int .i64 0]) 2 16 Tryd.underlying36 hi hz0 hz1 hz2 rfl (by decide) _ _ _ rfl (hown9.alloc _) ⟨w9.heap.size, 0, none⟩ 1 1 [I x, I (findI t.roster x)] rfl rfl (two_cells_at' _ _ (by first | rfl | simp) _ _ _) (two_one _ _) (by unfold maxLen; omega) (by omega) (by first | omega | (simp; done) | (simp; omega)) ?_; intro v' wa hown' hgrow _; simp only [Value.ownBlock] at hgrow; ))
      have hne := fun k e => (ownLt hown9 k e).1
      have hB0a := (HB0.out.kept hb9 hy0).grown hgrow (fun k e => by have := hne k e; omega)
      have hB1a := (HB1.out.kept hb9 hy1).grown hgrow (fun k e => by have := hne k e; omega)
      have hB2a := (HB2.out.kept hb9 hy2).grown hgrow (fun k e => by have := hne k e; omega)
      have hba : Below w.heap.size w wa := (bAlloc (bCall' hb9 hbel) _).grown hgrow (by simp; omega) (fun k e => by have := hne k e; omega)
      have HRR : OwnSeats wa (w.heap.size + 3) v' (seatsOf t.roster (lv.take (n + 1))) := by
        rw [HE.out]; unfold OwnSeats; rw [seatC_snoc, List.length_append, HSL.out]; exact hown'
      clear hne
      go_roundw
      case rel => exact ⟨n + 1, v', by omega, by go_num, rfl, HRR, hB0a, hB1a, hB2a, hba⟩
      case measure => simp [intOf]; omega
    · have hge : (lv.length : Int) ≤ (n : Int) := by omega
      rw [List.take_of_length_le (by omega)] at hown
      obtain ⟨wl, rfl⟩ : ∃ wl : World, wl = wr := ⟨_, rfl⟩
      have HB0 := Lib.hid hB0; have HB1 := Lib.hid hB1; have HB2 := Lib.hid hB2; have HBEL := Lib.hid hbel
      obtain ⟨gao, gcap, rfl, hgat⟩ := OwnSeats.form hown
      have HGAT := Lib.hid hgat
      clear hown hgat hlt hn hB0 hB1 hB2 hbel hc0 ha0 hc1 hr2
      go_wp2
      clear hge
      have hui := Tryd.underlying25
      have hsi : (Tryd.prog.info? 25).map (·.size) = some (keysC t.keys).toList.length := by rw [Array.length_toList, keysC_size]; kernel_rfl
      have hlen2 : (seatsOf t.roster lv).length ≤ 1099511627776 := by rw [seats_len]; omega
      have HLEN2 := Lib.hid hlen2; clear hlen2
      have HKR := Lib.hid HR.out.keys
      have HKB : Hid (∀ j, j < 21 → (t.keys j).base < t.fresh) := Lib.hid (fun j hj => (HR.out.kb j hj).1)
      have HKS : Hid (∀ j, j < 21 → (t.keys j).step ≤ 254) := Lib.hid (fun j hj => by have h1 := (HR.out.kb j hj).2; have h2 := HEP.out; omega)
      have hbW : Below wl.heap.size wl wl.drew := (Below.refl _ _).drew
      have hone0 := oneCell_keys keys0
      have hone1 := oneCell_keys (turnK t.keys (replP (seatsOf t.roster lv)) t.fresh)
      have hks0 : (keysC keys0).toList.length = 42 := by rw [Array.length_toList, keysC_size]
      have hks1 : (keysC (turnK t.keys (replP (seatsOf t.roster lv)) t.fresh)).toList.length = 42 := by rw [Array.length_toList, keysC_size]
      have hkst : (keysC t.keys).toList.length = 42 := by rw [Array.length_toList, keysC_size]
      have hth : ∀ w : World, (w.alloc (.cells (keysC keys0) 25)).there w.heap.size 0 42 := fun w => (Blk.new w _ _).there (keysC_size _)
      by_cases hroom : t.fresh + (cntOf (replP (seatsOf t.roster lv)) 21 : Nat) ≤ 32768
      rotate_left
      · have HE := Lib.hid (err_room (lv := lv) (jn := jn) HR.out HEP.out HFIT.out (by have : cntR t lv = cntOf (replP (seatsOf t.roster lv)) 21 := rfl; omega))
        have HROOM := Lib.hid hroom
        clear hroom
        go_region_held3 (fun w' => w'.rangeAt w.heap.size 2 (keysC t.keys).toList ∧ w'.cell? ⟨w.heap.size, 1, none⟩ = some (I t.fresh))
          (first | exact ⟨HB0.out.drew.rangeK, HB0.out.drew.fresh⟩ | exact (treeKF HB0.out hy0 (by first | with_reducible exact hbW | with_reducible exact bAlloc hbW _ | with_reducible exact bDrew (bAlloc (Below.refl _ _) _) | (with_reducible refine bSetCells ?_ _ _ hbW; first | omega | (simp; done) | (simp; omega)) | (with_reducible refine bSetCells ?_ _ _ (bAlloc hbW _); first | omega | (simp; done) | (simp; omega)))) | go_keep)
          (first
            | (go_at_call 64; refine (ref11_Replaced gao (seatsOf t.roster lv) gcap HSO.out HLEN2.out _ (HGAT.out.kept (by first | with_reducible exact hbW | with_reducible exact bAlloc hbW _ | with_reducible exact bDrew (bAlloc (Below.refl _ _) _) | (with_reducible refine bSetCells ?_ _ _ hbW; first | omega | (simp; done) | (simp; omega)) | (with_reducible refine bSetCells ?_ _ _ (bAlloc hbW _); first | omega | (simp; done) | (simp; omega))))).mono ?_; rintro e w3 ⟨rfl, hb3⟩; have hbW := bCall' hb3 (by first | with_reducible exact hbW | with_reducible exact bAlloc hbW _ | with_reducible exact bDrew (bAlloc (Below.refl _ _) _) | (with_reducible refine bSetCells ?_ _ _ hbW; first | omega | (simp; done) | (simp; omega)) | (with_reducible refine bSetCells ?_ _ _ (bAlloc hbW _); first | omega | (simp; done) | (simp; omega))); have hsW := hbW.size; (first | (have hX := hX.kept hb3 hX.lt; have hXt := hX.there (keysC_size _); have hXy := hX.lt) | (have hX := (by with_reducible exact blkNewD hb3); have hXt := hX.there (keysC_size _); have hXy := hX.lt) | (have hX := (by with_reducible exact blkNew hb3); have hXt := hX.there (keysC_size _); have hXy := hX.lt) | skip))
            | (go_at_call 63; (try simp only [Array.toArray_toList]); refine (ref10_Turn_bad t.keys (replP (seatsOf t.roster lv)) t.fresh HKR.out (by omega) (by omega) HKB.out HKS.out HROOM.out _).mono ?_; rintro e w4 ⟨rfl, hb4⟩; have hbW := bCall' hb4 (by first | with_reducible exact hbW | with_reducible exact bAlloc hbW _ | with_reducible exact bDrew (bAlloc (Below.refl _ _) _) | (with_reducible refine bSetCells ?_ _ _ hbW; first | omega | (simp; done) | (simp; omega)) | (with_reducible refine bSetCells ?_ _ _ (bAlloc hbW _); first | omega | (simp; done) | (simp; omega))); have hsW := hbW.size; (first | (have hX := hX.kept hb4 hX.lt; have hXt := hX.there (keysC_size _); have hXy := hX.lt) | (have hX := (by with_reducible exact blkNewD hb4); have hXt := hX.there (keysC_size _); have hXy := hX.lt) | (have hX := (by with_reducible exact blkNew hb4); have hXt := hX.there (keysC_size _); have hXy := hX.lt) | skip)))
        · have hbW9 : Below wl.heap.size wl ((w4.alloc (.cells (keysC keys0) 25)).setCells w4.heap.size 0 (keysC keys0).toList) := (by first | with_reducible exact hbW | with_reducible exact bAlloc hbW _ | with_reducible exact bDrew (bAlloc (Below.refl _ _) _) | (with_reducible refine bSetCells ?_ _ _ hbW; first | omega | (simp; done) | (simp; omega)) | (with_reducible refine bSetCells ?_ _ _ (bAlloc hbW _); first | omega | (simp; done) | (simp; omega)))
          have hK9 : Blk ((w4.alloc (.cells (keysC keys0) 25)).setCells w4.heap.size 0 (keysC keys0).toList) w4.heap.size (keysC keys0) 25 := (Blk.new w4 (keysC keys0) 25).filled (by simp only [keysC_size])
          have hX9 : wl.heap.size ≤ w4.heap.size := by first | omega | (have := hb3.size; have := hb4.size; simp at *; omega)
          generalize (w4.alloc (.cells (keysC keys0) 25)).setCells w4.heap.size 0 (keysC keys0).toList = W9 at *
          generalize w4.heap.size = X at *
          have hB29 := HB2.out.kept hbW9 (by omega)
          have hr2 := hB29.row
          have hy29 := hB29.lt
          have hbel := bCall' hbW9 HBEL.out
          go_wp2
          have hat := (hB29.setRow (treeC tree0)).at 0 236
          rw [cellsIn_tree] at hat
          have H1 := Lib.hid (show outT t lv jn = tree0 by unfold outT; rw [HE.out]; rfl)
          have H2 := Lib.hid (show outL t lv jn = [] by unfold outL; rw [HE.out]; rfl)
          have H3 := Lib.hid (show outJ t lv jn = [] by unfold outJ; rw [HE.out]; rfl)
          exact bodyPost_ret (v := .tuple #[.agg (treeC tree0), .slice none 0 0, .slice none 0 0, .int .i64 3]) (by simp [results, Tryd.results39, Sem.run_bind, asAddr, loadVar_tree, ldV_tree, hat]) rfl ⟨_, _, by rw [HE.out, H1.out], by rw [H2.out]; exact World.ownsRow_nil _ _ _ _, by rw [H3.out]; exact World.ownsRow_nil _ _ _ _, below_setRow hbel (by omega) _⟩
        · have hbW9 : Below wl.heap.size wl (w4.setCells w3.heap.size 0 (keysC keys0).toList) := (by first | with_reducible exact hbW | with_reducible exact bAlloc hbW _ | with_reducible exact bDrew (bAlloc (Below.refl _ _) _) | (with_reducible refine bSetCells ?_ _ _ hbW; first | omega | (simp; done) | (simp; omega)) | (with_reducible refine bSetCells ?_ _ _ (bAlloc hbW _); first | omega | (simp; done) | (simp; omega)))
          have hK9 : Blk (w4.setCells w3.heap.size 0 (keysC keys0).toList) w3.heap.size (keysC keys0) 25 := hX.filled (by simp only [keysC_size])
          have hX9 : wl.heap.size ≤ w3.heap.size := by first | omega | (have := hb3.size; have := hb4.size; simp at *; omega)
          generalize w4.setCells w3.heap.size 0 (keysC keys0).toList = W9 at *
          generalize w3.heap.size = X at *
          have hB29 := HB2.out.kept hbW9 (by omega)
          have hr2 := hB29.row
          have hy29 := hB29.lt
          have hbel := bCall' hbW9 HBEL.out
          go_wp2
          have hat := (hB29.setRow (treeC tree0)).at 0 236
          rw [cellsIn_tree] at hat
          have H1 := Lib.hid (show outT t lv jn = tree0 by unfold outT; rw [HE.out]; rfl)
          have H2 := Lib.hid (show outL t lv jn = [] by unfold outL; rw [HE.out]; rfl)
          have H3 := Lib.hid (show outJ t lv jn = [] by unfold outJ; rw [HE.out]; rfl)
          exact bodyPost_ret (v := .tuple #[.agg (treeC tree0), .slice none 0 0, .slice none 0 0, .int .i64 3]) (by simp [results, Tryd.results39, Sem.run_bind, asAddr, loadVar_tree, ldV_tree, hat]) rfl ⟨_, _, by rw [HE.out, H1.out], by rw [H2.out]; exact World.ownsRow_nil _ _ _ _, by rw [H3.out]; exact World.ownsRow_nil _ _ _ _, below_setRow hbel (by omega) _⟩
        · have hbW9 : Below wl.heap.size wl (w4.setCells wl.heap.size 0 (keysC keys0).toList) := (by first | with_reducible exact hbW | with_reducible exact bAlloc hbW _ | with_reducible exact bDrew (bAlloc (Below.refl _ _) _) | (with_reducible refine bSetCells ?_ _ _ hbW; first | omega | (simp; done) | (simp; omega)) | (with_reducible refine bSetCells ?_ _ _ (bAlloc hbW _); first | omega | (simp; done) | (simp; omega)))
          have hK9 : Blk (w4.setCells wl.heap.size 0 (keysC keys0).toList) wl.heap.size (keysC keys0) 25 := hX.filled (by simp only [keysC_size])
          have hX9 : wl.heap.size ≤ wl.heap.size := by first | omega | (have := hb3.size; have := hb4.size; simp at *; omega)
          generalize w4.setCells wl.heap.size 0 (keysC keys0).toList = W9 at *
          obtain ⟨X, hXX⟩ : ∃ X, wl.heap.size = X := ⟨_, rfl⟩
          rw [hXX] at hK9 ⊢
          have hB29 := HB2.out.kept hbW9 (by omega)
          have hr2 := hB29.row
          have hy29 := hB29.lt
          have hbel := bCall' hbW9 HBEL.out
          go_wp2
          have hat := (hB29.setRow (treeC tree0)).at 0 236
          rw [cellsIn_tree] at hat
          have H1 := Lib.hid (show outT t lv jn = tree0 by unfold outT; rw [HE.out]; rfl)
          have H2 := Lib.hid (show outL t lv jn = [] by unfold outL; rw [HE.out]; rfl)
          have H3 := Lib.hid (show outJ t lv jn = [] by unfold outJ; rw [HE.out]; rfl)
          exact bodyPost_ret (v := .tuple #[.agg (treeC tree0), .slice none 0 0, .slice none 0 0, .int .i64 3]) (by simp [results, Tryd.results39, Sem.run_bind, asAddr, loadVar_tree, ldV_tree, hat]) rfl ⟨_, _, by rw [HE.out, H1.out], by rw [H2.out]; exact World.ownsRow_nil _ _ _ _, by rw [H3.out]; exact World.ownsRow_nil _ _ _ _, below_setRow hbel (by omega) _⟩
      · have HROOM := Lib.hid hroom
        clear hroom
        go_region_held3 (fun w' => w'.rangeAt w.heap.size 2 (keysC t.keys).toList ∧ w'.cell? ⟨w.heap.size, 1, none⟩ = some (I t.fresh))
          (first | exact ⟨HB0.out.drew.rangeK, HB0.out.drew.fresh⟩ | exact (treeKF HB0.out hy0 (by first | with_reducible exact hbW | with_reducible exact bAlloc hbW _ | with_reducible exact bDrew (bAlloc (Below.refl _ _) _) | (with_reducible refine bSetCells ?_ _ _ hbW; first | omega | (simp; done) | (simp; omega)) | (with_reducible refine bSetCells ?_ _ _ (bAlloc hbW _); first | omega | (simp; done) | (simp; omega)))) | go_keep)
          (first
            | (go_at_call 64; refine (ref11_Replaced gao (seatsOf t.roster lv) gcap HSO.out HLEN2.out _ (HGAT.out.kept (by first | with_reducible exact hbW | with_reducible exact bAlloc hbW _ | with_reducible exact bDrew (bAlloc (Below.refl _ _) _) | (with_reducible refine bSetCells ?_ _ _ hbW; first | omega | (simp; done) | (simp; omega)) | (with_reducible refine bSetCells ?_ _ _ (bAlloc hbW _); first | omega | (simp; done) | (simp; omega))))).mono ?_; rintro e w3 ⟨rfl, hb3⟩; have hbW := bCall' hb3 (by first | with_reducible exact hbW | with_reducible exact bAlloc hbW _ | with_reducible exact bDrew (bAlloc (Below.refl _ _) _) | (with_reducible refine bSetCells ?_ _ _ hbW; first | omega | (simp; done) | (simp; omega)) | (with_reducible refine bSetCells ?_ _ _ (bAlloc hbW _); first | omega | (simp; done) | (simp; omega))); have hsW := hbW.size; (first | (have hX := hX.kept hb3 hX.lt; have hXt := hX.there (keysC_size _); have hXy := hX.lt) | (have hX := (by with_reducible exact blkNewD hb3); have hXt := hX.there (keysC_size _); have hXy := hX.lt) | (have hX := (by with_reducible exact blkNew hb3); have hXt := hX.there (keysC_size _); have hXy := hX.lt) | skip))
            | (go_at_call 63; (try simp only [Array.toArray_toList]); refine (ref10_Turn_ok t.keys (replP (seatsOf t.roster lv)) t.fresh HKR.out (by omega) (by omega) HKB.out HKS.out HROOM.out _).mono ?_; rintro e w4 ⟨rfl, hb4⟩; have hbW := bCall' hb4 (by first | with_reducible exact hbW | with_reducible exact bAlloc hbW _ | with_reducible exact bDrew (bAlloc (Below.refl _ _) _) | (with_reducible refine bSetCells ?_ _ _ hbW; first | omega | (simp; done) | (simp; omega)) | (with_reducible refine bSetCells ?_ _ _ (bAlloc hbW _); first | omega | (simp; done) | (simp; omega))); have hsW := hbW.size; (first | (have hX := hX.kept hb4 hX.lt; have hXt := hX.there (keysC_size _); have hXy := hX.lt) | (have hX := (by with_reducible exact blkNewD hb4); have hXt := hX.there (keysC_size _); have hXy := hX.lt) | (have hX := (by with_reducible exact blkNew hb4); have hXt := hX.there (keysC_size _); have hXy := hX.lt) | skip)))
        · have hbW9 : Below wl.heap.size wl ((w4.alloc (.cells (keysC keys0) 25)).setCells w4.heap.size 0 (keysC (turnK t.keys (replP (seatsOf t.roster lv)) t.fresh)).toList) := (by first | with_reducible exact hbW | with_reducible exact bAlloc hbW _ | with_reducible exact bDrew (bAlloc (Below.refl _ _) _) | (with_reducible refine bSetCells ?_ _ _ hbW; first | omega | (simp; done) | (simp; omega)) | (with_reducible refine bSetCells ?_ _ _ (bAlloc hbW _); first | omega | (simp; done) | (simp; omega)))
          have hK9 : Blk ((w4.alloc (.cells (keysC keys0) 25)).setCells w4.heap.size 0 (keysC (turnK t.keys (replP (seatsOf t.roster lv)) t.fresh)).toList) w4.heap.size (keysC (turnK t.keys (replP (seatsOf t.roster lv)) t.fresh)) 25 := (Blk.new w4 (keysC keys0) 25).filled (by simp only [keysC_size])
          have hX9 : wl.heap.size ≤ w4.heap.size := by first | omega | (have := hb3.size; have := hb4.size; simp at *; omega)
          generalize (w4.alloc (.cells (keysC keys0) 25)).setCells w4.heap.size 0 (keysC (turnK t.keys (replP (seatsOf t.roster lv)) t.fresh)).toList = W9 at *
          generalize w4.heap.size = X at *
          have hB09 := HB0.out.kept hbW9 (by omega)
          have hB19 := HB1.out.kept hbW9 (by omega)
          have hB29 := HB2.out.kept hbW9 (by omega)
          have hc0 := hB09.cell; have ha0 := hB09.at; have hc1 := hB19.cell; have hy09 := hB09.lt; have hy19 := hB19.lt; have hy29 := hB29.lt
          have hbel := bCall' hbW9 HBEL.out
          have hyK := hK9.lt
          generalize hcc : cntOf (replP (seatsOf t.roster lv)) 21 = cc at *
          have HCC := Lib.hid hcc; have HROOM2 := Lib.hid HROOM.out
          clear hcc
          have HA9 := Lib.hid (HAA.out.kept hbel); have HJ9 := Lib.hid (HJJ.out.kept hbel)
          have hcc0 : (0 : Int) ≤ (cc : Int) := by omega
          have hrm1 : t.fresh + (cc : Int) ≤ 32768 := HROOM2.out
          have hep2 : t.epoch + 1 ≤ 200 := by have := HEP.out; omega
          by_cases hroom2 : t.fresh + (cc : Int) + (jn.length : Int) ≤ 32768
          rotate_left
          · have HE := Lib.hid (err_room (lv := lv) (jn := jn) HR.out HEP.out HFIT.out (by have : cntR t lv = cntOf (replP (seatsOf t.roster lv)) 21 := rfl; rw [this, HCC.out]; omega))
            have hRB : ∀ j, j < 64 → (t.roster j).base < t.fresh + (cc : Int) := fun j hj => by have := (HR.out.eb j hj).1.1; omega
            have HRB := Lib.hid hRB; clear hRB
            go_wp2_with (go_at_call 65; refine (ref09_Move_bad t.roster lv jn (t.epoch + 1) (t.fresh + (cc : Int)) ao bo cap cap2 _ HI1.out HI2.out hl1 hl2 HA9.out HJ9.out HI3.out HI4.out HFIT.out (by omega) hep2 (by omega) (by omega) (by omega) HRB.out).mono ?_; rintro e w5 ⟨rfl, hb5⟩; clear hc0 ha0 hc1; have hbel5 := bCall' hb5 hbel; have hB25 := hB29.kept hb5 hy29; have hr2 := hB25.row; have hy25 := hB25.lt)
            have hat := ((hB25.setRow (treeC tree0)).alloc (.cells (rosterC roster0) 29)).at 0 236
            rw [cellsIn_tree] at hat
            have H1 := Lib.hid (show outT t lv jn = tree0 by unfold outT; rw [HE.out]; rfl)
            have H2 := Lib.hid (show outL t lv jn = [] by unfold outL; rw [HE.out]; rfl)
            have H3 := Lib.hid (show outJ t lv jn = [] by unfold outJ; rw [HE.out]; rfl)
            exact bodyPost_ret (v := .tuple #[.agg (treeC tree0), .slice none 0 0, .slice none 0 0, .int .i64 3]) (by simp [results, Tryd.results39, Sem.run_bind, asAddr, loadVar_tree, ldV_tree, hat]) rfl ⟨_, _, by rw [HE.out, H1.out], by rw [H2.out]; exact World.ownsRow_nil _ _ _ _, by rw [H3.out]; exact World.ownsRow_nil _ _ _ _, by first | exact below_setRow (bAlloc hbel5 _) (by omega) _ | exact bAlloc (below_setRow hbel5 (by omega) _) _⟩
          · have hOK : StepOK t lv jn := ⟨HR.out, by have := HEP.out; omega, HFIT.out, by have : cntR t lv = cntOf (replP (seatsOf t.roster lv)) 21 := rfl; rw [this, HCC.out]; exact hroom2⟩
            have HE := Lib.hid (ok_step hOK)
            have HT : Hid (outT t lv jn = ⟨t.epoch + 1, t.fresh + (cc : Int) + (jn.length : Int), turnK t.keys (replP (seatsOf t.roster lv)) t.fresh, moveR t.roster lv jn (t.epoch + 1) (t.fresh + (cc : Int))⟩) := Lib.hid (by
              unfold outT; rw [HE.out, if_pos rfl]; unfold nextT cntR; rw [HCC.out])
            have H2 := Lib.hid (show outL t lv jn = seatsOf t.roster lv by unfold outL; rw [HE.out, if_pos rfl])
            have H3 := Lib.hid (show outJ t lv jn = moveJ t.roster lv jn by unfold outJ; rw [HE.out, if_pos rfl])
            have hRB : ∀ j, j < 64 → (t.roster j).base < t.fresh + (cc : Int) := fun j hj => by have := (HR.out.eb j hj).1.1; omega
            have HRB := Lib.hid hRB; clear hRB hOK
            go_wp2_with (go_at_call 65; refine (ref09_Move t.roster lv jn (t.epoch + 1) (t.fresh + (cc : Int)) ao bo cap cap2 _ HI1.out HI2.out hl1 hl2 HA9.out HJ9.out HI3.out HI4.out HFIT.out (by omega) hep2 (by omega) (by omega) HRB.out).mono ?_; rintro e w5 ⟨v1, v2, rfl, ho1, ho2, hb5⟩; clear hc0 ha0 hc1; have hbel5 := bCall' hb5 hbel; have hB25 := hB29.kept hb5 hy29; have hr2 := hB25.row; have hy25 := hB25.lt; have hB05 := hB09.kept hb5 hy09; have hc5 := hB05.cell; have hy05 := hB05.lt; have hK5 := hK9.kept hb5 hyK; have ha5 := hK5.at; have hyK5 := hK5.lt; have ho3 : w5.ownsRow W9.heap.size 45 2 v2 jn.length (seatC (moveJ t.roster lv jn)) := (by have h := ho2; unfold OwnSeats at h; rwa [joins_len] at h); obtain ⟨ao2, cap3, rfl⟩ := ownV ho3; have HO1 := Lib.hid ho1; have HO2 := Lib.hid ho2; clear ho1 ho2 ho3)
            have hat := ((hB25.setRow (treeC ⟨t.epoch + 1, t.fresh + (cc : Int) + (jn.length : Int), turnK t.keys (replP (seatsOf t.roster lv)) t.fresh, moveR t.roster lv jn (t.epoch + 1) (t.fresh + (cc : Int))⟩)).alloc (.cells (rosterC (moveR t.roster lv jn (t.epoch + 1) (t.fresh + (cc : Int)))) 29)).at 0 236
            rw [cellsIn_tree] at hat
            have hz9 : w.heap.size + 3 ≤ W9.heap.size := by omega
            exact bodyPost_ret (v := .tuple #[.agg (treeC ⟨t.epoch + 1, t.fresh + (cc : Int) + (jn.length : Int), turnK t.keys (replP (seatsOf t.roster lv)) t.fresh, moveR t.roster lv jn (t.epoch + 1) (t.fresh + (cc : Int))⟩), v1, .slice ao2 jn.length cap3, .int .i64 0]) (by simp [results, Tryd.results39, Sem.run_bind, asAddr, loadVar_tree, ldV_tree, hat]) rfl ⟨_, _, by rw [HE.out, HT.out], by rw [H2.out]; first | exact ownBase (ownRow (HO1.out.alloc _) (by omega) _) (by omega) | exact ownBase ((ownRow HO1.out (by omega) _).alloc _) (by omega), by rw [H3.out]; first | exact ownBase (ownRow (HO2.out.alloc _) (by omega) _) (by omega) | exact ownBase ((ownRow HO2.out (by omega) _).alloc _) (by omega), by first | exact below_setRow (bAlloc hbel5 _) (by omega) _ | exact bAlloc (below_setRow hbel5 (by omega) _) _⟩
        · have hbW9 : Below wl.heap.size wl (w4.setCells w3.heap.size 0 (keysC (turnK t.keys (replP (seatsOf t.roster lv)) t.fresh)).toList) := (by first | with_reducible exact hbW | with_reducible exact bAlloc hbW _ | with_reducible exact bDrew (bAlloc (Below.refl _ _) _) | (with_reducible refine bSetCells ?_ _ _ hbW; first | omega | (simp; done) | (simp; omega)) | (with_reducible refine bSetCells ?_ _ _ (bAlloc hbW _); first | omega | (simp; done) | (simp; omega)))
          have hK9 : Blk (w4.setCells w3.heap.size 0 (keysC (turnK t.keys (replP (seatsOf t.roster lv)) t.fresh)).toList) w3.heap.size (keysC (turnK t.keys (replP (seatsOf t.roster lv)) t.fresh)) 25 := hX.filled (by simp only [keysC_size])
          have hX9 : wl.heap.size ≤ w3.heap.size := by first | omega | (have := hb3.size; have := hb4.size; simp at *; omega)
          generalize w4.setCells w3.heap.size 0 (keysC (turnK t.keys (replP (seatsOf t.roster lv)) t.fresh)).toList = W9 at *
          generalize w3.heap.size = X at *
          have hB09 := HB0.out.kept hbW9 (by omega)
          have hB19 := HB1.out.kept hbW9 (by omega)
          have hB29 := HB2.out.kept hbW9 (by omega)
          have hc0 := hB09.cell; have ha0 := hB09.at; have hc1 := hB19.cell; have hy09 := hB09.lt; have hy19 := hB19.lt; have hy29 := hB29.lt
          have hbel := bCall' hbW9 HBEL.out
          have hyK := hK9.lt
          generalize hcc : cntOf (replP (seatsOf t.roster lv)) 21 = cc at *
          have HCC := Lib.hid hcc; have HROOM2 := Lib.hid HROOM.out
          clear hcc
          have HA9 := Lib.hid (HAA.out.kept hbel); have HJ9 := Lib.hid (HJJ.out.kept hbel)
          have hcc0 : (0 : Int) ≤ (cc : Int) := by omega
          have hrm1 : t.fresh + (cc : Int) ≤ 32768 := HROOM2.out
          have hep2 : t.epoch + 1 ≤ 200 := by have := HEP.out; omega
          by_cases hroom2 : t.fresh + (cc : Int) + (jn.length : Int) ≤ 32768
          rotate_left
          · have HE := Lib.hid (err_room (lv := lv) (jn := jn) HR.out HEP.out HFIT.out (by have : cntR t lv = cntOf (replP (seatsOf t.roster lv)) 21 := rfl; rw [this, HCC.out]; omega))
            have hRB : ∀ j, j < 64 → (t.roster j).base < t.fresh + (cc : Int) := fun j hj => by have := (HR.out.eb j hj).1.1; omega
            have HRB := Lib.hid hRB; clear hRB
            go_wp2_with (go_at_call 65; refine (ref09_Move_bad t.roster lv jn (t.epoch + 1) (t.fresh + (cc : Int)) ao bo cap cap2 _ HI1.out HI2.out hl1 hl2 HA9.out HJ9.out HI3.out HI4.out HFIT.out (by omega) hep2 (by omega) (by omega) (by omega) HRB.out).mono ?_; rintro e w5 ⟨rfl, hb5⟩; clear hc0 ha0 hc1; have hbel5 := bCall' hb5 hbel; have hB25 := hB29.kept hb5 hy29; have hr2 := hB25.row; have hy25 := hB25.lt)
            have hat := ((hB25.setRow (treeC tree0)).alloc (.cells (rosterC roster0) 29)).at 0 236
            rw [cellsIn_tree] at hat
            have H1 := Lib.hid (show outT t lv jn = tree0 by unfold outT; rw [HE.out]; rfl)
            have H2 := Lib.hid (show outL t lv jn = [] by unfold outL; rw [HE.out]; rfl)
            have H3 := Lib.hid (show outJ t lv jn = [] by unfold outJ; rw [HE.out]; rfl)
            exact bodyPost_ret (v := .tuple #[.agg (treeC tree0), .slice none 0 0, .slice none 0 0, .int .i64 3]) (by simp [results, Tryd.results39, Sem.run_bind, asAddr, loadVar_tree, ldV_tree, hat]) rfl ⟨_, _, by rw [HE.out, H1.out], by rw [H2.out]; exact World.ownsRow_nil _ _ _ _, by rw [H3.out]; exact World.ownsRow_nil _ _ _ _, by first | exact below_setRow (bAlloc hbel5 _) (by omega) _ | exact bAlloc (below_setRow hbel5 (by omega) _) _⟩
          · have hOK : StepOK t lv jn := ⟨HR.out, by have := HEP.out; omega, HFIT.out, by have : cntR t lv = cntOf (replP (seatsOf t.roster lv)) 21 := rfl; rw [this, HCC.out]; exact hroom2⟩
            have HE := Lib.hid (ok_step hOK)
            have HT : Hid (outT t lv jn = ⟨t.epoch + 1, t.fresh + (cc : Int) + (jn.length : Int), turnK t.keys (replP (seatsOf t.roster lv)) t.fresh, moveR t.roster lv jn (t.epoch + 1) (t.fresh + (cc : Int))⟩) := Lib.hid (by
              unfold outT; rw [HE.out, if_pos rfl]; unfold nextT cntR; rw [HCC.out])
            have H2 := Lib.hid (show outL t lv jn = seatsOf t.roster lv by unfold outL; rw [HE.out, if_pos rfl])
            have H3 := Lib.hid (show outJ t lv jn = moveJ t.roster lv jn by unfold outJ; rw [HE.out, if_pos rfl])
            have hRB : ∀ j, j < 64 → (t.roster j).base < t.fresh + (cc : Int) := fun j hj => by have := (HR.out.eb j hj).1.1; omega
            have HRB := Lib.hid hRB; clear hRB hOK
            go_wp2_with (go_at_call 65; refine (ref09_Move t.roster lv jn (t.epoch + 1) (t.fresh + (cc : Int)) ao bo cap cap2 _ HI1.out HI2.out hl1 hl2 HA9.out HJ9.out HI3.out HI4.out HFIT.out (by omega) hep2 (by omega) (by omega) HRB.out).mono ?_; rintro e w5 ⟨v1, v2, rfl, ho1, ho2, hb5⟩; clear hc0 ha0 hc1; have hbel5 := bCall' hb5 hbel; have hB25 := hB29.kept hb5 hy29; have hr2 := hB25.row; have hy25 := hB25.lt; have hB05 := hB09.kept hb5 hy09; have hc5 := hB05.cell; have hy05 := hB05.lt; have hK5 := hK9.kept hb5 hyK; have ha5 := hK5.at; have hyK5 := hK5.lt; have ho3 : w5.ownsRow W9.heap.size 45 2 v2 jn.length (seatC (moveJ t.roster lv jn)) := (by have h := ho2; unfold OwnSeats at h; rwa [joins_len] at h); obtain ⟨ao2, cap3, rfl⟩ := ownV ho3; have HO1 := Lib.hid ho1; have HO2 := Lib.hid ho2; clear ho1 ho2 ho3)
            have hat := ((hB25.setRow (treeC ⟨t.epoch + 1, t.fresh + (cc : Int) + (jn.length : Int), turnK t.keys (replP (seatsOf t.roster lv)) t.fresh, moveR t.roster lv jn (t.epoch + 1) (t.fresh + (cc : Int))⟩)).alloc (.cells (rosterC (moveR t.roster lv jn (t.epoch + 1) (t.fresh + (cc : Int)))) 29)).at 0 236
            rw [cellsIn_tree] at hat
            have hz9 : w.heap.size + 3 ≤ W9.heap.size := by omega
            exact bodyPost_ret (v := .tuple #[.agg (treeC ⟨t.epoch + 1, t.fresh + (cc : Int) + (jn.length : Int), turnK t.keys (replP (seatsOf t.roster lv)) t.fresh, moveR t.roster lv jn (t.epoch + 1) (t.fresh + (cc : Int))⟩), v1, .slice ao2 jn.length cap3, .int .i64 0]) (by simp [results, Tryd.results39, Sem.run_bind, asAddr, loadVar_tree, ldV_tree, hat]) rfl ⟨_, _, by rw [HE.out, HT.out], by rw [H2.out]; first | exact ownBase (ownRow (HO1.out.alloc _) (by omega) _) (by omega) | exact ownBase ((ownRow HO1.out (by omega) _).alloc _) (by omega), by rw [H3.out]; first | exact ownBase (ownRow (HO2.out.alloc _) (by omega) _) (by omega) | exact ownBase ((ownRow HO2.out (by omega) _).alloc _) (by omega), by first | exact below_setRow (bAlloc hbel5 _) (by omega) _ | exact bAlloc (below_setRow hbel5 (by omega) _) _⟩
        · have hbW9 : Below wl.heap.size wl (w4.setCells wl.heap.size 0 (keysC (turnK t.keys (replP (seatsOf t.roster lv)) t.fresh)).toList) := (by first | with_reducible exact hbW | with_reducible exact bAlloc hbW _ | with_reducible exact bDrew (bAlloc (Below.refl _ _) _) | (with_reducible refine bSetCells ?_ _ _ hbW; first | omega | (simp; done) | (simp; omega)) | (with_reducible refine bSetCells ?_ _ _ (bAlloc hbW _); first | omega | (simp; done) | (simp; omega)))
          have hK9 : Blk (w4.setCells wl.heap.size 0 (keysC (turnK t.keys (replP (seatsOf t.roster lv)) t.fresh)).toList) wl.heap.size (keysC (turnK t.keys (replP (seatsOf t.roster lv)) t.fresh)) 25 := hX.filled (by simp only [keysC_size])
          have hX9 : wl.heap.size ≤ wl.heap.size := by first | omega | (have := hb3.size; have := hb4.size; simp at *; omega)
          generalize w4.setCells wl.heap.size 0 (keysC (turnK t.keys (replP (seatsOf t.roster lv)) t.fresh)).toList = W9 at *
          obtain ⟨X, hXX⟩ : ∃ X, wl.heap.size = X := ⟨_, rfl⟩
          rw [hXX] at hK9 ⊢
          have hB09 := HB0.out.kept hbW9 (by omega)
          have hB19 := HB1.out.kept hbW9 (by omega)
          have hB29 := HB2.out.kept hbW9 (by omega)
          have hc0 := hB09.cell; have ha0 := hB09.at; have hc1 := hB19.cell; have hy09 := hB09.lt; have hy19 := hB19.lt; have hy29 := hB29.lt
          have hbel := bCall' hbW9 HBEL.out
          have hyK := hK9.lt
          generalize hcc : cntOf (replP (seatsOf t.roster lv)) 21 = cc at *
          have HCC := Lib.hid hcc; have HROOM2 := Lib.hid HROOM.out
          clear hcc
          have HA9 := Lib.hid (HAA.out.kept hbel); have HJ9 := Lib.hid (HJJ.out.kept hbel)
          have hcc0 : (0 : Int) ≤ (cc : Int) := by omega
          have hrm1 : t.fresh + (cc : Int) ≤ 32768 := HROOM2.out
          have hep2 : t.epoch + 1 ≤ 200 := by have := HEP.out; omega
          by_cases hroom2 : t.fresh + (cc : Int) + (jn.length : Int) ≤ 32768
          rotate_left
          · have HE := Lib.hid (err_room (lv := lv) (jn := jn) HR.out HEP.out HFIT.out (by have : cntR t lv = cntOf (replP (seatsOf t.roster lv)) 21 := rfl; rw [this, HCC.out]; omega))
            have hRB : ∀ j, j < 64 → (t.roster j).base < t.fresh + (cc : Int) := fun j hj => by have := (HR.out.eb j hj).1.1; omega
            have HRB := Lib.hid hRB; clear hRB
            go_wp2_with (go_at_call 65; refine (ref09_Move_bad t.roster lv jn (t.epoch + 1) (t.fresh + (cc : Int)) ao bo cap cap2 _ HI1.out HI2.out hl1 hl2 HA9.out HJ9.out HI3.out HI4.out HFIT.out (by omega) hep2 (by omega) (by omega) (by omega) HRB.out).mono ?_; rintro e w5 ⟨rfl, hb5⟩; clear hc0 ha0 hc1; have hbel5 := bCall' hb5 hbel; have hB25 := hB29.kept hb5 hy29; have hr2 := hB25.row; have hy25 := hB25.lt)
            have hat := ((hB25.setRow (treeC tree0)).alloc (.cells (rosterC roster0) 29)).at 0 236
            rw [cellsIn_tree] at hat
            have H1 := Lib.hid (show outT t lv jn = tree0 by unfold outT; rw [HE.out]; rfl)
            have H2 := Lib.hid (show outL t lv jn = [] by unfold outL; rw [HE.out]; rfl)
            have H3 := Lib.hid (show outJ t lv jn = [] by unfold outJ; rw [HE.out]; rfl)
            exact bodyPost_ret (v := .tuple #[.agg (treeC tree0), .slice none 0 0, .slice none 0 0, .int .i64 3]) (by simp [results, Tryd.results39, Sem.run_bind, asAddr, loadVar_tree, ldV_tree, hat]) rfl ⟨_, _, by rw [HE.out, H1.out], by rw [H2.out]; exact World.ownsRow_nil _ _ _ _, by rw [H3.out]; exact World.ownsRow_nil _ _ _ _, by first | exact below_setRow (bAlloc hbel5 _) (by omega) _ | exact bAlloc (below_setRow hbel5 (by omega) _) _⟩
          · have hOK : StepOK t lv jn := ⟨HR.out, by have := HEP.out; omega, HFIT.out, by have : cntR t lv = cntOf (replP (seatsOf t.roster lv)) 21 := rfl; rw [this, HCC.out]; exact hroom2⟩
            have HE := Lib.hid (ok_step hOK)
            have HT : Hid (outT t lv jn = ⟨t.epoch + 1, t.fresh + (cc : Int) + (jn.length : Int), turnK t.keys (replP (seatsOf t.roster lv)) t.fresh, moveR t.roster lv jn (t.epoch + 1) (t.fresh + (cc : Int))⟩) := Lib.hid (by
              unfold outT; rw [HE.out, if_pos rfl]; unfold nextT cntR; rw [HCC.out])
            have H2 := Lib.hid (show outL t lv jn = seatsOf t.roster lv by unfold outL; rw [HE.out, if_pos rfl])
            have H3 := Lib.hid (show outJ t lv jn = moveJ t.roster lv jn by unfold outJ; rw [HE.out, if_pos rfl])
            have hRB : ∀ j, j < 64 → (t.roster j).base < t.fresh + (cc : Int) := fun j hj => by have := (HR.out.eb j hj).1.1; omega
            have HRB := Lib.hid hRB; clear hRB hOK
            go_wp2_with (go_at_call 65; refine (ref09_Move t.roster lv jn (t.epoch + 1) (t.fresh + (cc : Int)) ao bo cap cap2 _ HI1.out HI2.out hl1 hl2 HA9.out HJ9.out HI3.out HI4.out HFIT.out (by omega) hep2 (by omega) (by omega) HRB.out).mono ?_; rintro e w5 ⟨v1, v2, rfl, ho1, ho2, hb5⟩; clear hc0 ha0 hc1; have hbel5 := bCall' hb5 hbel; have hB25 := hB29.kept hb5 hy29; have hr2 := hB25.row; have hy25 := hB25.lt; have hB05 := hB09.kept hb5 hy09; have hc5 := hB05.cell; have hy05 := hB05.lt; have hK5 := hK9.kept hb5 hyK; have ha5 := hK5.at; have hyK5 := hK5.lt; have ho3 : w5.ownsRow W9.heap.size 45 2 v2 jn.length (seatC (moveJ t.roster lv jn)) := (by have h := ho2; unfold OwnSeats at h; rwa [joins_len] at h); obtain ⟨ao2, cap3, rfl⟩ := ownV ho3; have HO1 := Lib.hid ho1; have HO2 := Lib.hid ho2; clear ho1 ho2 ho3)
            have hat := ((hB25.setRow (treeC ⟨t.epoch + 1, t.fresh + (cc : Int) + (jn.length : Int), turnK t.keys (replP (seatsOf t.roster lv)) t.fresh, moveR t.roster lv jn (t.epoch + 1) (t.fresh + (cc : Int))⟩)).alloc (.cells (rosterC (moveR t.roster lv jn (t.epoch + 1) (t.fresh + (cc : Int)))) 29)).at 0 236
            rw [cellsIn_tree] at hat
            have hz9 : w.heap.size + 3 ≤ W9.heap.size := by omega
            exact bodyPost_ret (v := .tuple #[.agg (treeC ⟨t.epoch + 1, t.fresh + (cc : Int) + (jn.length : Int), turnK t.keys (replP (seatsOf t.roster lv)) t.fresh, moveR t.roster lv jn (t.epoch + 1) (t.fresh + (cc : Int))⟩), v1, .slice ao2 jn.length cap3, .int .i64 0]) (by simp [results, Tryd.results39, Sem.run_bind, asAddr, loadVar_tree, ldV_tree, hat]) rfl ⟨_, _, by rw [HE.out, HT.out], by rw [H2.out]; first | exact ownBase (ownRow (HO1.out.alloc _) (by omega) _) (by omega) | exact ownBase ((ownRow HO1.out (by omega) _).alloc _) (by omega), by rw [H3.out]; first | exact ownBase (ownRow (HO2.out.alloc _) (by omega) _) (by omega) | exact ownBase ((ownRow HO2.out (by omega) _).alloc _) (by omega), by first | exact below_setRow (bAlloc hbel5 _) (by omega) _ | exact bAlloc (below_setRow hbel5 (by omega) _) _⟩
end Go.Proofs.YtodgcmakdndbfaaDoor
/-
  Laws of the walk: a row stored leaves the other blocks.
-/
namespace Go.Proofs.YtodgcmakdndbfaaDoor
open Go.RowKit Cot
section
variable (w : World) (b : Nat) (cs : Array Value)
theorem setRow_block {i : Nat} (h : i ≠ b) : (w.setRow b cs).heap[i]? = w.heap[i]? := by
  simp only [World.setRow, Array.getElem?_modify]; rw [if_neg (Ne.symm h)]
@[go_sem] theorem setRow_cell_other (i o : Nat) (h : i ≠ b) : (w.setRow b cs).cell? ⟨i, o, none⟩ = w.cell? ⟨i, o, none⟩ := World.cell?_of_block (setRow_block w b cs h)
@[go_sem] theorem setRow_frozen_other (i o : Nat) (h : i ≠ b) : (w.setRow b cs).frozen? ⟨i, o, none⟩ = w.frozen? ⟨i, o, none⟩ := World.frozen?_of_block (setRow_block w b cs h)
@[go_sem] theorem setRow_cellsAt_other (i o n : Nat) (h : i ≠ b) : cellsAt (w.setRow b cs) ⟨i, o, none⟩ n = cellsAt w ⟨i, o, none⟩ n := by unfold cellsAt; rw [setRow_block w b cs h]
@[go_sem] theorem setRow_rowOf_other (i n : Nat) (h : i ≠ b) : rowOf (w.setRow b cs) i n = rowOf w i n := by unfold rowOf; rw [setRow_block w b cs h]
@[go_sem] theorem cellsAt_setCell_other (i o n : Nat) (a : Addr) (v : Value) (h : i ≠ a.block) : cellsAt (w.setCell a v) ⟨i, o, none⟩ n = cellsAt w ⟨i, o, none⟩ n := by unfold cellsAt; rw [Below.heap_setCell w a v i h]
@[go_sem] theorem rowOf_setCell_other (i n : Nat) (a : Addr) (v : Value) (h : i ≠ a.block) : rowOf (w.setCell a v) i n = rowOf w i n := by unfold rowOf; rw [Below.heap_setCell w a v i h]
end
theorem Blk.setRow_other {w : World} {b i : Nat} {c : Array Value} {t : TypeId} (h : Blk w i c t) (hne : i ≠ b) (cs : Array Value) : Blk (w.setRow b cs) i c t := (setRow_block w b cs hne).trans h
theorem ld_tree {w : World} {b : Nat} {t : Tree} {ty : TypeId} (h : Blk w b (treeC t) ty) : (ldV 31 ⟨b, 0, none⟩).run Tryd.prog w = .ok (.agg (treeC t)) w := by rw [ldV_tree, h.at, cellsIn_tree]
theorem ld_rekey {w : World} {b : Nat} {a0 a1 a2 a3 : Value} {ty : TypeId} (h : Blk w b #[a0, a1, a2, a3] ty) : (loadVar 39 ⟨b, 0, none⟩).run Tryd.prog w = .ok (.agg #[a0, a1, a2, a3]) w := by
  have hc : cellsAt w ⟨b, 0, none⟩ 4 = some #[a0, a1, a2, a3] := by rw [h.at]; rfl
  rw [run_loadVar_big 39 4 _ Tryd.underlying39 rfl (by kernel_rfl) w b 0 (by rw [hc]; rfl), hc]
  rfl
end Go.Proofs.YtodgcmakdndbfaaDoor
