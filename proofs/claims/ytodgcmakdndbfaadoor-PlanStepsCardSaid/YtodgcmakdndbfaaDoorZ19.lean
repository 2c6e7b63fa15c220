/-
  Parts of a proof: Step2. Merged by program.
-/
import Derived.Test.YtodgcmakdndbfaaDoorZ18
/-
  Contracts: plan.step. Printed by wip/gen/gk.py.
-/
namespace Go.Proofs.YtodgcmakdndbfaaDoor
open Go.RowKit Cot
set_option linter.unusedSimpArgs false
set_option linter.unusedVariables false
theorem turn_of (k : Nat → Key) (p : Nat → Bool) (fresh : Int) (cc : Nat) (hc : cntOf p 21 = cc) (hk : RightKeys k) (hw : ∀ j, I64 (k j).base) (hf : 1 ≤ fresh) (hs : fresh + (cc : Int) ≤ 32768) (hb : ∀ j, j < 21 → (k j).base < fresh) (hst : ∀ j, j < 21 → (k j).step ≤ 254) (w : World) :
    Calls Tryd.prog 48 #[.agg (keysC k), .int .u32 (bitsOf p 21), .int .i64 fresh] w fun e w' => e = .returned (.tuple #[.agg (keysC (turnK k p fresh)), .int .i64 (fresh + (cc : Int)), .int .i64 0]) ∧ Below w.heap.size w w' := by
  subst hc
  exact ratchet_Turn k p fresh hk hw hf hs hb hst w
theorem treeSd {W : World} {Hb b : Nat} {t : Tree} {ty : TypeId} (h : Blk W Hb (treeC t) ty) (hne : Hb ≠ b) (cs : Array Value) : cellsAt (W.setRow b cs).drew ⟨Hb, 0, none⟩ 236 = some (treeC t) ∧ (W.setRow b cs).drew.cell? ⟨Hb, 0, none⟩ = some (I t.epoch) :=
  treeS h (Below.refl _ _) hne cs
theorem treeS3d {W : World} {Hb b c : Nat} {t : Tree} {ty : TypeId} (h : Blk W Hb (treeC t) ty) (hne : Hb ≠ b) (cs : Array Value) (hnc : Hb ≠ c) (v0 v1 v2 v3 : Value) : cellsAt (((((W.setRow b cs).setCell ⟨c, 0, none⟩ v0).setCell ⟨c, 1, none⟩ v1).setCell ⟨c, 2, none⟩ v2).setCell ⟨c, 3, none⟩ v3).drew ⟨Hb, 0, none⟩ 236 = some (treeC t) ∧ (((((W.setRow b cs).setCell ⟨c, 0, none⟩ v0).setCell ⟨c, 1, none⟩ v1).setCell ⟨c, 2, none⟩ v2).setCell ⟨c, 3, none⟩ v3).drew.cell? ⟨Hb, 0, none⟩ = some (I t.epoch) := by
  have k := (((((h.setRow_other hne cs).set_other (a := ⟨c, 0, none⟩) hnc v0).set_other (a := ⟨c, 1, none⟩) hnc v1).set_other (a := ⟨c, 2, none⟩) hnc v2).set_other (a := ⟨c, 3, none⟩) hnc v3).drew
  exact ⟨by rw [k.at, cellsIn_tree], by rw [k.cell, treeC_get0]⟩
/-- What a call's two results hold behind the last stores. -/
theorem fin_two {W w : World} {b c X : Nat} {T : Tree} {d : Array Value} {e : Array Value} {ty ty2 : TypeId} (v0 v1 v2 v3 : Value) (hB : Blk W b d ty) (hC : Blk W c e ty2) (he : e.size = 4) (hbc : b ≠ c) (hw : w.heap.size ≤ b) (hw2 : w.heap.size ≤ c) (hb : Below w.heap.size w W) :
    ∃ W', W' = (((((W.setRow b (treeC T)).setCell ⟨c, 0, none⟩ v0).setCell ⟨c, 1, none⟩ v1).setCell ⟨c, 2, none⟩ v2).setCell ⟨c, 3, none⟩ v3) ∧ Blk W' b (treeC T) ty ∧ Blk W' c #[v0, v1, v2, v3] ty2 ∧ Below w.heap.size w W' ∧
    (∀ (el : TypeId) (sz : Nat) (v : Value) (n : Nat) (xs : List Value) (base : Nat), W.ownsRow base el sz v n xs → b < base → c < base → W'.ownsRow base el sz v n xs) := by
  refine ⟨_, rfl, ?_, ?_, ?_, ?_⟩
  · exact (((((hB.setRow (treeC T)).set_other (a := ⟨c, 0, none⟩) hbc v0).set_other (a := ⟨c, 1, none⟩) hbc v1).set_other (a := ⟨c, 2, none⟩) hbc v2).set_other (a := ⟨c, 3, none⟩) hbc v3)
  · have h := ((((hC.setRow_other (Ne.symm hbc) (treeC T)).set 0 v0).set 1 v1).set 2 v2).set 3 v3
    refine h.cast ?_
    obtain ⟨l⟩ := e
    match l, he with
    | [a0, a1, a2, a3], _ => rfl
  · exact bSet (bSet (bSet (bSet (below_setRow hb hw (treeC T)) (p := ⟨c, 0, none⟩) hw2 v0) (p := ⟨c, 1, none⟩) hw2 v1) (p := ⟨c, 2, none⟩) hw2 v2) (p := ⟨c, 3, none⟩) hw2 v3
  · intro el sz v n xs base h h1 h2
    exact ownSet (ownSet (ownSet (ownSet (ownRow h h1 (treeC T)) (a := ⟨c, 0, none⟩) h2 v0) (a := ⟨c, 1, none⟩) h2 v1) (a := ⟨c, 2, none⟩) h2 v2) (a := ⟨c, 3, none⟩) h2 v3
theorem ones_of (p : Nat → Bool) (cc : Nat) (h : cntOf p 21 = cc) (w : World) : Calls Tryd.prog 47 #[.int .u32 (bitsOf p 21)] w fun e w' => e = .returned (.int .i64 (cc : Int)) ∧ Below w.heap.size w w' := by
  refine (bits_OnesCount32 (bitsOf p 21) (Nat.lt_trans (bitsOf_lt _ 21) (by decide)) w).mono ?_
  rintro e w' ⟨rfl, hb⟩
  exact ⟨by rw [popN32_21, popN_bitsOf, h], hb⟩
set_option maxRecDepth 100000 in
set_option maxHeartbeats 3000000 in
theorem plan_step_room (t : Tree) (lv jn : List Int) (ao bo : Option Addr) (cap cap2 : Nat) (w : World) (hl1 : lv.length ≤ 35184372088832) (hl2 : jn.length ≤ 35184372088832) (hA : IntsAt w ao lv) (hJ : IntsAt w bo jn) (hi1 : ∀ j, I64 (t.roster j).base) (htb : ∀ j, I64 (t.keys j).base) (hi2 : ∀ j, I64 (t.roster j).who) (hi3 : ∀ x, x ∈ lv → I64 x) (hi4 : ∀ x, x ∈ jn → I64 x) (hR : RightTree t) (hep : t.epoch ≠ 200) (hfit : fitsS t.roster lv jn = 0) (hroom : 32768 < t.fresh + (cntR t lv : Nat) + (jn.length : Nat)) :
    Calls Tryd.prog 27 #[.agg (treeC t), .agg #[.slice ao lv.length cap, .slice bo jn.length cap2]] w fun e w' => e = .returned (.tuple #[.agg (treeC tree0), .agg #[I 0, .slice none 0 0, .slice none 0 0, .slice none 0 0], .int .i64 (errI t lv jn)]) ∧ Below w.heap.size w w' := by
  have HAA := Lib.hid hA; have HJJ := Lib.hid hJ
  have hbs : Below w.heap.size w ((((w.alloc (.cells (treeC t) 31)).alloc (.cells #[.slice ao lv.length cap, .slice bo jn.length cap2] 34)).alloc (.cells (treeC tree0) 31)).alloc (.cells #[I 0, .slice none 0 0, .slice none 0 0, .slice none 0 0] 39)) := bAlloc (bAlloc (bAlloc (bAlloc (Below.refl _ _) _) _) _) _
  have k0 : Blk ((((w.alloc (.cells (treeC t) 31)).alloc (.cells #[.slice ao lv.length cap, .slice bo jn.length cap2] 34)).alloc (.cells (treeC tree0) 31)).alloc (.cells #[I 0, .slice none 0 0, .slice none 0 0, .slice none 0 0] 39)) w.heap.size (treeC t) 31 := (((Blk.new w _ _).alloc _).alloc _).alloc _
  have k1 : Blk ((((w.alloc (.cells (treeC t) 31)).alloc (.cells #[.slice ao lv.length cap, .slice bo jn.length cap2] 34)).alloc (.cells (treeC tree0) 31)).alloc (.cells #[I 0, .slice none 0 0, .slice none 0 0, .slice none 0 0] 39)) (w.heap.size + 1) #[.slice ao lv.length cap, .slice bo jn.length cap2] 34 := by
    have h := ((Blk.new (w.alloc (.cells (treeC t) 31)) #[.slice ao lv.length cap, .slice bo jn.length cap2] 34).alloc (.cells (treeC tree0) 31)).alloc (.cells #[I 0, .slice none 0 0, .slice none 0 0, .slice none 0 0] 39); rw [World.size_alloc] at h; exact h
  have k2 : Blk ((((w.alloc (.cells (treeC t) 31)).alloc (.cells #[.slice ao lv.length cap, .slice bo jn.length cap2] 34)).alloc (.cells (treeC tree0) 31)).alloc (.cells #[I 0, .slice none 0 0, .slice none 0 0, .slice none 0 0] 39)) (w.heap.size + 2) (treeC tree0) 31 := by
    have h := (Blk.new ((w.alloc (.cells (treeC t) 31)).alloc (.cells #[.slice ao lv.length cap, .slice bo jn.length cap2] 34)) (treeC tree0) 31).alloc (.cells #[I 0, .slice none 0 0, .slice none 0 0, .slice none 0 0] 39); simp only [World.size_alloc] at h; exact h
  have k3 : Blk ((((w.alloc (.cells (treeC t) 31)).alloc (.cells #[.slice ao lv.length cap, .slice bo jn.length cap2] 34)).alloc (.cells (treeC tree0) 31)).alloc (.cells #[I 0, .slice none 0 0, .slice none 0 0, .slice none 0 0] 39)) (w.heap.size + 3) #[I 0, .slice none 0 0, .slice none 0 0, .slice none 0 0] 39 := by
    have h := Blk.new (((w.alloc (.cells (treeC t) 31)).alloc (.cells #[.slice ao lv.length cap, .slice bo jn.length cap2] 34)).alloc (.cells (treeC tree0) 31)) #[I 0, .slice none 0 0, .slice none 0 0, .slice none 0 0] 39; simp only [World.size_alloc] at h; exact h
  have HBS := Lib.hid hbs; have K0 := Lib.hid k0; have K1 := Lib.hid k1; have K2 := Lib.hid k2; have K3 := Lib.hid k3
  have HA4 := Lib.hid (hA.kept hbs); have HJ4 := Lib.hid (hJ.kept hbs)
  have HI1 := Lib.hid hi1; have HI2 := Lib.hid hi2; have HI3 := Lib.hid hi3; have HI4 := Lib.hid hi4
  clear hbs k0 k1 k2 k3 hA hJ hi1 hi2 hi3 hi4
  have HTB := Lib.hid htb; clear htb
  have hck := checkTree_yes hR
  have hep' : (t.epoch == 200) = false := by simpa using hep
  have hfit' : (fitsS t.roster lv jn != 0) = false := by simpa using hfit
  have hfitz := hfit
  have F := fits_ok hfit
  have HSL := Lib.hid (lv_len F); have HJL := Lib.hid (jn_len F); have HSO := Lib.hid (seats_ok F); have HJO := Lib.hid (joins_ok F)
  have HR := Lib.hid hR; have HFIT := Lib.hid hfit; have HEP := Lib.hid hep
  have he0 := hR.epoch0; have he1 := hR.epoch1; have hf0 := hR.fresh0; have hf1 := hR.fresh1
  clear hR hfit hep F
  have HE := Lib.hid (err_room (lv := lv) (jn := jn) HR.out HEP.out HFIT.out hroom)
  go_enter Tryd.func27, Tryd.ntmps27
  go_wp2_with (first | (go_at_call 44; refine (keytree_Check t HTB.out HI1.out HI2.out _).mono ?_; rintro e w1 ⟨rfl, hb⟩; simp only [hck]; have hB0 := K0.out.kept hb (by first | omega | (simp; done) | (simp; omega)); have hB1 := K1.out.kept hb (by first | omega | (simp; done) | (simp; omega)); have hB2 := K2.out.kept hb (by first | omega | (simp; done) | (simp; omega)); have hB3 := K3.out.kept hb (by first | omega | (simp; done) | (simp; omega)); have hbel := bCall' hb HBS.out; have hc0 := hB0.cell; have ha0 := hB0.at; have hc1 := hB1.cell; have hy0 := hB0.lt; have hy1 := hB1.lt; have hr2 := hB2.row; have hy2 := hB2.lt; have hc3 := hB3.cell; have hf3 := hB3.frozen; have hy3 := hB3.lt) | (go_at_call 45; refine (roster_Fits t.roster lv jn ao bo cap cap2 _ HI1.out HI2.out hl1 hl2 (HA4.out.kept hb) (HJ4.out.kept hb) HI3.out HI4.out).mono ?_; rintro e w2 ⟨rfl, hb2⟩; simp only [hfitz]; have hB0' := hB0.kept hb2 hB0.lt; have hB1' := hB1.kept hb2 hB1.lt; have hB2' := hB2.kept hb2 hB2.lt; have hB3' := hB3.kept hb2 hB3.lt; have hbel' := bCall' hb2 hbel; clear hc0 ha0 hc1 hy0 hy1 hr2 hy2 hc3 hf3 hy3 hB0 hB1 hB2 hB3 hbel; have hB0 := hB0'; have hB1 := hB1'; have hB2 := hB2'; have hB3 := hB3'; have hbel := hbel'; clear hB0' hB1' hB2' hB3' hbel'; have hc0 := hB0.cell; have ha0 := hB0.at; have hc1 := hB1.cell; have hy0 := hB0.lt; have hy1 := hB1.lt; have hr2 := hB2.row; have hy2 := hB2.lt; have hc3 := hB3.cell; have hf3 := hB3.frozen; have hy3 := hB3.lt) | (go_at_call 46; refine (plan_leavers t.roster lv ao cap (by have := HSL.out; omega) _ ((HA4.out.kept hb).kept hb2)).mono ?_; rintro e w3 ⟨v3, rfl, hown3, hb3⟩; obtain ⟨gao, gcap, rfl, hga⟩ := OwnSeats.form hown3; have hB0' := hB0.kept hb3 hB0.lt; have hB1' := hB1.kept hb3 hB1.lt; have hB2' := hB2.kept hb3 hB2.lt; have hB3' := hB3.kept hb3 hB3.lt; have hbel' := bCall' hb3 hbel; clear hc0 ha0 hc1 hy0 hy1 hr2 hy2 hc3 hf3 hy3 hB0 hB1 hB2 hB3 hbel; have hB0 := hB0'; have hB1 := hB1'; have hB2 := hB2'; have hB3 := hB3'; have hbel := hbel'; clear hB0' hB1' hB2' hB3' hbel'; have hc0 := hB0.cell; have ha0 := hB0.at; have hc1 := hB1.cell; have hy0 := hB0.lt; have hy1 := hB1.lt; have hr2 := hB2.row; have hy2 := hB2.lt; have hc3 := hB3.cell; have hf3 := hB3.frozen; have hy3 := hB3.lt) | (go_at_call 17; refine (plan_Replaced gao (seatsOf t.roster lv) gcap HSO.out (by rw [seats_len]; have := HSL.out; omega) _ hga).mono ?_; rintro e w4 ⟨rfl, hb4⟩; skip; have hB0' := hB0.kept hb4 hB0.lt; have hB1' := hB1.kept hb4 hB1.lt; have hB2' := hB2.kept hb4 hB2.lt; have hB3' := hB3.kept hb4 hB3.lt; have hbel' := bCall' hb4 hbel; clear hc0 ha0 hc1 hy0 hy1 hr2 hy2 hc3 hf3 hy3 hB0 hB1 hB2 hB3 hbel; have hB0 := hB0'; have hB1 := hB1'; have hB2 := hB2'; have hB3 := hB3'; have hbel := hbel'; clear hB0' hB1' hB2' hB3' hbel'; have hc0 := hB0.cell; have ha0 := hB0.at; have hc1 := hB1.cell; have hy0 := hB0.lt; have hy1 := hB1.lt; have hr2 := hB2.row; have hy2 := hB2.lt; have hc3 := hB3.cell; have hf3 := hB3.frozen; have hy3 := hB3.lt))
  clear hc0 ha0 hc1 hy0 hy1 hr2 hy2 hc3 hf3 hy3
  have hcc : cntOf (replP (seatsOf t.roster lv)) 21 ≤ 21 := cntOf_le _ _
  have hct : cntR t lv = cntOf (replP (seatsOf t.roster lv)) 21 := rfl
  rw [hct] at hroom
  generalize hp : replP (seatsOf t.roster lv) = p at *
  have HPP := Lib.hid hp; clear hp
  generalize hcq : cntOf p 21 = cc at *
  have HCC := Lib.hid hcq; clear hcq
  have hcc0 : (0 : Int) ≤ (cc : Int) := by omega
  have hcc1 : (cc : Int) ≤ 21 := by omega
  have hj0 : (0 : Int) ≤ (jn.length : Int) := by omega
  have hj1 : (jn.length : Int) ≤ 64 := by have := HJL.out; omega
  have hbW : Below w4.heap.size w4 w4.drew := (Below.refl _ _).drew
  have HB0 := Lib.hid hB0; have HB1 := Lib.hid hB1; have HB2 := Lib.hid hB2; have HB3 := Lib.hid hB3; have HBEL := Lib.hid hbel
  have hw1 : IntKind.i64.wrap (32768 - (cc : Int)) = 32768 - (cc : Int) := IntWalk.i64_in _ (by omega)
  have hw2 : IntKind.i64.wrap (32768 - (cc : Int) - (jn.length : Int)) = 32768 - (cc : Int) - (jn.length : Int) := IntWalk.i64_in _ (by omega)
  clear hB0 hB1 hB2 hB3 hbel
  go_region_held3 (fun w' => w'.cell? ⟨w.heap.size, 1, none⟩ = some (I t.fresh) ∧ w'.cell? ⟨w.heap.size + 1, 1, none⟩ = some (.slice bo jn.length cap2))
    (first | exact ⟨(HB0.out.kept (by with_reducible exact hbW) HB0.out.lt).fresh, (HB1.out.kept (by with_reducible exact hbW) HB1.out.lt).cell 1⟩ | go_keep)
    (first | (go_at_call 47; refine (ones_of p _ HCC.out _).mono ?_; rintro e w5 ⟨rfl, hb5⟩; have hbW := bCall' hb5 (by with_reducible exact hbW)))
  have hB0 := HB0.out.kept hbW HB0.out.lt; have hB1 := HB1.out.kept hbW HB1.out.lt; have hB2 := HB2.out.kept hbW HB2.out.lt; have hB3 := HB3.out.kept hbW HB3.out.lt
  have hbel := bCall' hbW HBEL.out
  have hc0 := hB0.cell; have ha0 := hB0.at; have hc1 := hB1.cell; have hy0 := hB0.lt; have hy1 := hB1.lt; have hr2 := hB2.row; have hy2 := hB2.lt; have hc3 := hB3.cell; have hf3 := hB3.frozen; have hy3 := hB3.lt
  go_wp2
  have hBt := (((((hB2.setRow (treeC tree0)).set_other (a := ⟨w.heap.size + 1 + 1 + 1, 0, none⟩) (by simp) (.int .i64 0)).set_other (a := ⟨w.heap.size + 1 + 1 + 1, 1, none⟩) (by simp) (.slice none 0 0)).set_other (a := ⟨w.heap.size + 1 + 1 + 1, 2, none⟩) (by simp) (.slice none 0 0)).set_other (a := ⟨w.heap.size + 1 + 1 + 1, 3, none⟩) (by simp) (.slice none 0 0))
  have hBr := ((((hB3.setRow_other (b := w.heap.size + 2) (by omega) (treeC tree0)).set 0 (.int .i64 0)).set 1 (.slice none 0 0)).set 2 (.slice none 0 0)).set 3 (.slice none 0 0)
  have hlt := ld_tree hBt
  have hlr := ld_rekey (hBr.cast (d := #[I 0, .slice none 0 0, .slice none 0 0, .slice none 0 0]) rfl)
  have hbf : Below w.heap.size w _ := (bSet (bSet (bSet (bSet (below_setRow hbel (show w.heap.size ≤ w.heap.size + 1 + 1 by omega) (treeC tree0)) (p := ⟨w.heap.size + 1 + 1 + 1, 0, none⟩) (by simp; omega) (.int .i64 0)) (p := ⟨w.heap.size + 1 + 1 + 1, 1, none⟩) (by simp; omega) (.slice none 0 0)) (p := ⟨w.heap.size + 1 + 1 + 1, 2, none⟩) (by simp; omega) (.slice none 0 0)) (p := ⟨w.heap.size + 1 + 1 + 1, 3, none⟩) (by simp; omega) (.slice none 0 0))
  exact bodyPost_ret (v := .tuple #[.agg (treeC tree0), .agg #[I 0, .slice none 0 0, .slice none 0 0, .slice none 0 0], .int .i64 3]) (by simp only [results, Tryd.results27]; simp [Sem.run_bind, asAddr, loadVar_tree, hlt, hlr]) rfl ⟨by rw [HE.out], hbf⟩
set_option maxRecDepth 100000 in
set_option maxHeartbeats 3000000 in
theorem plan_step_good (t : Tree) (lv jn : List Int) (ao bo : Option Addr) (cap cap2 : Nat) (w : World) (hl1 : lv.length ≤ 35184372088832) (hl2 : jn.length ≤ 35184372088832) (hA : IntsAt w ao lv) (hJ : IntsAt w bo jn) (hi1 : ∀ j, I64 (t.roster j).base) (htb : ∀ j, I64 (t.keys j).base) (hi2 : ∀ j, I64 (t.roster j).who) (hi3 : ∀ x, x ∈ lv → I64 x) (hi4 : ∀ x, x ∈ jn → I64 x) (hR : RightTree t) (hep : t.epoch ≠ 200) (hfit : fitsS t.roster lv jn = 0) (hroom : t.fresh + (cntR t lv : Nat) + (jn.length : Nat) ≤ 32768) (hT : TzAt w) :
    Calls Tryd.prog 27 #[.agg (treeC t), .agg #[.slice ao lv.length cap, .slice bo jn.length cap2]] w fun e w' => ∃ v1 v2, e = .returned (.tuple #[.agg (treeC (outT t lv jn)), .agg #[I (outE t lv jn), v1, v2, .slice none 0 0], .int .i64 (errI t lv jn)]) ∧ OwnSeats w' w.heap.size v1 (outL t lv jn) ∧ OwnSeats w' w.heap.size v2 (outJ t lv jn) ∧ Below w.heap.size w w' := by
  have HAA := Lib.hid hA; have HJJ := Lib.hid hJ
  have hbs : Below w.heap.size w ((((w.alloc (.cells (treeC t) 31)).alloc (.cells #[.slice ao lv.length cap, .slice bo jn.length cap2] 34)).alloc (.cells (treeC tree0) 31)).alloc (.cells #[I 0, .slice none 0 0, .slice none 0 0, .slice none 0 0] 39)) := bAlloc (bAlloc (bAlloc (bAlloc (Below.refl _ _) _) _) _) _
  have k0 : Blk ((((w.alloc (.cells (treeC t) 31)).alloc (.cells #[.slice ao lv.length cap, .slice bo jn.length cap2] 34)).alloc (.cells (treeC tree0) 31)).alloc (.cells #[I 0, .slice none 0 0, .slice none 0 0, .slice none 0 0] 39)) w.heap.size (treeC t) 31 := (((Blk.new w _ _).alloc _).alloc _).alloc _
  have k1 : Blk ((((w.alloc (.cells (treeC t) 31)).alloc (.cells #[.slice ao lv.length cap, .slice bo jn.length cap2] 34)).alloc (.cells (treeC tree0) 31)).alloc (.cells #[I 0, .slice none 0 0, .slice none 0 0, .slice none 0 0] 39)) (w.heap.size + 1) #[.slice ao lv.length cap, .slice bo jn.length cap2] 34 := by
    have h := ((Blk.new (w.alloc (.cells (treeC t) 31)) #[.slice ao lv.length cap, .slice bo jn.length cap2] 34).alloc (.cells (treeC tree0) 31)).alloc (.cells #[I 0, .slice none 0 0, .slice none 0 0, .slice none 0 0] 39); rw [World.size_alloc] at h; exact h
  have k2 : Blk ((((w.alloc (.cells (treeC t) 31)).alloc (.cells #[.slice ao lv.length cap, .slice bo jn.length cap2] 34)).alloc (.cells (treeC tree0) 31)).alloc (.cells #[I 0, .slice none 0 0, .slice none 0 0, .slice none 0 0] 39)) (w.heap.size + 2) (treeC tree0) 31 := by
    have h := (Blk.new ((w.alloc (.cells (treeC t) 31)).alloc (.cells #[.slice ao lv.length cap, .slice bo jn.length cap2] 34)) (treeC tree0) 31).alloc (.cells #[I 0, .slice none 0 0, .slice none 0 0, .slice none 0 0] 39); simp only [World.size_alloc] at h; exact h
  have k3 : Blk ((((w.alloc (.cells (treeC t) 31)).alloc (.cells #[.slice ao lv.length cap, .slice bo jn.length cap2] 34)).alloc (.cells (treeC tree0) 31)).alloc (.cells #[I 0, .slice none 0 0, .slice none 0 0, .slice none 0 0] 39)) (w.heap.size + 3) #[I 0, .slice none 0 0, .slice none 0 0, .slice none 0 0] 39 := by
    have h := Blk.new (((w.alloc (.cells (treeC t) 31)).alloc (.cells #[.slice ao lv.length cap, .slice bo jn.length cap2] 34)).alloc (.cells (treeC tree0) 31)) #[I 0, .slice none 0 0, .slice none 0 0, .slice none 0 0] 39; simp only [World.size_alloc] at h; exact h
  have HBS := Lib.hid hbs; have K0 := Lib.hid k0; have K1 := Lib.hid k1; have K2 := Lib.hid k2; have K3 := Lib.hid k3
  have HA4 := Lib.hid (hA.kept hbs); have HJ4 := Lib.hid (hJ.kept hbs)
  have HI1 := Lib.hid hi1; have HI2 := Lib.hid hi2; have HI3 := Lib.hid hi3; have HI4 := Lib.hid hi4
  clear hbs k0 k1 k2 k3 hA hJ hi1 hi2 hi3 hi4
  have HTB := Lib.hid htb; clear htb
  have hck := checkTree_yes hR
  have hep' : (t.epoch == 200) = false := by simpa using hep
  have hfit' : (fitsS t.roster lv jn != 0) = false := by simpa using hfit
  have hfitz := hfit
  have F := fits_ok hfit
  have HSL := Lib.hid (lv_len F); have HJL := Lib.hid (jn_len F); have HSO := Lib.hid (seats_ok F); have HJO := Lib.hid (joins_ok F)
  have HR := Lib.hid hR; have HFIT := Lib.hid hfit; have HEP := Lib.hid hep
  have he0 := hR.epoch0; have he1 := hR.epoch1; have hf0 := hR.fresh0; have hf1 := hR.fresh1
  clear hR hfit hep F
  have HT := Lib.hid hT; clear hT
  have HE := Lib.hid (ok_step (lv := lv) (jn := jn) ⟨HR.out, by have := HR.out.epoch1; have := HEP.out; omega, HFIT.out, hroom⟩)
  go_enter Tryd.func27, Tryd.ntmps27
  go_wp2_with (first | (go_at_call 44; refine (keytree_Check t HTB.out HI1.out HI2.out _).mono ?_; rintro e w1 ⟨rfl, hb⟩; simp only [hck]; have hB0 := K0.out.kept hb (by first | omega | (simp; done) | (simp; omega)); have hB1 := K1.out.kept hb (by first | omega | (simp; done) | (simp; omega)); have hB2 := K2.out.kept hb (by first | omega | (simp; done) | (simp; omega)); have hB3 := K3.out.kept hb (by first | omega | (simp; done) | (simp; omega)); have hbel := bCall' hb HBS.out; have hc0 := hB0.cell; have ha0 := hB0.at; have hc1 := hB1.cell; have hy0 := hB0.lt; have hy1 := hB1.lt; have hr2 := hB2.row; have hy2 := hB2.lt; have hc3 := hB3.cell; have hf3 := hB3.frozen; have hy3 := hB3.lt) | (go_at_call 45; refine (roster_Fits t.roster lv jn ao bo cap cap2 _ HI1.out HI2.out hl1 hl2 (HA4.out.kept hb) (HJ4.out.kept hb) HI3.out HI4.out).mono ?_; rintro e w2 ⟨rfl, hb2⟩; simp only [hfitz]; have hB0' := hB0.kept hb2 hB0.lt; have hB1' := hB1.kept hb2 hB1.lt; have hB2' := hB2.kept hb2 hB2.lt; have hB3' := hB3.kept hb2 hB3.lt; have hbel' := bCall' hb2 hbel; clear hc0 ha0 hc1 hy0 hy1 hr2 hy2 hc3 hf3 hy3 hB0 hB1 hB2 hB3 hbel; have hB0 := hB0'; have hB1 := hB1'; have hB2 := hB2'; have hB3 := hB3'; have hbel := hbel'; clear hB0' hB1' hB2' hB3' hbel'; have hc0 := hB0.cell; have ha0 := hB0.at; have hc1 := hB1.cell; have hy0 := hB0.lt; have hy1 := hB1.lt; have hr2 := hB2.row; have hy2 := hB2.lt; have hc3 := hB3.cell; have hf3 := hB3.frozen; have hy3 := hB3.lt) | (go_at_call 46; refine (plan_leavers t.roster lv ao cap (by have := HSL.out; omega) _ ((HA4.out.kept hb).kept hb2)).mono ?_; rintro e w3 ⟨v3, rfl, hown3, hb3⟩; obtain ⟨gao, gcap, rfl, hga⟩ := OwnSeats.form hown3; have hB0' := hB0.kept hb3 hB0.lt; have hB1' := hB1.kept hb3 hB1.lt; have hB2' := hB2.kept hb3 hB2.lt; have hB3' := hB3.kept hb3 hB3.lt; have hbel' := bCall' hb3 hbel; clear hc0 ha0 hc1 hy0 hy1 hr2 hy2 hc3 hf3 hy3 hB0 hB1 hB2 hB3 hbel; have hB0 := hB0'; have hB1 := hB1'; have hB2 := hB2'; have hB3 := hB3'; have hbel := hbel'; clear hB0' hB1' hB2' hB3' hbel'; have hc0 := hB0.cell; have ha0 := hB0.at; have hc1 := hB1.cell; have hy0 := hB0.lt; have hy1 := hB1.lt; have hr2 := hB2.row; have hy2 := hB2.lt; have hc3 := hB3.cell; have hf3 := hB3.frozen; have hy3 := hB3.lt) | (go_at_call 17; refine (plan_Replaced gao (seatsOf t.roster lv) gcap HSO.out (by rw [seats_len]; have := HSL.out; omega) _ hga).mono ?_; rintro e w4 ⟨rfl, hb4⟩; skip; have hB0' := hB0.kept hb4 hB0.lt; have hB1' := hB1.kept hb4 hB1.lt; have hB2' := hB2.kept hb4 hB2.lt; have hB3' := hB3.kept hb4 hB3.lt; have hbel' := bCall' hb4 hbel; clear hc0 ha0 hc1 hy0 hy1 hr2 hy2 hc3 hf3 hy3 hB0 hB1 hB2 hB3 hbel; have hB0 := hB0'; have hB1 := hB1'; have hB2 := hB2'; have hB3 := hB3'; have hbel := hbel'; clear hB0' hB1' hB2' hB3' hbel'; have hc0 := hB0.cell; have ha0 := hB0.at; have hc1 := hB1.cell; have hy0 := hB0.lt; have hy1 := hB1.lt; have hr2 := hB2.row; have hy2 := hB2.lt; have hc3 := hB3.cell; have hf3 := hB3.frozen; have hy3 := hB3.lt))
  clear hc0 ha0 hc1 hy0 hy1 hr2 hy2 hc3 hf3 hy3
  have hcc : cntOf (replP (seatsOf t.roster lv)) 21 ≤ 21 := cntOf_le _ _
  have hct : cntR t lv = cntOf (replP (seatsOf t.roster lv)) 21 := rfl
  rw [hct] at hroom
  generalize hp : replP (seatsOf t.roster lv) = p at *
  have HPP := Lib.hid hp; clear hp
  generalize hcq : cntOf p 21 = cc at *
  have HCC := Lib.hid hcq; clear hcq
  have hcc0 : (0 : Int) ≤ (cc : Int) := by omega
  have hcc1 : (cc : Int) ≤ 21 := by omega
  have hj0 : (0 : Int) ≤ (jn.length : Int) := by omega
  have hj1 : (jn.length : Int) ≤ 64 := by have := HJL.out; omega
  have hbW : Below w4.heap.size w4 w4.drew := (Below.refl _ _).drew
  have HB0 := Lib.hid hB0; have HB1 := Lib.hid hB1; have HB2 := Lib.hid hB2; have HB3 := Lib.hid hB3; have HBEL := Lib.hid hbel
  have hw1 : IntKind.i64.wrap (32768 - (cc : Int)) = 32768 - (cc : Int) := IntWalk.i64_in _ (by omega)
  have hw2 : IntKind.i64.wrap (32768 - (cc : Int) - (jn.length : Int)) = 32768 - (cc : Int) - (jn.length : Int) := IntWalk.i64_in _ (by omega)
  clear hB0 hB1 hB2 hB3 hbel
  go_region_held3 (fun w' => w'.cell? ⟨w.heap.size, 1, none⟩ = some (I t.fresh) ∧ w'.cell? ⟨w.heap.size + 1, 1, none⟩ = some (.slice bo jn.length cap2))
    (first | exact ⟨(HB0.out.kept (by with_reducible exact hbW) HB0.out.lt).fresh, (HB1.out.kept (by with_reducible exact hbW) HB1.out.lt).cell 1⟩ | go_keep)
    (first | (go_at_call 47; refine (ones_of p _ HCC.out _).mono ?_; rintro e w5 ⟨rfl, hb5⟩; have hbW := bCall' hb5 (by with_reducible exact hbW)))
  have hB0 := HB0.out.kept hbW HB0.out.lt; have hB1 := HB1.out.kept hbW HB1.out.lt; have hB2 := HB2.out.kept hbW HB2.out.lt; have hB3 := HB3.out.kept hbW HB3.out.lt
  have hbel := bCall' hbW HBEL.out
  have hc0 := hB0.cell; have ha0 := hB0.at; have hc1 := hB1.cell; have hy0 := hB0.lt; have hy1 := hB1.lt; have hr2 := hB2.row; have hy2 := hB2.lt; have hc3 := hB3.cell; have hf3 := hB3.frozen; have hy3 := hB3.lt
  have hep2 : t.epoch + 1 ≤ 200 := by have := HR.out.epoch1; have := HEP.out; omega
  have hRB : ∀ j, j < 64 → (t.roster j).base < t.fresh + (cc : Int) := fun j hj => by have := (HR.out.eb j hj).1.1; omega
  have HRB := Lib.hid hRB; clear hRB
  have HKR := Lib.hid HR.out.keys
  have HKB : Hid (∀ j, j < 21 → (t.keys j).base < t.fresh) := Lib.hid (fun j hj => (HR.out.kb j hj).1)
  have HKS : Hid (∀ j, j < 21 → (t.keys j).step ≤ 254) := Lib.hid (fun j hj => by have h1 := (HR.out.kb j hj).2; have h2 := HEP.out; omega)
  have hrm1 : t.fresh + (cc : Int) ≤ 32768 := by omega
  have hw3 : IntKind.i64.wrap (t.fresh + (cc : Int) + (jn.length : Int)) = t.fresh + (cc : Int) + (jn.length : Int) := IntWalk.i64_in _ (by omega)
  go_wp2_with (first
    | (go_at_call 48; refine (turn_of t.keys p t.fresh cc HCC.out HKR.out HTB.out (by omega) hrm1 HKB.out HKS.out _).mono ?_; rintro e w6 ⟨rfl, hb6⟩; have hB0' := hB0.kept hb6 hB0.lt; have hB1' := hB1.kept hb6 hB1.lt; have hB2' := hB2.kept hb6 hB2.lt; have hB3' := hB3.kept hb6 hB3.lt; have hbel' := bCall' hb6 hbel; clear hc0 ha0 hc1 hy0 hy1 hr2 hy2 hc3 hf3 hy3 hB0 hB1 hB2 hB3 hbel; have hB0 := hB0'; have hB1 := hB1'; have hB2 := hB2'; have hB3 := hB3'; have hbel := hbel'; clear hB0' hB1' hB2' hB3' hbel'; have hc0 := hB0.cell; have ha0 := hB0.at; have hc1 := hB1.cell; have hy0 := hB0.lt; have hy1 := hB1.lt; have hr2 := hB2.row; have hy2 := hB2.lt; have hc3 := hB3.cell; have hf3 := hB3.frozen; have hy3 := hB3.lt)
    | (go_at_call 49; refine (roster_Move t.roster lv jn (t.epoch + 1) (t.fresh + (cc : Int)) ao bo cap cap2 _ HI1.out HI2.out hl1 hl2 (HAA.out.kept (bAlloc hbel _)) (HJJ.out.kept (bAlloc hbel _)) HI3.out HI4.out HFIT.out (by omega) hep2 (by omega) (by omega) HRB.out (HT.out.kept (bAlloc hbel _) (Nat.le_refl _))).mono ?_; rintro e w7 ⟨v1, v2, rfl, ho1, ho2, hb7⟩; obtain ⟨mao, mcap, rfl, hma⟩ := OwnSeats.form ho1; have ho3 : w7.ownsRow _ 45 2 v2 jn.length (seatC (moveJ t.roster lv jn)) := (by have h := ho2; unfold OwnSeats at h; rwa [joins_len] at h); obtain ⟨mbo, mcap2, rfl⟩ := ownV ho3; have hB0' := (hB0.alloc (.cells (keysC (turnK t.keys p t.fresh)) 25)).kept hb7 (hB0.alloc _).lt; have hB1' := (hB1.alloc (.cells (keysC (turnK t.keys p t.fresh)) 25)).kept hb7 (hB1.alloc _).lt; have hB2' := (hB2.alloc (.cells (keysC (turnK t.keys p t.fresh)) 25)).kept hb7 (hB2.alloc _).lt; have hB3' := (hB3.alloc (.cells (keysC (turnK t.keys p t.fresh)) 25)).kept hb7 (hB3.alloc _).lt; have hK := (Blk.new w6 (keysC (turnK t.keys p t.fresh)) 25).kept hb7 (Blk.new _ _ _).lt; have haK := hK.at; have hyK := hK.lt; have hbel' := bCall' hb7 (bAlloc hbel _); clear hc0 ha0 hc1 hy0 hy1 hr2 hy2 hc3 hf3 hy3 hB0 hB1 hB2 hB3 hbel; have hB0 := hB0'; have hB1 := hB1'; have hB2 := hB2'; have hB3 := hB3'; have hbel := hbel'; clear hB0' hB1' hB2' hB3' hbel'; have hc0 := hB0.cell; have ha0 := hB0.at; have hc1 := hB1.cell; have hy0 := hB0.lt; have hy1 := hB1.lt; have hr2 := hB2.row; have hy2 := hB2.lt; have hc3 := hB3.cell; have hf3 := hB3.frozen; have hy3 := hB3.lt))
  have HT1 : Hid (outT t lv jn = ⟨t.epoch + 1, t.fresh + (cc : Int) + (jn.length : Int), turnK t.keys p t.fresh, moveR t.roster lv jn (t.epoch + 1) (t.fresh + (cc : Int))⟩) := Lib.hid (by
    unfold outT; rw [HE.out, if_pos rfl]; unfold nextT cntR; rw [HPP.out, HCC.out])
  have H2 := Lib.hid (show outL t lv jn = seatsOf t.roster lv by unfold outL; rw [HE.out, if_pos rfl])
  have H3 := Lib.hid (show outJ t lv jn = moveJ t.roster lv jn by unfold outJ; rw [HE.out, if_pos rfl])
  have H5 := Lib.hid (show outE t lv jn = t.epoch + 1 by unfold outE; rw [HE.out, if_pos rfl])
  have hXlt : w.heap.size + 4 ≤ w7.heap.size + 1 := by omega
  have hTe : (⟨t.epoch + 1, t.fresh + (cc : Int) + (jn.length : Int), turnK t.keys p t.fresh, moveR t.roster lv jn (t.epoch + 1) (t.fresh + (cc : Int))⟩ : Tree).epoch = t.epoch + 1 := rfl
  generalize (⟨t.epoch + 1, t.fresh + (cc : Int) + (jn.length : Int), turnK t.keys p t.fresh, moveR t.roster lv jn (t.epoch + 1) (t.fresh + (cc : Int))⟩ : Tree) = T at *
  generalize moveR t.roster lv jn (t.epoch + 1) (t.fresh + (cc : Int)) = R at *
  have hX : Blk ((w7.alloc (.cells (rosterC R) 29)).alloc (.cells (treeC T) 31)) (w7.heap.size + 1) (treeC T) 31 := by
    have h := Blk.new (w7.alloc (.cells (rosterC R) 29)) (treeC T) 31; rwa [World.size_alloc] at h
  have hB2W := (hB2.alloc (.cells (rosterC R) 29)).alloc (.cells (treeC T) 31)
  have hB3W := (hB3.alloc (.cells (rosterC R) 29)).alloc (.cells (treeC T) 31)
  have hbelW := bAlloc (bAlloc hbel (.cells (rosterC R) 29)) (.cells (treeC T) 31)
  have hzz : w.heap.size + 4 ≤ (w6.alloc (.cells (keysC (turnK t.keys p t.fresh)) 25)).heap.size := by have := HB3.out.lt; have := hb6.size; have := hbW.size; have h3 := hB3.lt; simp only [World.size_alloc]; omega
  have ho1W := ownBase ((ho1.alloc (.cells (rosterC R) 29)).alloc (.cells (treeC T) 31)) (base' := w.heap.size + 4) hzz
  have ho2W := ownBase ((ho2.alloc (.cells (rosterC R) 29)).alloc (.cells (treeC T) 31)) (base' := w.heap.size + 4) hzz
  have HX := Lib.hid hX; have HB2W := Lib.hid hB2W; have HB3W := Lib.hid hB3W; have HBW := Lib.hid hbelW; have HO1 := Lib.hid ho1W; have HO2 := Lib.hid ho2W
  clear ho1 ho2 ho3 ho1W ho2W hbW hK haK hyK hb7 hma hown3 hga hX hbelW hbel hzz hB0 hB1 hB2 hB3 hc0 ha0 hc1 hy0 hy1 hr2 hy2 hc3 hf3 hy3
  clear hB2W hB3W
  generalize (w7.alloc (.cells (rosterC R) 29)).alloc (.cells (treeC T) 31) = W at *
  generalize w7.heap.size + 1 = X at *
  have hXy := HX.out.lt; have h2y := HB2W.out.lt; have h3y := HB3W.out.lt
  have hr2 := HB2W.out.row; have hc3 := HB3W.out.cell; have hf3 := HB3W.out.frozen
  have hX2 : X ≠ w.heap.size + 2 := by omega
  have hX3 : X ≠ w.heap.size + 3 := by omega
  have hbW : Below W.heap.size W W.drew := (Below.refl _ _).drew
  go_region_held3 (fun w' => cellsAt w' ⟨X, 0, none⟩ 236 = some (treeC T) ∧ w'.cell? ⟨X, 0, none⟩ = some (I T.epoch))
    (first | exact ⟨treeOf HX.out (by with_reducible exact hbW), epochOf HX.out (by with_reducible exact hbW)⟩ | (with_reducible refine treeS HX.out hbW ?_ _; omega) | (with_reducible refine treeS3 HX.out hbW ?_ _ ?_ _ _ _ _ <;> omega) | (with_reducible refine treeSd HX.out ?_ _; omega) | (with_reducible refine treeS3d HX.out ?_ _ ?_ _ _ _ _ <;> omega) | go_keep)
    (fail)
  obtain ⟨WF, hWF, hlt, hlr, hbf, hof⟩ := fin_two (X := X) (T := T) (.int .i64 (t.epoch + 1)) (.slice mao (seatsOf t.roster lv).length mcap) (.slice mbo jn.length mcap2) (.slice none 0 0) HB2W.out HB3W.out rfl (by omega) (by omega) (by omega) HBW.out
  have h1 := hof _ _ _ _ _ _ HO1.out (by omega) (by omega)
  have h2 := hof _ _ _ _ _ _ HO2.out (by omega) (by omega)
  have hlt' := ld_tree hlt.drew; have hlr' := ld_rekey hlr.drew
  clear hof
  rw [show w.heap.size + 1 + 1 = w.heap.size + 2 from rfl, ← hWF]
  clear hWF hr2 hc3 hf3
  go_wp2
  exact bodyPost_ret (v := .tuple #[.agg (treeC T), .agg #[.int .i64 (t.epoch + 1), .slice mao (seatsOf t.roster lv).length mcap, .slice mbo jn.length mcap2, .slice none 0 0], .int .i64 0]) (by simp only [results, Tryd.results27]; simp [Sem.run_bind, asAddr, loadVar_tree, hlt', hlr']) rfl ⟨_, _, by rw [HT1.out, H5.out, HE.out], by rw [H2.out]; exact ownBase (ownBelow h1 ((Below.refl _ _).drew) (Nat.le_refl _)) (by omega), by rw [H3.out]; unfold OwnSeats; rw [joins_len]; rw [joins_len] at h2; exact ownBase (ownBelow h2 ((Below.refl _ _).drew) (Nat.le_refl _)) (by omega), bDrew hbf⟩
theorem plan_step (t : Tree) (lv jn : List Int) (ao bo : Option Addr) (cap cap2 : Nat) (w : World) (hl1 : lv.length ≤ 35184372088832) (hl2 : jn.length ≤ 35184372088832) (hA : IntsAt w ao lv) (hJ : IntsAt w bo jn) (hi1 : ∀ j, I64 (t.roster j).base) (htb : ∀ j, I64 (t.keys j).base) (hi2 : ∀ j, I64 (t.roster j).who) (hi3 : ∀ x, x ∈ lv → I64 x) (hi4 : ∀ x, x ∈ jn → I64 x) (hT : TzAt w) :
    Calls Tryd.prog 27 #[.agg (treeC t), .agg #[.slice ao lv.length cap, .slice bo jn.length cap2]] w fun e w' => ∃ v1 v2, e = .returned (.tuple #[.agg (treeC (outT t lv jn)), .agg #[I (outE t lv jn), v1, v2, .slice none 0 0], .int .i64 (errI t lv jn)]) ∧ OwnSeats w' w.heap.size v1 (outL t lv jn) ∧ OwnSeats w' w.heap.size v2 (outJ t lv jn) ∧ Below w.heap.size w w' := by
  have bad : errI t lv jn ≠ 0 → Calls Tryd.prog 27 #[.agg (treeC t), .agg #[.slice ao lv.length cap, .slice bo jn.length cap2]] w (fun e w' => e = .returned (.tuple #[.agg (treeC tree0), .agg #[I 0, .slice none 0 0, .slice none 0 0, .slice none 0 0], .int .i64 (errI t lv jn)]) ∧ Below w.heap.size w w') → Calls Tryd.prog 27 #[.agg (treeC t), .agg #[.slice ao lv.length cap, .slice bo jn.length cap2]] w (fun e w' => ∃ v1 v2, e = .returned (.tuple #[.agg (treeC (outT t lv jn)), .agg #[I (outE t lv jn), v1, v2, .slice none 0 0], .int .i64 (errI t lv jn)]) ∧ OwnSeats w' w.heap.size v1 (outL t lv jn) ∧ OwnSeats w' w.heap.size v2 (outJ t lv jn) ∧ Below w.heap.size w w') := by
    intro hne h
    refine h.mono ?_
    rintro e w' ⟨rfl, hb⟩
    refine ⟨.slice none 0 0, .slice none 0 0, ?_, ?_, ?_, hb⟩
    · unfold outT outE; rw [if_neg hne, if_neg hne]
    · unfold outL; rw [if_neg hne]; exact World.ownsRow_nil _ _ _ _
    · unfold outJ; rw [if_neg hne]; exact World.ownsRow_nil _ _ _ _
  by_cases h : ¬ RightTree t ∨ t.epoch = 200 ∨ fitsS t.roster lv jn ≠ 0
  · refine bad ?_ (plan_step_bad t lv jn ao bo cap cap2 w hl1 hl2 hA hJ hi1 htb hi2 hi3 hi4 h)
    intro e
    have k := step_ok e
    rcases h with h | h | h
    · exact h k.right
    · have := k.epoch; omega
    · exact h k.fits
  · have hR : RightTree t := by
      apply Classical.byContradiction; intro hn; exact h (.inl hn)
    have hE : t.epoch ≠ 200 := fun e => h (.inr (.inl e))
    have hF : fitsS t.roster lv jn = 0 := by
      apply Classical.byContradiction; intro hn; exact h (.inr (.inr hn))
    by_cases hroom : t.fresh + (cntR t lv : Nat) + (jn.length : Nat) ≤ 32768
    · exact plan_step_good t lv jn ao bo cap cap2 w hl1 hl2 hA hJ hi1 htb hi2 hi3 hi4 hR hE hF hroom hT
    · refine bad ?_ (plan_step_room t lv jn ao bo cap cap2 w hl1 hl2 hA hJ hi1 htb hi2 hi3 hi4 hR hE hF (by omega))
      intro e
      have := (step_ok e).room; omega
end Go.Proofs.YtodgcmakdndbfaaDoor
