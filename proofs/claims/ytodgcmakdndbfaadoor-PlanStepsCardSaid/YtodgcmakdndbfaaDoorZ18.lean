/-
  Parts of a proof: Next3, Step1. Merged by program.
-/
import Derived.Test.YtodgcmakdndbfaaDoorZ17
/-
  Contracts: coterieref11.Next whole, coterieref12.Next. Printed by wip/gen/gk.py.
-/
namespace Cot
open Go.Proofs.YtodgcmakdndbfaaDoor
noncomputable def outE (t : Tree) (lv jn : List Int) : Int := if errI t lv jn = 0 then t.epoch + 1 else 0
end Cot
namespace Go.Proofs.YtodgcmakdndbfaaDoor
open Go.RowKit Cot
set_option linter.unusedSimpArgs false
set_option linter.unusedVariables false
theorem ref11_Next (t : Tree) (lv jn : List Int) (ao bo : Option Addr) (cap cap2 : Nat) (w : World) (hl1 : lv.length ≤ 35184372088832) (hl2 : jn.length ≤ 35184372088832) (hA : IntsAt w ao lv) (hJ : IntsAt w bo jn) (hi1 : ∀ j, I64 (t.roster j).base) (hi2 : ∀ j, I64 (t.roster j).who) (hi3 : ∀ x, x ∈ lv → I64 x) (hi4 : ∀ x, x ∈ jn → I64 x) :
    Calls Tryd.prog 39 #[.agg (treeC t), .agg #[.slice ao lv.length cap, .slice bo jn.length cap2]] w fun e w' => ∃ v1 v2, e = .returned (.tuple #[.agg (treeC (outT t lv jn)), v1, v2, .int .i64 (errI t lv jn)]) ∧ OwnSeats w' w.heap.size v1 (outL t lv jn) ∧ OwnSeats w' w.heap.size v2 (outJ t lv jn) ∧ Below w.heap.size w w' := by
  have bad : ∀ h : ¬ RightTree t ∨ t.epoch = 200 ∨ fitsS t.roster lv jn ≠ 0, errI t lv jn ≠ 0 := by
    intro h e
    have k := step_ok e
    rcases h with h | h | h
    · exact h k.right
    · have := k.epoch; omega
    · exact h k.fits
  by_cases h : ¬ RightTree t ∨ t.epoch = 200 ∨ fitsS t.roster lv jn ≠ 0
  · have hne := bad h
    refine (ref11_Next_bad t lv jn ao bo cap cap2 w hl1 hl2 hA hJ h).mono ?_
    rintro e w' ⟨v1, v2, rfl, h1, h2, hb⟩
    have e1 : outT t lv jn = tree0 := by unfold outT; rw [if_neg hne]
    have e2 : outL t lv jn = [] := by unfold outL; rw [if_neg hne]
    have e3 : outJ t lv jn = [] := by unfold outJ; rw [if_neg hne]
    exact ⟨v1, v2, by rw [e1], by rw [e2]; exact h1, by rw [e3]; exact h2, hb⟩
  · have hR : RightTree t := by
      apply Classical.byContradiction; intro hn; exact h (.inl hn)
    exact ref11_Next_good t lv jn ao bo cap cap2 w hl1 hl2 hA hJ hi1 hi2 hi3 hi4 hR (fun e => h (.inr (.inl e))) (by
      apply Classical.byContradiction; intro hn; exact h (.inr (.inr hn)))
theorem epochOf {W w' : World} {Hb : Nat} {t : Tree} {ty : TypeId} (h : Blk W Hb (treeC t) ty) (hb : Below W.heap.size W w') : w'.cell? ⟨Hb, 0, none⟩ = some (I t.epoch) := by
  rw [(h.kept hb h.lt).cell, treeC_get0]
theorem treeS {W w' : World} {Hb b : Nat} {t : Tree} {ty : TypeId} (h : Blk W Hb (treeC t) ty) (hb : Below W.heap.size W w') (hne : Hb ≠ b) (cs : Array Value) : cellsAt (w'.setRow b cs) ⟨Hb, 0, none⟩ 236 = some (treeC t) ∧ (w'.setRow b cs).cell? ⟨Hb, 0, none⟩ = some (I t.epoch) := by
  have k := (h.kept hb h.lt).setRow_other hne cs
  exact ⟨by rw [k.at, cellsIn_tree], by rw [k.cell, treeC_get0]⟩
theorem treeS3 {W w' : World} {Hb b c : Nat} {t : Tree} {ty : TypeId} (h : Blk W Hb (treeC t) ty) (hb : Below W.heap.size W w') (hne : Hb ≠ b) (cs : Array Value) (hnc : Hb ≠ c) (v0 v1 v2 v3 : Value) : cellsAt (((((w'.setRow b cs).setCell ⟨c, 0, none⟩ v0).setCell ⟨c, 1, none⟩ v1).setCell ⟨c, 2, none⟩ v2).setCell ⟨c, 3, none⟩ v3) ⟨Hb, 0, none⟩ 236 = some (treeC t) ∧ (((((w'.setRow b cs).setCell ⟨c, 0, none⟩ v0).setCell ⟨c, 1, none⟩ v1).setCell ⟨c, 2, none⟩ v2).setCell ⟨c, 3, none⟩ v3).cell? ⟨Hb, 0, none⟩ = some (I t.epoch) := by
  have k := (((((h.kept hb h.lt).setRow_other hne cs).set_other (a := ⟨c, 0, none⟩) hnc v0).set_other (a := ⟨c, 1, none⟩) hnc v1).set_other (a := ⟨c, 2, none⟩) hnc v2).set_other (a := ⟨c, 3, none⟩) hnc v3
  exact ⟨by rw [k.at, cellsIn_tree], by rw [k.cell, treeC_get0]⟩
set_option maxRecDepth 100000 in
set_option maxHeartbeats 2000000 in
theorem ref12_Next (t : Tree) (lv jn : List Int) (ao bo : Option Addr) (cap cap2 : Nat) (w : World) (hl1 : lv.length ≤ 35184372088832) (hl2 : jn.length ≤ 35184372088832) (hA : IntsAt w ao lv) (hJ : IntsAt w bo jn) (hi1 : ∀ j, I64 (t.roster j).base) (hi2 : ∀ j, I64 (t.roster j).who) (hi3 : ∀ x, x ∈ lv → I64 x) (hi4 : ∀ x, x ∈ jn → I64 x) :
    Calls Tryd.prog 22 #[.agg (treeC t), .agg #[.slice ao lv.length cap, .slice bo jn.length cap2]] w fun e w' => ∃ v1 v2 v3, e = .returned (.tuple #[.agg (treeC (outT t lv jn)), .agg #[I (outE t lv jn), v1, v2, v3], .int .i64 (errI t lv jn)]) ∧ OwnSeats w' w.heap.size v1 (outL t lv jn) ∧ OwnSeats w' w.heap.size v2 (outJ t lv jn) ∧ OwnItems w' w.heap.size v3 (outI t lv jn) ∧ Below w.heap.size w w' := by
  have hbs : Below w.heap.size w ((((w.alloc (.cells (treeC t) 31)).alloc (.cells #[.slice ao lv.length cap, .slice bo jn.length cap2] 34)).alloc (.cells (treeC tree0) 31)).alloc (.cells #[I 0, .slice none 0 0, .slice none 0 0, .slice none 0 0] 39)) := bAlloc (bAlloc (bAlloc (bAlloc (Below.refl _ _) _) _) _) _
  have k0 : Blk ((((w.alloc (.cells (treeC t) 31)).alloc (.cells #[.slice ao lv.length cap, .slice bo jn.length cap2] 34)).alloc (.cells (treeC tree0) 31)).alloc (.cells #[I 0, .slice none 0 0, .slice none 0 0, .slice none 0 0] 39)) w.heap.size (treeC t) 31 := (((Blk.new w _ _).alloc _).alloc _).alloc _
  have k1 : Blk ((((w.alloc (.cells (treeC t) 31)).alloc (.cells #[.slice ao lv.length cap, .slice bo jn.length cap2] 34)).alloc (.cells (treeC tree0) 31)).alloc (.cells #[I 0, .slice none 0 0, .slice none 0 0, .slice none 0 0] 39)) (w.heap.size + 1) #[.slice ao lv.length cap, .slice bo jn.length cap2] 34 := by
    have h := ((Blk.new (w.alloc (.cells (treeC t) 31)) #[.slice ao lv.length cap, .slice bo jn.length cap2] 34).alloc (.cells (treeC tree0) 31)).alloc (.cells #[I 0, .slice none 0 0, .slice none 0 0, .slice none 0 0] 39); rw [World.size_alloc] at h; exact h
  have k2 : Blk ((((w.alloc (.cells (treeC t) 31)).alloc (.cells #[.slice ao lv.length cap, .slice bo jn.length cap2] 34)).alloc (.cells (treeC tree0) 31)).alloc (.cells #[I 0, .slice none 0 0, .slice none 0 0, .slice none 0 0] 39)) (w.heap.size + 2) (treeC tree0) 31 := by
    have h := (Blk.new ((w.alloc (.cells (treeC t) 31)).alloc (.cells #[.slice ao lv.length cap, .slice bo jn.length cap2] 34)) (treeC tree0) 31).alloc (.cells #[I 0, .slice none 0 0, .slice none 0 0, .slice none 0 0] 39); simp only [World.size_alloc] at h; exact h
  have k3 : Blk ((((w.alloc (.cells (treeC t) 31)).alloc (.cells #[.slice ao lv.length cap, .slice bo jn.length cap2] 34)).alloc (.cells (treeC tree0) 31)).alloc (.cells #[I 0, .slice none 0 0, .slice none 0 0, .slice none 0 0] 39)) (w.heap.size + 3) #[I 0, .slice none 0 0, .slice none 0 0, .slice none 0 0] 39 := by
    have h := Blk.new (((w.alloc (.cells (treeC t) 31)).alloc (.cells #[.slice ao lv.length cap, .slice bo jn.length cap2] 34)).alloc (.cells (treeC tree0) 31)) #[I 0, .slice none 0 0, .slice none 0 0, .slice none 0 0] 39; simp only [World.size_alloc] at h; exact h
  have HBS := Lib.hid hbs; have K0 := Lib.hid k0; have K1 := Lib.hid k1; have K2 := Lib.hid k2; have K3 := Lib.hid k3
  have HA4 := Lib.hid (hA.kept hbs); have HJ4 := Lib.hid (hJ.kept hbs)
  have HI1 := Lib.hid hi1; have HI2 := Lib.hid hi2; have HI3 := Lib.hid hi3; have HI4 := Lib.hid hi4
  clear hbs k0 k1 k2 k3 hA hJ hi1 hi2 hi3 hi4
  by_cases hz : errI t lv jn = 0
  rotate_left
  · have hne : (errI t lv jn != 0) = true := by simpa using hz
    have h1 : outT t lv jn = tree0 := by unfold outT; rw [if_neg hz]
    have h2 : outL t lv jn = [] := by unfold outL; rw [if_neg hz]
    have h3 : outJ t lv jn = [] := by unfold outJ; rw [if_neg hz]
    have h4 : outI t lv jn = [] := by unfold outI; rw [if_neg hz]
    have h5 : outE t lv jn = 0 := by unfold outE; rw [if_neg hz]
    have H1 := Lib.hid h1; have H2 := Lib.hid h2; have H3 := Lib.hid h3; have H4 := Lib.hid h4; have H5 := Lib.hid h5
    clear h1 h2 h3 h4 h5 hz
    go_enter Tryd.func22, Tryd.ntmps22
    go_wp2_with (go_at_call 39; refine (ref11_Next t lv jn ao bo cap cap2 _ hl1 hl2 HA4.out HJ4.out HI1.out HI2.out HI3.out HI4.out).mono ?_; rintro e w1 ⟨v1, v2, rfl, ho1, ho2, hb1⟩; have hB2 := K2.out.kept hb1 (by first | omega | (simp; done) | (simp; omega)); have hB3 := K3.out.kept hb1 (by first | omega | (simp; done) | (simp; omega)); have hbel := bCall' hb1 HBS.out; have hr2 := hB2.row; have hy2 := hB2.lt; have hc3 := hB3.cell; have hf3 := hB3.frozen; have hy3 := hB3.lt; have HO1 := Lib.hid ho1; have HO2 := Lib.hid ho2; clear ho1 ho2)
    have hBt := ((((((hB2.setRow (treeC tree0)).set_other (a := ⟨w.heap.size + 1 + 1 + 1, 0, none⟩) (by simp) (.int .i64 0)).set_other (a := ⟨w.heap.size + 1 + 1 + 1, 1, none⟩) (by simp) (.slice none 0 0)).set_other (a := ⟨w.heap.size + 1 + 1 + 1, 2, none⟩) (by simp) (.slice none 0 0)).set_other (a := ⟨w.heap.size + 1 + 1 + 1, 3, none⟩) (by simp) (.slice none 0 0)).alloc (.cells (treeC (outT t lv jn)) 31))
    have hBr := (((((hB3.setRow_other (b := w.heap.size + 2) (by omega) (treeC tree0)).set 0 (.int .i64 0)).set 1 (.slice none 0 0)).set 2 (.slice none 0 0)).set 3 (.slice none 0 0)).alloc (.cells (treeC (outT t lv jn)) 31)
    have hlt := ld_tree hBt
    have hlr := ld_rekey (hBr.cast (d := #[I 0, .slice none 0 0, .slice none 0 0, .slice none 0 0]) rfl)
    have hbf : Below w.heap.size w _ := bAlloc (bSet (bSet (bSet (bSet (below_setRow hbel (show w.heap.size ≤ w.heap.size + 1 + 1 by omega) (treeC tree0)) (p := ⟨w.heap.size + 1 + 1 + 1, 0, none⟩) (by simp; omega) (.int .i64 0)) (p := ⟨w.heap.size + 1 + 1 + 1, 1, none⟩) (by simp; omega) (.slice none 0 0)) (p := ⟨w.heap.size + 1 + 1 + 1, 2, none⟩) (by simp; omega) (.slice none 0 0)) (p := ⟨w.heap.size + 1 + 1 + 1, 3, none⟩) (by simp; omega) (.slice none 0 0)) (.cells (treeC (outT t lv jn)) 31)
    exact bodyPost_ret (v := .tuple #[.agg (treeC tree0), .agg #[I 0, .slice none 0 0, .slice none 0 0, .slice none 0 0], .int .i64 (errI t lv jn)]) (by simp only [results, Tryd.results22]; simp [Sem.run_bind, asAddr, loadVar_tree, hlt, hlr]) rfl ⟨_, _, _, by rw [H1.out, H5.out], by rw [H2.out]; exact World.ownsRow_nil _ _ _ _, by rw [H3.out]; exact World.ownsRow_nil _ _ _ _, by rw [H4.out]; exact World.ownsRow_nil _ _ _ _, hbf⟩
  · have hne : (errI t lv jn != 0) = false := by simpa using hz
    have hOK := step_ok hz
    have h1 : outT t lv jn = nextT t lv jn := by unfold outT; rw [if_pos hz]
    have h2 : outL t lv jn = seatsOf t.roster lv := by unfold outL; rw [if_pos hz]
    have h3 : outJ t lv jn = moveJ t.roster lv jn := by unfold outJ; rw [if_pos hz]
    have h4 : outI t lv jn = itemsS (nextT t lv jn) (seatsOf t.roster lv) (moveJ t.roster lv jn) := by unfold outI; rw [if_pos hz]
    have h5 : outE t lv jn = t.epoch + 1 := by unfold outE; rw [if_pos hz]
    have hte : (nextT t lv jn).epoch = t.epoch + 1 := rfl
    have H1 := Lib.hid h1; have H2 := Lib.hid h2; have H3 := Lib.hid h3; have H4 := Lib.hid h4; have H5 := Lib.hid h5; have HE := Lib.hid hz; have HTE := Lib.hid hte
    have HSO := Lib.hid (seats_ok (fits_ok hOK.fits)); have HJO := Lib.hid (joins_ok (fits_ok hOK.fits))
    have HSL := Lib.hid (lv_len (fits_ok hOK.fits)); have HJL := Lib.hid (jn_len (fits_ok hOK.fits))
    have hep2 : t.epoch + 1 ≤ 200 := by have := hOK.epoch; have := hOK.right.epoch1; omega
    clear h1 h2 h3 h4 h5 hz hte hOK
    go_enter Tryd.func22, Tryd.ntmps22
    go_wp2_with (go_at_call 39; refine (ref11_Next t lv jn ao bo cap cap2 _ hl1 hl2 HA4.out HJ4.out HI1.out HI2.out HI3.out HI4.out).mono ?_; rintro e w1 ⟨v1, v2, rfl, ho1, ho2, hb1⟩; have hB2 := K2.out.kept hb1 (by first | omega | (simp; done) | (simp; omega)); have hB3 := K3.out.kept hb1 (by first | omega | (simp; done) | (simp; omega)); have hbel := bCall' hb1 HBS.out; have hr2 := hB2.row; have hy2 := hB2.lt; have hc3 := hB3.cell; have hf3 := hB3.frozen; have hy3 := hB3.lt; have HO1 := Lib.hid ho1; have HO2 := Lib.hid ho2; clear ho1 ho2)
    have hX : Blk (w1.alloc (.cells (treeC (outT t lv jn)) 31)) w1.heap.size (treeC (outT t lv jn)) 31 := Blk.new _ _ _
    have hB2W := hB2.alloc (.cells (treeC (outT t lv jn)) 31)
    have hB3W := hB3.alloc (.cells (treeC (outT t lv jn)) 31)
    have hbelW : Below w.heap.size w (w1.alloc (.cells (treeC (outT t lv jn)) 31)) := bAlloc hbel _
    have ho1 := ownBase (HO1.out.alloc (.cells (treeC (outT t lv jn)) 31)) (base' := w.heap.size + 4) (by simp)
    have ho2 := ownBase (HO2.out.alloc (.cells (treeC (outT t lv jn)) 31)) (base' := w.heap.size + 4) (by simp)
    rw [H2.out] at ho1; rw [H3.out] at ho2
    obtain ⟨gao, gcap, rfl, hga⟩ := OwnSeats.form ho1
    obtain ⟨gbo, gcap2, rfl, hgb⟩ := OwnSeats.form ho2
    rw [H1.out] at hX hB2W hB3W hbelW ho1 ho2 hga hgb ⊢
    clear hB2 hB3 hbel hr2 hc3 hf3 hb1 HO1 HO2
    generalize w1.alloc (.cells (treeC (nextT t lv jn)) 31) = W at *
    have hXlt : w.heap.size + 4 ≤ w1.heap.size := by omega
    generalize w1.heap.size = X at *
    rw [HE.out]
    have hte := HTE.out
    generalize hTT : nextT t lv jn = T at *
    have HTT := Lib.hid hTT
    clear hTT
    have hsl : (seatsOf t.roster lv).length ≤ 1000000 := by rw [seats_len]; have := HSL.out; omega
    have hjl : (moveJ t.roster lv jn).length ≤ 1000000 := by rw [joins_len]; have := HJL.out; omega
    have HS1 := Lib.hid hsl; have HS2 := Lib.hid hjl
    generalize hsq : seatsOf t.roster lv = sq at *
    generalize hjq : moveJ t.roster lv jn = jq at *
    have HSQ := Lib.hid hsq; have HJQ := Lib.hid hjq
    have HOW1 := Lib.hid ho1; have HOW2 := Lib.hid ho2; have HGA := Lib.hid hga; have HGB := Lib.hid hgb
    have HX := Lib.hid hX; have HB2 := Lib.hid hB2W; have HB3 := Lib.hid hB3W; have HBW := Lib.hid hbelW
    have hXy := hX.lt; have h2y := hB2W.lt; have h3y := hB3W.lt
    have hr2 := hB2W.row; have hc3 := hB3W.cell; have hf3 := hB3W.frozen
    have hX2 : X ≠ w.heap.size + 2 := by omega
    have hX3 : X ≠ w.heap.size + 3 := by omega
    clear hsl hjl hsq hjq ho1 ho2 hga hgb hX hB2W hB3W hbelW
    have hone := oneCell_tree T
    have hlT : (treeC T).toList.length = 236 := by rw [Array.length_toList, treeC_size]
    have hbW : Below W.heap.size W W.drew := (Below.refl _ _).drew
    go_region_held3 (fun w' => cellsAt w' ⟨X, 0, none⟩ 236 = some (treeC T) ∧ w'.cell? ⟨X, 0, none⟩ = some (I T.epoch))
      (first | exact ⟨treeOf HX.out (by with_reducible exact hbW), epochOf HX.out (by with_reducible exact hbW)⟩ | (with_reducible refine treeS HX.out hbW ?_ _; omega) | (with_reducible refine treeS3 HX.out hbW ?_ _ ?_ _ _ _ _ <;> omega) | go_keep)
      (first
        | (go_at_call 40; refine (ref12_Items T sq jq gao gbo gcap gcap2 HSO.out HJO.out HS1.out HS2.out (by omega) _ (HGA.out.kept (by with_reducible exact hbW)) (HGB.out.kept (by with_reducible exact hbW))).mono ?_; rintro e w3 ⟨v3, rfl, ho3, hb3⟩; obtain ⟨ao3, cap3, rfl⟩ := ownV ho3; have hbW := bCall' hb3 (by with_reducible exact hbW); have hr2 := (HB2.out.kept hbW HB2.out.lt).row; have hc3 := (HB3.out.kept hbW HB3.out.lt).cell; have hf3 := (HB3.out.kept hbW HB3.out.lt).frozen))
    have hb3' : Below W.heap.size W w3 := hbW
    have hBt := (((((HB2.out.kept hb3' HB2.out.lt).setRow (treeC T)).set_other (a := ⟨w.heap.size + 1 + 1 + 1, 0, none⟩) (by simp) (.int .i64 (t.epoch + 1))).set_other (a := ⟨w.heap.size + 1 + 1 + 1, 1, none⟩) (by simp) (.slice gao sq.length gcap)).set_other (a := ⟨w.heap.size + 1 + 1 + 1, 2, none⟩) (by simp) (.slice gbo jq.length gcap2)).set_other (a := ⟨w.heap.size + 1 + 1 + 1, 3, none⟩) (by simp) (.slice ao3 (itemsS T sq jq).length cap3)
    have hBr := (((((HB3.out.kept hb3' HB3.out.lt).setRow_other (b := w.heap.size + 2) (by omega) (treeC T)).set 0 (.int .i64 (t.epoch + 1))).set 1 (.slice gao sq.length gcap)).set 2 (.slice gbo jq.length gcap2)).set 3 (.slice ao3 (itemsS T sq jq).length cap3)
    have hlt := ld_tree hBt
    have hlr := ld_rekey (hBr.cast (d := #[I (t.epoch + 1), .slice gao sq.length gcap, .slice gbo jq.length gcap2, .slice ao3 (itemsS T sq jq).length cap3]) rfl)
    have hbw3 : Below w.heap.size w w3 := bCall' hb3' HBW.out
    have hbf : Below w.heap.size w _ := bSet (bSet (bSet (bSet (below_setRow hbw3 (show w.heap.size ≤ w.heap.size + 1 + 1 by omega) (treeC T)) (p := ⟨w.heap.size + 1 + 1 + 1, 0, none⟩) (by simp; omega) (.int .i64 (t.epoch + 1))) (p := ⟨w.heap.size + 1 + 1 + 1, 1, none⟩) (by simp; omega) (.slice gao sq.length gcap)) (p := ⟨w.heap.size + 1 + 1 + 1, 2, none⟩) (by simp; omega) (.slice gbo jq.length gcap2)) (p := ⟨w.heap.size + 1 + 1 + 1, 3, none⟩) (by simp; omega) (.slice ao3 (itemsS T sq jq).length cap3)
    have ho1' : OwnSeats _ w.heap.size (.slice gao sq.length gcap) sq := ownBase (ownSet (ownSet (ownSet (ownSet (ownRow (ownBelow HOW1.out hb3' (Nat.le_refl _)) (b := w.heap.size + 1 + 1) (by omega) (treeC T)) (a := ⟨w.heap.size + 1 + 1 + 1, 0, none⟩) (by simp) (.int .i64 (t.epoch + 1))) (a := ⟨w.heap.size + 1 + 1 + 1, 1, none⟩) (by simp) (.slice gao sq.length gcap)) (a := ⟨w.heap.size + 1 + 1 + 1, 2, none⟩) (by simp) (.slice gbo jq.length gcap2)) (a := ⟨w.heap.size + 1 + 1 + 1, 3, none⟩) (by simp) (.slice ao3 (itemsS T sq jq).length cap3)) (by omega)
    have ho2' : OwnSeats _ w.heap.size (.slice gbo jq.length gcap2) jq := ownBase (ownSet (ownSet (ownSet (ownSet (ownRow (ownBelow HOW2.out hb3' (Nat.le_refl _)) (b := w.heap.size + 1 + 1) (by omega) (treeC T)) (a := ⟨w.heap.size + 1 + 1 + 1, 0, none⟩) (by simp) (.int .i64 (t.epoch + 1))) (a := ⟨w.heap.size + 1 + 1 + 1, 1, none⟩) (by simp) (.slice gao sq.length gcap)) (a := ⟨w.heap.size + 1 + 1 + 1, 2, none⟩) (by simp) (.slice gbo jq.length gcap2)) (a := ⟨w.heap.size + 1 + 1 + 1, 3, none⟩) (by simp) (.slice ao3 (itemsS T sq jq).length cap3)) (by omega)
    have hw0 : w.heap.size + 4 ≤ W.drew.heap.size := by simp; omega
    have ho3' : OwnItems _ w.heap.size (.slice ao3 (itemsS T sq jq).length cap3) (itemsS T sq jq) := ownBase (ownSet (ownSet (ownSet (ownSet (ownRow (ownBase ho3 hw0) (b := w.heap.size + 1 + 1) (by omega) (treeC T)) (a := ⟨w.heap.size + 1 + 1 + 1, 0, none⟩) (by simp) (.int .i64 (t.epoch + 1))) (a := ⟨w.heap.size + 1 + 1 + 1, 1, none⟩) (by simp) (.slice gao sq.length gcap)) (a := ⟨w.heap.size + 1 + 1 + 1, 2, none⟩) (by simp) (.slice gbo jq.length gcap2)) (a := ⟨w.heap.size + 1 + 1 + 1, 3, none⟩) (by simp) (.slice ao3 (itemsS T sq jq).length cap3)) (by omega)
    clear hr2 hc3 hf3
    go_wp2
    exact bodyPost_ret (v := .tuple #[.agg (treeC T), .agg #[I (t.epoch + 1), .slice gao sq.length gcap, .slice gbo jq.length gcap2, .slice ao3 (itemsS T sq jq).length cap3], .int .i64 0]) (by simp only [results, Tryd.results22]; simp [Sem.run_bind, asAddr, loadVar_tree, hlt, hlr]) rfl ⟨_, _, _, by rw [H1.out, H5.out, HE.out], by rw [H2.out]; exact ho1', by rw [H3.out]; exact ho2', by rw [H4.out]; exact ho3', hbf⟩
end Go.Proofs.YtodgcmakdndbfaaDoor
/-
  Contracts: plan.step where it refuses. Printed by wip/gen/gk.py.
-/
namespace Go.Proofs.YtodgcmakdndbfaaDoor
open Go.RowKit Cot
set_option linter.unusedSimpArgs false
set_option linter.unusedVariables false
set_option maxRecDepth 100000 in
set_option maxHeartbeats 2000000 in
theorem plan_step_bad (t : Tree) (lv jn : List Int) (ao bo : Option Addr) (cap cap2 : Nat) (w : World) (hl1 : lv.length ≤ 35184372088832) (hl2 : jn.length ≤ 35184372088832) (hA : IntsAt w ao lv) (hJ : IntsAt w bo jn) (hi1 : ∀ j, I64 (t.roster j).base) (htb : ∀ j, I64 (t.keys j).base) (hi2 : ∀ j, I64 (t.roster j).who) (hi3 : ∀ x, x ∈ lv → I64 x) (hi4 : ∀ x, x ∈ jn → I64 x) (hbad : ¬ RightTree t ∨ t.epoch = 200 ∨ fitsS t.roster lv jn ≠ 0) :
    Calls Tryd.prog 27 #[.agg (treeC t), .agg #[.slice ao lv.length cap, .slice bo jn.length cap2]] w fun e w' => e = .returned (.tuple #[.agg (treeC tree0), .agg #[I 0, .slice none 0 0, .slice none 0 0, .slice none 0 0], .int .i64 (errI t lv jn)]) ∧ Below w.heap.size w w' := by
  have hbs : Below w.heap.size w ((((w.alloc (.cells (treeC t) 31)).alloc (.cells #[.slice ao lv.length cap, .slice bo jn.length cap2] 34)).alloc (.cells (treeC tree0) 31)).alloc (.cells #[I 0, .slice none 0 0, .slice none 0 0, .slice none 0 0] 39)) := bAlloc (bAlloc (bAlloc (bAlloc (Below.refl _ _) _) _) _) _
  have k0 : Blk ((((w.alloc (.cells (treeC t) 31)).alloc (.cells #[.slice ao lv.length cap, .slice bo jn.length cap2] 34)).alloc (.cells (treeC tree0) 31)).alloc (.cells #[I 0, .slice none 0 0, .slice none 0 0, .slice none 0 0] 39)) w.heap.size (treeC t) 31 := (((Blk.new w _ _).alloc _).alloc _).alloc _
  have k1 : Blk ((((w.alloc (.cells (treeC t) 31)).alloc (.cells #[.slice ao lv.length cap, .slice bo jn.length cap2] 34)).alloc (.cells (treeC tree0) 31)).alloc (.cells #[I 0, .slice none 0 0, .slice none 0 0, .slice none 0 0] 39)) (w.heap.size + 1) #[.slice ao lv.length cap, .slice bo jn.length cap2] 34 := by
    have h := ((Blk.new (w.alloc (.cells (treeC t) 31)) #[.slice ao lv.length cap, .slice bo jn.length cap2] 34).alloc (.cells (treeC tree0) 31)).alloc (.cells #[I 0, .slice none 0 0, .slice none 0 0, .slice none 0 0] 39); rw [World.size_alloc] at h; exact h
  have k2 : Blk ((((w.alloc (.cells (treeC t) 31)).alloc (.cells #[.slice ao lv.length cap, .slice bo jn.length cap2] 34)).alloc (.cells (treeC tree0) 31)).alloc (.cells #[I 0, .slice none 0 0, .slice none 0 0, .slice none 0 0] 39)) (w.heap.size + 2) (treeC tree0) 31 := by
    have h := (Blk.new ((w.alloc (.cells (treeC t) 31)).alloc (.cells #[.slice ao lv.length cap, .slice bo jn.length cap2] 34)) (treeC tree0) 31).alloc (.cells #[I 0, .slice none 0 0, .slice none 0 0, .slice none 0 0] 39); simp only [World.size_alloc] at h; exact h
  have k3 : Blk ((((w.alloc (.cells (treeC t) 31)).alloc (.cells #[.slice ao lv.length cap, .slice bo jn.length cap2] 34)).alloc (.cells (treeC tree0) 31)).alloc (.cells #[I 0, .slice none 0 0, .slice none 0 0, .slice none 0 0] 39)) (w.heap.size + 3) #[I 0, .slice none 0 0, .slice none 0 0, .slice none 0 0] 39 := by
    have h := Blk.new (((w.alloc (.cells (treeC t) 31)).alloc (.cells #[.slice ao lv.length cap, .slice bo jn.length cap2] 34)).alloc (.cells (treeC tree0) 31)) #[I 0, .slice none 0 0, .slice none 0 0, .slice none 0 0] 39; simp only [World.size_alloc] at h; exact h
  have HBS := Lib.hid hbs; have K0 := Lib.hid k0; have K1 := Lib.hid k1; have K2 := Lib.hid k2; have K3 := Lib.hid k3
  have HA4 := Lib.hid (hA.kept hbs); have HJ4 := Lib.hid (hJ.kept hbs)
  have HI1 := Lib.hid hi1; have HI2 := Lib.hid hi2; have HI3 := Lib.hid hi3; have HI4 := Lib.hid hi4
  clear hbs k0 k1 k2 k3 hA hJ hi1 hi2 hi3 hi4
  have HTB := Lib.hid htb; clear htb
  by_cases hR : RightTree t
  rotate_left
  · have hck := checkTree_no hR
    have HE := Lib.hid (err_tree (lv := lv) (jn := jn) hR)
    clear hR hbad
    go_enter Tryd.func27, Tryd.ntmps27
    go_wp2_with (go_at_call 44; refine (keytree_Check t HTB.out HI1.out HI2.out _).mono ?_; rintro e w1 ⟨rfl, hb⟩; simp only [hck]; have hB0 := K0.out.kept hb (by first | omega | (simp; done) | (simp; omega)); have hB1 := K1.out.kept hb (by first | omega | (simp; done) | (simp; omega)); have hB2 := K2.out.kept hb (by first | omega | (simp; done) | (simp; omega)); have hB3 := K3.out.kept hb (by first | omega | (simp; done) | (simp; omega)); have hbel := bCall' hb HBS.out; have hc0 := hB0.cell; have ha0 := hB0.at; have hc1 := hB1.cell; have hy0 := hB0.lt; have hy1 := hB1.lt; have hr2 := hB2.row; have hy2 := hB2.lt; have hc3 := hB3.cell; have hf3 := hB3.frozen; have hy3 := hB3.lt)
    have hBt := (((((hB2.setRow (treeC tree0)).set_other (a := ⟨w.heap.size + 1 + 1 + 1, 0, none⟩) (by simp) (.int .i64 0)).set_other (a := ⟨w.heap.size + 1 + 1 + 1, 1, none⟩) (by simp) (.slice none 0 0)).set_other (a := ⟨w.heap.size + 1 + 1 + 1, 2, none⟩) (by simp) (.slice none 0 0)).set_other (a := ⟨w.heap.size + 1 + 1 + 1, 3, none⟩) (by simp) (.slice none 0 0))
    have hBr := ((((hB3.setRow_other (b := w.heap.size + 2) (by omega) (treeC tree0)).set 0 (.int .i64 0)).set 1 (.slice none 0 0)).set 2 (.slice none 0 0)).set 3 (.slice none 0 0)
    have hlt := ld_tree hBt
    have hlr := ld_rekey (hBr.cast (d := #[I 0, .slice none 0 0, .slice none 0 0, .slice none 0 0]) rfl)
    have hbf : Below w.heap.size w _ := (bSet (bSet (bSet (bSet (below_setRow hbel (show w.heap.size ≤ w.heap.size + 1 + 1 by omega) (treeC tree0)) (p := ⟨w.heap.size + 1 + 1 + 1, 0, none⟩) (by simp; omega) (.int .i64 0)) (p := ⟨w.heap.size + 1 + 1 + 1, 1, none⟩) (by simp; omega) (.slice none 0 0)) (p := ⟨w.heap.size + 1 + 1 + 1, 2, none⟩) (by simp; omega) (.slice none 0 0)) (p := ⟨w.heap.size + 1 + 1 + 1, 3, none⟩) (by simp; omega) (.slice none 0 0))
    exact bodyPost_ret (v := .tuple #[.agg (treeC tree0), .agg #[I 0, .slice none 0 0, .slice none 0 0, .slice none 0 0], .int .i64 31]) (by simp only [results, Tryd.results27]; simp [Sem.run_bind, asAddr, loadVar_tree, hlt, hlr]) rfl ⟨by rw [HE.out], hbf⟩
  have hck := checkTree_yes hR
  by_cases hep : t.epoch = 200
  · have HE := Lib.hid (err_epoch (lv := lv) (jn := jn) hR hep)
    have hep' : (t.epoch == 200) = true := by simpa using hep
    clear hR hbad hep
    go_enter Tryd.func27, Tryd.ntmps27
    go_wp2_with (go_at_call 44; refine (keytree_Check t HTB.out HI1.out HI2.out _).mono ?_; rintro e w1 ⟨rfl, hb⟩; simp only [hck]; have hB0 := K0.out.kept hb (by first | omega | (simp; done) | (simp; omega)); have hB1 := K1.out.kept hb (by first | omega | (simp; done) | (simp; omega)); have hB2 := K2.out.kept hb (by first | omega | (simp; done) | (simp; omega)); have hB3 := K3.out.kept hb (by first | omega | (simp; done) | (simp; omega)); have hbel := bCall' hb HBS.out; have hc0 := hB0.cell; have ha0 := hB0.at; have hc1 := hB1.cell; have hy0 := hB0.lt; have hy1 := hB1.lt; have hr2 := hB2.row; have hy2 := hB2.lt; have hc3 := hB3.cell; have hf3 := hB3.frozen; have hy3 := hB3.lt)
    have hBt := (((((hB2.setRow (treeC tree0)).set_other (a := ⟨w.heap.size + 1 + 1 + 1, 0, none⟩) (by simp) (.int .i64 0)).set_other (a := ⟨w.heap.size + 1 + 1 + 1, 1, none⟩) (by simp) (.slice none 0 0)).set_other (a := ⟨w.heap.size + 1 + 1 + 1, 2, none⟩) (by simp) (.slice none 0 0)).set_other (a := ⟨w.heap.size + 1 + 1 + 1, 3, none⟩) (by simp) (.slice none 0 0))
    have hBr := ((((hB3.setRow_other (b := w.heap.size + 2) (by omega) (treeC tree0)).set 0 (.int .i64 0)).set 1 (.slice none 0 0)).set 2 (.slice none 0 0)).set 3 (.slice none 0 0)
    have hlt := ld_tree hBt
    have hlr := ld_rekey (hBr.cast (d := #[I 0, .slice none 0 0, .slice none 0 0, .slice none 0 0]) rfl)
    have hbf : Below w.heap.size w _ := (bSet (bSet (bSet (bSet (below_setRow hbel (show w.heap.size ≤ w.heap.size + 1 + 1 by omega) (treeC tree0)) (p := ⟨w.heap.size + 1 + 1 + 1, 0, none⟩) (by simp; omega) (.int .i64 0)) (p := ⟨w.heap.size + 1 + 1 + 1, 1, none⟩) (by simp; omega) (.slice none 0 0)) (p := ⟨w.heap.size + 1 + 1 + 1, 2, none⟩) (by simp; omega) (.slice none 0 0)) (p := ⟨w.heap.size + 1 + 1 + 1, 3, none⟩) (by simp; omega) (.slice none 0 0))
    exact bodyPost_ret (v := .tuple #[.agg (treeC tree0), .agg #[I 0, .slice none 0 0, .slice none 0 0, .slice none 0 0], .int .i64 19]) (by simp only [results, Tryd.results27]; simp [Sem.run_bind, asAddr, loadVar_tree, hlt, hlr]) rfl ⟨by rw [HE.out], hbf⟩
  have hfit : fitsS t.roster lv jn ≠ 0 := by
    rcases hbad with h | h | h
    · exact absurd hR h
    · exact absurd h hep
    · exact h
  have HE := Lib.hid (err_fits hR hep hfit)
  have hep' : (t.epoch == 200) = false := by simpa using hep
  have hfit' : (fitsS t.roster lv jn != 0) = true := by simpa using hfit
  clear hR hbad hep hfit
  go_enter Tryd.func27, Tryd.ntmps27
  go_wp2_with (first | (go_at_call 44; refine (keytree_Check t HTB.out HI1.out HI2.out _).mono ?_; rintro e w1 ⟨rfl, hb⟩; simp only [hck]; have hB0 := K0.out.kept hb (by first | omega | (simp; done) | (simp; omega)); have hB1 := K1.out.kept hb (by first | omega | (simp; done) | (simp; omega)); have hB2 := K2.out.kept hb (by first | omega | (simp; done) | (simp; omega)); have hB3 := K3.out.kept hb (by first | omega | (simp; done) | (simp; omega)); have hbel := bCall' hb HBS.out; have hc0 := hB0.cell; have ha0 := hB0.at; have hc1 := hB1.cell; have hy0 := hB0.lt; have hy1 := hB1.lt; have hr2 := hB2.row; have hy2 := hB2.lt; have hc3 := hB3.cell; have hf3 := hB3.frozen; have hy3 := hB3.lt) | (go_at_call 45; refine (roster_Fits t.roster lv jn ao bo cap cap2 _ HI1.out HI2.out hl1 hl2 (HA4.out.kept hb) (HJ4.out.kept hb) HI3.out HI4.out).mono ?_; rintro e w2 ⟨rfl, hb2⟩; skip; have hB0' := hB0.kept hb2 hB0.lt; have hB1' := hB1.kept hb2 hB1.lt; have hB2' := hB2.kept hb2 hB2.lt; have hB3' := hB3.kept hb2 hB3.lt; have hbel' := bCall' hb2 hbel; clear hc0 ha0 hc1 hy0 hy1 hr2 hy2 hc3 hf3 hy3 hB0 hB1 hB2 hB3 hbel; have hB0 := hB0'; have hB1 := hB1'; have hB2 := hB2'; have hB3 := hB3'; have hbel := hbel'; clear hB0' hB1' hB2' hB3' hbel'; have hc0 := hB0.cell; have ha0 := hB0.at; have hc1 := hB1.cell; have hy0 := hB0.lt; have hy1 := hB1.lt; have hr2 := hB2.row; have hy2 := hB2.lt; have hc3 := hB3.cell; have hf3 := hB3.frozen; have hy3 := hB3.lt))
  have hBt := (((((hB2.setRow (treeC tree0)).set_other (a := ⟨w.heap.size + 1 + 1 + 1, 0, none⟩) (by simp) (.int .i64 0)).set_other (a := ⟨w.heap.size + 1 + 1 + 1, 1, none⟩) (by simp) (.slice none 0 0)).set_other (a := ⟨w.heap.size + 1 + 1 + 1, 2, none⟩) (by simp) (.slice none 0 0)).set_other (a := ⟨w.heap.size + 1 + 1 + 1, 3, none⟩) (by simp) (.slice none 0 0))
  have hBr := ((((hB3.setRow_other (b := w.heap.size + 2) (by omega) (treeC tree0)).set 0 (.int .i64 0)).set 1 (.slice none 0 0)).set 2 (.slice none 0 0)).set 3 (.slice none 0 0)
  have hlt := ld_tree hBt
  have hlr := ld_rekey (hBr.cast (d := #[I 0, .slice none 0 0, .slice none 0 0, .slice none 0 0]) rfl)
  have hbf : Below w.heap.size w _ := (bSet (bSet (bSet (bSet (below_setRow hbel (show w.heap.size ≤ w.heap.size + 1 + 1 by omega) (treeC tree0)) (p := ⟨w.heap.size + 1 + 1 + 1, 0, none⟩) (by simp; omega) (.int .i64 0)) (p := ⟨w.heap.size + 1 + 1 + 1, 1, none⟩) (by simp; omega) (.slice none 0 0)) (p := ⟨w.heap.size + 1 + 1 + 1, 2, none⟩) (by simp; omega) (.slice none 0 0)) (p := ⟨w.heap.size + 1 + 1 + 1, 3, none⟩) (by simp; omega) (.slice none 0 0))
  exact bodyPost_ret (v := .tuple #[.agg (treeC tree0), .agg #[I 0, .slice none 0 0, .slice none 0 0, .slice none 0 0], .int .i64 (fitsS t.roster lv jn)]) (by simp only [results, Tryd.results27]; simp [Sem.run_bind, asAddr, loadVar_tree, hlt, hlr]) rfl ⟨by rw [HE.out], hbf⟩
end Go.Proofs.YtodgcmakdndbfaaDoor
