/-
  Parts of a proof: Next4, Start, Lives, Lives2. Merged by program.
-/
import Derived.Test.YtodgcmakdndbfaaDoorZ19
/-
  Contracts: plan.Next. Printed by wip/gen/gk.py.
-/
namespace Go.Proofs.YtodgcmakdndbfaaDoor
open Go.RowKit Cot
set_option linter.unusedSimpArgs false
set_option linter.unusedVariables false
theorem sOf {w' : World} {X Y : Nat} {T : Tree} {ty ty2 : TypeId} {a0 a1 a2 a3 : Value} (h : Blk w' X (treeC T) ty) (k : Blk w' Y #[a0, a1, a2, a3] ty2) : cellsAt w' ⟨X, 0, none⟩ 236 = some (treeC T) ∧ w'.cell? ⟨Y, 0, none⟩ = some a0 ∧ w'.cell? ⟨Y, 1, none⟩ = some a1 ∧ w'.cell? ⟨Y, 2, none⟩ = some a2 ∧ w'.cell? ⟨Y, 3, none⟩ = some a3 :=
  ⟨by rw [h.at, cellsIn_tree], by rw [k.cell]; rfl, by rw [k.cell]; rfl, by rw [k.cell]; rfl, by rw [k.cell]; rfl⟩
theorem items_out {t : Tree} {lv jn : List Int} (hz : errI t lv jn = 0) (ao bo : Option Addr) (cap cap2 : Nat) (ep : Int) (vi : Value) (w : World) (hA : SeatsAt w ao (outL t lv jn)) (hJ : SeatsAt w bo (outJ t lv jn)) :
    Calls Tryd.prog 28 #[.agg (treeC (outT t lv jn)), .agg #[.int .i64 ep, .slice ao (outL t lv jn).length cap, .slice bo (outJ t lv jn).length cap2, vi]] w fun e w' => ∃ v, e = .returned v ∧ OwnItems w' w.heap.size v (outI t lv jn) ∧ Below w.heap.size w w' := by
  have h1 : outT t lv jn = nextT t lv jn := by unfold outT; rw [if_pos hz]
  have h2 : outL t lv jn = seatsOf t.roster lv := by unfold outL; rw [if_pos hz]
  have h3 : outJ t lv jn = moveJ t.roster lv jn := by unfold outJ; rw [if_pos hz]
  have h4 : outI t lv jn = itemsS (nextT t lv jn) (seatsOf t.roster lv) (moveJ t.roster lv jn) := by unfold outI; rw [if_pos hz]
  rw [h1, h2, h3, h4]; rw [h2] at hA; rw [h3] at hJ
  have hOK := step_ok hz
  have F := fits_ok hOK.fits
  have hR := next_right hOK
  have h1 := lv_len F; have h2 := jn_len F
  have he : (nextT t lv jn).epoch ≤ 1000000 := by have := hR.epoch1; omega
  exact plan_items (nextT t lv jn) ep vi _ _ ao bo cap cap2 (seats_ok F) (joins_ok F) (by rw [seats_len]; omega) (by rw [joins_len]; omega) he (fun v hv => (inner_good hR hv).2) (fun c hc hh => held_good hR hc hh) (fun x hx => join_good hOK hx) w hA hJ
set_option maxRecDepth 100000 in
set_option maxHeartbeats 1000000 in
theorem plan_Next (t : Tree) (lv jn : List Int) (ao bo : Option Addr) (cap cap2 : Nat) (w : World) (hl1 : lv.length ≤ 35184372088832) (hl2 : jn.length ≤ 35184372088832) (hA : IntsAt w ao lv) (hJ : IntsAt w bo jn) (hi1 : ∀ j, I64 (t.roster j).base) (htb : ∀ j, I64 (t.keys j).base) (hi2 : ∀ j, I64 (t.roster j).who) (hi3 : ∀ x, x ∈ lv → I64 x) (hi4 : ∀ x, x ∈ jn → I64 x) (hT : TzAt w) :
    Calls Tryd.prog 10 #[.agg (treeC t), .agg #[.slice ao lv.length cap, .slice bo jn.length cap2]] w fun e w' => ∃ v1 v2 v3, e = .returned (.tuple #[.agg (treeC (outT t lv jn)), .agg #[I (outE t lv jn), v1, v2, v3], .int .i64 (errI t lv jn)]) ∧ OwnSeats w' w.heap.size v1 (outL t lv jn) ∧ OwnSeats w' w.heap.size v2 (outJ t lv jn) ∧ OwnItems w' w.heap.size v3 (outI t lv jn) ∧ Below w.heap.size w w' := by
  have ht4 : TzAt ((((w.alloc (.cells (treeC t) 31)).alloc (.cells #[.slice ao lv.length cap, .slice bo jn.length cap2] 34)).alloc (.cells (treeC tree0) 31)).alloc (.cells #[I 0, .slice none 0 0, .slice none 0 0, .slice none 0 0] 39)) := hT.kept (bAlloc (bAlloc (bAlloc (bAlloc (Below.refl _ _) _) _) _) _) (Nat.le_refl _)
  have HT4 := Lib.hid ht4; clear ht4 hT
  have hbs : Below w.heap.size w ((((w.alloc (.cells (treeC t) 31)).alloc (.cells #[.slice ao lv.length cap, .slice bo jn.length cap2] 34)).alloc (.cells (treeC tree0) 31)).alloc (.cells #[I 0, .slice none 0 0, .slice none 0 0, .slice none 0 0] 39)) := bAlloc (bAlloc (bAlloc (bAlloc (Below.refl _ _) _) _) _) _
  have k0 : Blk ((((w.alloc (.cells (treeC t) 31)).alloc (.cells #[.slice ao lv.length cap, .slice bo jn.length cap2] 34)).alloc (.cells (treeC tree0) 31)).alloc (.cells #[I 0, .slice none 0 0, .slice none 0 0, .slice none 0 0] 39)) w.heap.size (treeC t) 31 := (((Blk.new w _ _).alloc _).alloc _).alloc _
  have k1 : Blk ((((w.alloc (.cells (treeC t) 31)).alloc (.cells #[.slice ao lv.length cap, .slice bo jn.length cap2] 34)).alloc (.cells (treeC tree0) 31)).alloc (.cells #[I 0, .slice none 0 0, .slice none 0 0, .slice none 0 0] 39)) (w.heap.size + 1) #[.slice ao lv.length cap, .slice bo jn.length cap2] 34 := by
    have h := ((Blk.new (w.alloc (.cells (treeC t) 31)) #[.slice ao lv.length cap, .slice bo jn.length cap2] 34).alloc (.cells (treeC tree0) 31)).alloc (.cells #[I 0, .slice none 0 0, .slice none 0 0, .slice none 0 0] 39); rw [World.size_alloc] at h; exact h
  have k2 : Blk ((((w.alloc (.cells (treeC t) 31)).alloc (.cells #[.slice ao lv.length cap, .slice bo jn.length cap2] 34)).alloc (.cells (treeC tree0) 31)).alloc (.cells #[I 0, .slice none 0 0, .slice none 0 0, .slice none 0 0] 39)) (w.heap.size + 2) (treeC tree0) 31 := by
    have h := (Blk.new ((w.alloc (.cells (treeC t) 31)).alloc (.cells #[.slice ao lv.length cap, .slice bo jn.length cap2] 34)) (treeC tree0) 31).alloc (.cells #[I 0, .slice none 0 0, .slice none 0 0, .slice none 0 0] 39); simp only [World.size_alloc] at h; exact h
  have k3 : Blk ((((w.alloc (.cells (treeC t) 31)).alloc (.cells #[.slice ao lv.length cap, .slice bo jn.length cap2] 34)).alloc (.cells (treeC tree0) 31)).alloc (.cells #[I 0, .slice none 0 0, .slice none 0 0, .slice none 0 0] 39)) (w.heap.size + 3) #[I 0, .slice none 0 0, .slice none 0 0, .slice none 0 0] 39 := by
    have h := Blk.new (((w.alloc (.cells (treeC t) 31)).alloc (.cells #[.slice ao lv.length cap, .slice bo jn.length cap2] 34)).alloc (.cells (treeC tree0) 31)) #[I 0, .slice none 0 0, .slice none 0 0, .slice none 0 0] 39; simp only [World.size_alloc] at h; exact h
  have HBS := Lib.hid hbs; have K0 := Lib.hid k0; have K1 := Lib.hid k1; have K2 := Lib.hid k2; have K3 := Lib.hid k3
  have HA4 := Lib.hid (hA.kept hbs); have HJ4 := Lib.hid (hJ.kept hbs)
  have HI1 := Lib.hid hi1; have HI2 := Lib.hid hi2; have HI3 := Lib.hid hi3; have HI4 := Lib.hid hi4
  clear hbs k0 k1 k2 k3 hA hJ hi1 hi2 hi3 hi4
  have HTB := Lib.hid htb; clear htb
  by_cases hz : errI t lv jn = 0
  rotate_left
  · have hne : (errI t lv jn != 0) = true := by simpa using hz
    have h1 : outT t lv jn = tree0 := by unfold outT; rw [if_neg hz]
    have h2 : outL t lv jn = [] := by unfold outL; rw [if_neg hz]
    have h3 : outJ t lv jn = [] := by unfold outJ; rw [if_neg hz]
    have h4 : outI t lv jn = [] := by unfold outI; rw [if_neg hz]
    have h5 : outE t lv jn = 0 := by unfold outE; rw [if_neg hz]
    have H1 := Lib.hid h1; have H2 := Lib.hid h2; have H3 := Lib.hid h3; have H4 := Lib.hid h4; have H5 := Lib.hid h5
    clear h1 h2 h3 h4 h5 hz
    go_enter Tryd.func10, Tryd.ntmps10
    go_wp2_with (go_at_call 27; refine (plan_step t lv jn ao bo cap cap2 _ hl1 hl2 HA4.out HJ4.out HI1.out HTB.out HI2.out HI3.out HI4.out HT4.out).mono ?_; rintro e w1 ⟨v1, v2, rfl, ho1, ho2, hb⟩; obtain ⟨gao, gcap, rfl, hga⟩ := OwnSeats.form ho1; obtain ⟨gbo, gcap2, rfl, hgb⟩ := OwnSeats.form ho2; have HO1 := Lib.hid ho1; have HO2 := Lib.hid ho2; have HGA := Lib.hid hga; have HGB := Lib.hid hgb; clear ho1 ho2 hga hgb; have hB0 := K0.out.kept hb (by first | omega | (simp; done) | (simp; omega)); have hB1 := K1.out.kept hb (by first | omega | (simp; done) | (simp; omega)); have hB2 := K2.out.kept hb (by first | omega | (simp; done) | (simp; omega)); have hB3 := K3.out.kept hb (by first | omega | (simp; done) | (simp; omega)); have hbel := bCall' hb HBS.out; have hc0 := hB0.cell; have ha0 := hB0.at; have hc1 := hB1.cell; have hy0 := hB0.lt; have hy1 := hB1.lt; have hr2 := hB2.row; have hy2 := hB2.lt; have hc3 := hB3.cell; have hf3 := hB3.frozen; have hy3 := hB3.lt)
    obtain ⟨WF, hWF, hlt, hlr, hbf, hof⟩ := fin_two (b := w.heap.size + 1 + 1) (c := w.heap.size + 1 + 1 + 1) (X := 0) (T := tree0) (.int .i64 0) (.slice none 0 0) (.slice none 0 0) (.slice none 0 0) hB2 hB3 rfl (by omega) (by omega) (by omega) hbel
    rw [← hWF]
    have hlt' := ld_tree ((hlt.alloc (.cells (treeC (outT t lv jn)) 31)).alloc (.cells #[.int .i64 (outE t lv jn), .slice gao (outL t lv jn).length gcap, .slice gbo (outJ t lv jn).length gcap2, .slice none 0 0] 39))
    have hlr' := ld_rekey ((hlr.alloc (.cells (treeC (outT t lv jn)) 31)).alloc (.cells #[.int .i64 (outE t lv jn), .slice gao (outL t lv jn).length gcap, .slice gbo (outJ t lv jn).length gcap2, .slice none 0 0] 39))
    exact bodyPost_ret (v := .tuple #[.agg (treeC tree0), .agg #[.int .i64 0, .slice none 0 0, .slice none 0 0, .slice none 0 0], .int .i64 (errI t lv jn)]) (by simp only [results, Tryd.results10]; simp [Sem.run_bind, asAddr, loadVar_tree, hlt', hlr']) rfl ⟨_, _, _, by rw [H1.out, H5.out], by rw [H2.out]; exact World.ownsRow_nil _ _ _ _, by rw [H3.out]; exact World.ownsRow_nil _ _ _ _, by rw [H4.out]; exact World.ownsRow_nil _ _ _ _, bAlloc (bAlloc hbf _) _⟩
  · have hne : (errI t lv jn != 0) = false := by simpa using hz
    have HZ := Lib.hid hz
    clear hz
    go_enter Tryd.func10, Tryd.ntmps10
    go_wp2_with (first | (go_at_call 27; refine (plan_step t lv jn ao bo cap cap2 _ hl1 hl2 HA4.out HJ4.out HI1.out HTB.out HI2.out HI3.out HI4.out HT4.out).mono ?_; rintro e w1 ⟨v1, v2, rfl, ho1, ho2, hb⟩; obtain ⟨gao, gcap, rfl, hga⟩ := OwnSeats.form ho1; obtain ⟨gbo, gcap2, rfl, hgb⟩ := OwnSeats.form ho2; have HO1 := Lib.hid ho1; have HO2 := Lib.hid ho2; have HGA := Lib.hid hga; have HGB := Lib.hid hgb; clear ho1 ho2 hga hgb; have hB0 := K0.out.kept hb (by first | omega | (simp; done) | (simp; omega)); have hB1 := K1.out.kept hb (by first | omega | (simp; done) | (simp; omega)); have hB2 := K2.out.kept hb (by first | omega | (simp; done) | (simp; omega)); have hB3 := K3.out.kept hb (by first | omega | (simp; done) | (simp; omega)); have hbel := bCall' hb HBS.out; have hc0 := hB0.cell; have ha0 := hB0.at; have hc1 := hB1.cell; have hy0 := hB0.lt; have hy1 := hB1.lt; have hr2 := hB2.row; have hy2 := hB2.lt; have hc3 := hB3.cell; have hf3 := hB3.frozen; have hy3 := hB3.lt) | (go_at_call 28; refine (items_out HZ.out gao gbo gcap gcap2 _ _ _ (HGA.out.kept (bAlloc (bAlloc (Below.refl _ _) _) _)) (HGB.out.kept (bAlloc (bAlloc (Below.refl _ _) _) _))).mono ?_; rintro e w2 ⟨v3, rfl, ho3, hb2⟩; obtain ⟨iao, icap, rfl⟩ := ownV ho3; have HO3 := Lib.hid ho3; clear ho3; have hX := ((Blk.new w1 (treeC (outT t lv jn)) 31).alloc (.cells #[.int .i64 (outE t lv jn), .slice gao (outL t lv jn).length gcap, .slice gbo (outJ t lv jn).length gcap2, .slice none 0 0] 39)).kept hb2 (by simp; omega); have hY : Blk w2 (w1.heap.size + 1) #[.int .i64 (outE t lv jn), .slice gao (outL t lv jn).length gcap, .slice gbo (outJ t lv jn).length gcap2, .slice none 0 0] 39 := (by have h := (Blk.new (w1.alloc (.cells (treeC (outT t lv jn)) 31)) #[.int .i64 (outE t lv jn), .slice gao (outL t lv jn).length gcap, .slice gbo (outJ t lv jn).length gcap2, .slice none 0 0] 39).kept hb2 (by simp); rwa [World.size_alloc] at h); have hB2' := ((hB2.alloc (.cells (treeC (outT t lv jn)) 31)).alloc (.cells #[.int .i64 (outE t lv jn), .slice gao (outL t lv jn).length gcap, .slice gbo (outJ t lv jn).length gcap2, .slice none 0 0] 39)).kept hb2 (by simp; omega); have hB3' := ((hB3.alloc (.cells (treeC (outT t lv jn)) 31)).alloc (.cells #[.int .i64 (outE t lv jn), .slice gao (outL t lv jn).length gcap, .slice gbo (outJ t lv jn).length gcap2, .slice none 0 0] 39)).kept hb2 (by simp; omega); have hbel' := bCall' hb2 (bAlloc (bAlloc hbel (.cells (treeC (outT t lv jn)) 31)) (.cells #[.int .i64 (outE t lv jn), .slice gao (outL t lv jn).length gcap, .slice gbo (outJ t lv jn).length gcap2, .slice none 0 0] 39)); have hz1 : w.heap.size + 4 ≤ w1.heap.size := hB3.lt; clear hc0 ha0 hc1 hy0 hy1 hr2 hy2 hc3 hf3 hy3; have hcX := hX.cell; have hcY := hY.cell; have hfY := hY.frozen; have hX2 : w1.heap.size ≠ w.heap.size + 2 := (by have := HBS.out.size; have := hB2.lt; omega)))
    have hX3 : w1.heap.size ≠ w.heap.size + 3 := by omega
    have hXW := hX.set_other (a := ⟨w1.heap.size + 1, 3, none⟩) (by simp) (.slice iao (outI t lv jn).length icap)
    have hYW : Blk (w2.setCell ⟨w1.heap.size + 1, 3, none⟩ (.slice iao (outI t lv jn).length icap)) (w1.heap.size + 1) #[.int .i64 (outE t lv jn), .slice gao (outL t lv jn).length gcap, .slice gbo (outJ t lv jn).length gcap2, .slice iao (outI t lv jn).length icap] 39 := (hY.set 3 (.slice iao (outI t lv jn).length icap)).cast rfl
    have hB2W := hB2'.set_other (a := ⟨w1.heap.size + 1, 3, none⟩) (by simp; omega) (.slice iao (outI t lv jn).length icap)
    have hB3W := hB3'.set_other (a := ⟨w1.heap.size + 1, 3, none⟩) (by simp; omega) (.slice iao (outI t lv jn).length icap)
    have hbelW := bSet hbel' (p := ⟨w1.heap.size + 1, 3, none⟩) (by simp; omega) (.slice iao (outI t lv jn).length icap)
    have hb1W : Below w1.heap.size w1 (w2.setCell ⟨w1.heap.size + 1, 3, none⟩ (.slice iao (outI t lv jn).length icap)) := bSet (bCall' hb2 (bAlloc (bAlloc (Below.refl _ _) _) _)) (p := ⟨w1.heap.size + 1, 3, none⟩) (by simp) _
    have ho1 := ownBase (ownBelow HO1.out hb1W (Nat.le_refl _)) (base' := w.heap.size + 4) (by simp)
    have ho2 := ownBase (ownBelow HO2.out hb1W (Nat.le_refl _)) (base' := w.heap.size + 4) (by simp)
    have ho3 := ownBase (ownSet HO3.out (a := ⟨w1.heap.size + 1, 3, none⟩) (by simp) (.slice iao (outI t lv jn).length icap)) (base' := w.heap.size + 4) (by simp; omega)
    have HX := Lib.hid hXW; have HY := Lib.hid hYW; have HB2W := Lib.hid hB2W; have HB3W := Lib.hid hB3W; have HBW := Lib.hid hbelW
    have HO1F := Lib.hid ho1; have HO2F := Lib.hid ho2; have HO3F := Lib.hid ho3
    clear ho1 ho2 ho3 HO1 HO2 HO3 hXW hYW hB2W hB3W hbelW hb1W hb2 hX hY hB2' hB3' hbel' hcX hcY hfY hb hB0 hB1 hB2 hB3 hbel
    generalize w2.setCell ⟨w1.heap.size + 1, 3, none⟩ (.slice iao (outI t lv jn).length icap) = W at *
    have hY2 : w1.heap.size + 1 ≠ w.heap.size + 2 := by omega
    have hY3 : w1.heap.size + 1 ≠ w.heap.size + 3 := by omega
    generalize w1.heap.size + 1 = Y at *
    generalize w1.heap.size = X at *
    have hr2 := HB2W.out.row; have hc3 := HB3W.out.cell; have hf3 := HB3W.out.frozen
    go_region_held3 (fun w' => cellsAt w' ⟨X, 0, none⟩ 236 = some (treeC (outT t lv jn)) ∧ w'.cell? ⟨Y, 0, none⟩ = some (I (outE t lv jn)) ∧ w'.cell? ⟨Y, 1, none⟩ = some (.slice gao (outL t lv jn).length gcap) ∧ w'.cell? ⟨Y, 2, none⟩ = some (.slice gbo (outJ t lv jn).length gcap2) ∧ w'.cell? ⟨Y, 3, none⟩ = some (.slice iao (outI t lv jn).length icap))
      (first | (with_reducible refine sOf (ty := 31) (ty2 := 39) ?_ ?_ <;> (repeat (first | with_reducible exact HX.out | with_reducible exact HY.out | with_reducible refine Blk.drew ?_ | (with_reducible refine Blk.setRow_other ?_ ?_ _; rotate_left; omega) | (with_reducible refine Blk.set_other ?_ ?_ _; rotate_left; (simp; omega))))) | go_keep)
      (fail)
    obtain ⟨WF, hWF, hlt, hlr, hbf, hof⟩ := fin_two (b := w.heap.size + 1 + 1) (c := w.heap.size + 1 + 1 + 1) (X := X) (T := outT t lv jn) (.int .i64 (outE t lv jn)) (.slice gao (outL t lv jn).length gcap) (.slice gbo (outJ t lv jn).length gcap2) (.slice iao (outI t lv jn).length icap) HB2W.out HB3W.out rfl (by omega) (by omega) (by omega) HBW.out
    have h1 := hof _ _ _ _ _ _ HO1F.out (by omega) (by omega)
    have h2 := hof _ _ _ _ _ _ HO2F.out (by omega) (by omega)
    have h3 := hof _ _ _ _ _ _ HO3F.out (by omega) (by omega)
    have hlt' := ld_tree hlt.drew; have hlr' := ld_rekey hlr.drew
    clear hof
    rw [← hWF]
    clear hWF hr2 hc3 hf3
    go_wp2
    exact bodyPost_ret (v := .tuple #[.agg (treeC (outT t lv jn)), .agg #[.int .i64 (outE t lv jn), .slice gao (outL t lv jn).length gcap, .slice gbo (outJ t lv jn).length gcap2, .slice iao (outI t lv jn).length icap], .int .i64 0]) (by simp only [results, Tryd.results10]; simp [Sem.run_bind, asAddr, loadVar_tree, hlt', hlr']) rfl ⟨_, _, _, by rw [HZ.out], ownBase (ownBelow h1 ((Below.refl _ _).drew) (Nat.le_refl _)) (by omega), ownBase (ownBelow h2 ((Below.refl _ _).drew) (Nat.le_refl _)) (by omega), ownBase (ownBelow h3 ((Below.refl _ _).drew) (Nat.le_refl _)) (by omega), bDrew hbf⟩
end Go.Proofs.YtodgcmakdndbfaaDoor
/-
  Contracts: coterieref11.Start, coterieref12.Same, plan.Cost. Printed by wip/gen/gk.py.
-/
namespace Cot
open Go.Proofs.YtodgcmakdndbfaaDoor Go
def startK (n : Nat) : Tree := ⟨0, 22, fun j => if j < n then ⟨(j : Int) + 1, 0⟩ else ⟨0, 0⟩, roster0⟩
def startT : Tree := startK 21
theorem treeC_set2 (t : Tree) (j : Nat) (hj : j < 21) (a b : Int) : ((treeC t).setIfInBounds (2 + j * 2) (I a)).setIfInBounds (2 + j * 2 + 1) (I b) = treeC { t with keys := upd t.keys j ⟨a, b⟩ } := by
  apply Array.ext_getElem?
  intro i
  rw [arr_set_get, arr_set_get]
  simp only [Array.size_setIfInBounds, treeC_size]
  by_cases hi : i < 236
  · have hc : ∀ t : Tree, (treeC t)[i]? = some (treeCell t i) := fun t => by unfold treeC; rw [tab_get_lt hi]
    rw [hc, hc]
    by_cases h1 : 2 + j * 2 + 1 = i
    · subst h1; rw [if_pos rfl, if_pos hi]; unfold treeCell; rw [if_neg (by omega), if_neg (by omega), if_pos (by omega)]; unfold keyCell; dsimp only; rw [if_neg (by omega), show (2 + j * 2 + 1 - 2) / 2 = j by omega, upd_same]
    · rw [if_neg h1]
      by_cases h0 : 2 + j * 2 = i
      · subst h0; rw [if_pos rfl, if_pos hi]; unfold treeCell; rw [if_neg (by omega), if_neg (by omega), if_pos (by omega)]; unfold keyCell; dsimp only; rw [if_pos (by omega), show (2 + j * 2 - 2) / 2 = j by omega, upd_same]
      · rw [if_neg h0]
        congr 1
        unfold treeCell
        split
        · rfl
        · split
          · rfl
          · split
            · apply keyCell_eq
              dsimp only; rw [upd_other _ _ _ (by omega)]
            · rfl
  · rw [Array.getElem?_eq_none (by rw [treeC_size]; omega), Array.getElem?_eq_none (by rw [treeC_size]; omega)]
    simp [hi]
theorem startK_step (n : Nat) : { startK n with keys := upd (startK n).keys n ⟨(n : Int) + 1, 0⟩ } = startK (n + 1) := by
  unfold startK
  simp only [Tree.mk.injEq, true_and, and_true]
  funext j
  unfold upd
  by_cases h : j = n
  · subst h; dsimp only; rw [if_pos rfl, if_pos (by omega)]
  · dsimp only; rw [if_neg h]
    by_cases h2 : j < n
    · rw [if_pos h2, if_pos (by omega)]
    · rw [if_neg h2, if_neg (by omega)]
end Cot
namespace Go.Proofs.YtodgcmakdndbfaaDoor
open Go.RowKit Cot
set_option linter.unusedSimpArgs false
set_option linter.unusedVariables false
set_option maxRecDepth 100000 in
set_option maxHeartbeats 1000000 in
theorem ref11_Start (w : World) : Calls Tryd.prog 43 #[] w fun e w' => e = .returned (.agg (treeC startT)) ∧ Below w.heap.size w w' := by
  go_enter Tryd.func43, Tryd.ntmps43
  go_wp2
  go_loopw [2] (fun i wr => ∃ n : Nat, n ≤ 21 ∧ i = .int .i64 n ∧ Blk wr (w.heap.size + 1) (treeC (startK n)) 31 ∧ Blk wr w.heap.size (treeC tree0) 31 ∧ Below w.heap.size w wr) (fun i _ => 21 - (intOf i).toNat)
  case atStart =>
    refine ⟨0, by omega, rfl, ?_, (Blk.new w _ _).alloc _, bAlloc (bAlloc (Below.refl _ _) _) _⟩
    have h := Blk.new (w.alloc (.cells (treeC tree0) 31)) (treeC ⟨0, 22, keys0, roster0⟩) 31
    rw [World.size_alloc] at h
    exact h.cast rfl
  case round =>
    obtain ⟨n, hn, rfl, hB1, hB0, hbel⟩ := hrel
    have hc1 := hB1.cell; have hf1 := hB1.frozen; have ha1 := hB1.at; have hy0 := hB0.lt; have hr0 := hB0.row
    by_cases hlt : n < 21
    · go_wp2
      have hB1' := ((hB1.set (2 + n * 2) (I ((n : Int) + 1))).set (2 + n * 2 + 1) (I 0)).cast (treeC_set2 (startK n) n hlt ((n : Int) + 1) 0)
      rw [startK_step] at hB1'
      have hB0' := (hB0.set_other (a := ⟨w.heap.size + 1, 2 + n * 2, none⟩) (by simp) (I ((n : Int) + 1))).set_other (a := ⟨w.heap.size + 1, 2 + n * 2 + 1, none⟩) (by simp) (I 0)
      have hbel' := bSet (bSet hbel (p := ⟨w.heap.size + 1, 2 + n * 2, none⟩) (by simp) (I ((n : Int) + 1))) (p := ⟨w.heap.size + 1, 2 + n * 2 + 1, none⟩) (by simp) (I 0)
      clear hc1 hf1 ha1
      go_roundw
      case rel => exact ⟨n + 1, by omega, by go_num, hB1', hB0', hbel'⟩
      case measure => simp [intOf]; omega
    · have : n = 21 := by omega
      subst this
      go_wp2
      have hlt2 := ld_tree (hB0.setRow (treeC (startK 21)))
      exact bodyPost_ret (v := .agg (treeC (startK 21))) (by simp only [results, Tryd.results43]; simp [Sem.run_bind, asAddr, loadVar_tree, hlt2]) rfl ⟨rfl, below_setRow hbel (Nat.le_refl _) _⟩
end Go.Proofs.YtodgcmakdndbfaaDoor
/-
  Laws: the example of the statements on plan: three join, one leaves.
-/
namespace Cot
open Go.Proofs.YtodgcmakdndbfaaDoor
set_option maxRecDepth 100000
theorem startT_right : RightTree startT where
  epoch0 := by decide
  epoch1 := by decide
  fresh0 := by decide
  fresh1 := by decide
  keys := by decide +kernel
  roster := fun j _ => .inl rfl
  kb := by decide +kernel
  eb := fun s _ => ⟨by show (0 : Int) < 22 ∧ (0 : Int) ≤ 0; decide, by show ∀ j, j < 21 → (startT.keys j).base ≠ 0; decide +kernel⟩
theorem fits_by {r : Nat → Entry} {lv jn : List Int} (h : RightRoster r) (h1 : scanS r true [] lv = 0) (h2 : scanS r false lv jn = 0) (h3 : ¬ ((64 : Int) - cntOf (takenP r) 64 + lv.length < jn.length)) : fitsS r lv jn = 0 := by
  unfold fitsS; rw [if_neg (by simpa using h), if_neg (by simpa using h1), if_neg (by simpa using h2), if_neg h3]
def J3 : List Int := [1, 2, 3]
theorem start_ok : StepOK startT [] J3 :=
  ⟨startT_right, by decide, fits_by startT_right.roster (by decide +kernel) (by decide +kernel) (by decide +kernel), by decide +kernel⟩
def T3 : Tree := nextT startT [] J3
theorem T3_right : RightTree T3 := next_right start_ok
theorem T3_ok : StepOK T3 [1] [] :=
  ⟨T3_right, by decide +kernel, fits_by T3_right.roster (by decide +kernel) (by decide +kernel) (by decide +kernel), by decide +kernel⟩
theorem out3 : outT startT [] J3 = T3 := by unfold outT; rw [if_pos (ok_step start_ok)]; rfl
def T4 : Tree := nextT T3 [1] []
theorem out4 : outT T3 [1] [] = T4 := by unfold outT; rw [if_pos (ok_step T3_ok)]; rfl
theorem T4_epoch : T4.epoch = 2 := by decide +kernel
theorem T4_fresh : T4.fresh = 28 := by decide +kernel
theorem outI4 : outI T3 [1] [] = itemsS T4 (seatsOf T3.roster [1]) (moveJ T3.roster [1] []) := by unfold outI; rw [if_pos (ok_step T3_ok)]; rfl
theorem items4 : (outI T3 [1] []).length = 4 := by rw [outI4]; decide +kernel
theorem item4 : (outI T3 [1] [])[0]? = some ⟨5, 22, ⟨23, 1⟩, ⟨25, 0⟩⟩ := by rw [outI4]; decide +kernel
end Cot
/-
  Contracts: coterieref12.Same, plan.Cost, three, lives. Printed by wip/gen/gk.py.
-/
namespace Go.Proofs.YtodgcmakdndbfaaDoor
open Go.RowKit Cot
set_option linter.unusedSimpArgs false
set_option linter.unusedVariables false
set_option maxRecDepth 100000 in
set_option maxHeartbeats 1000000 in
theorem ref12_Same (ep : Int) (l1 l2 : List Seat) (li : List Itm) (a1 b1 e1 a2 b2 e2 : Option Addr) (c1 d1 f1 c2 d2 f2 : Nat) (h1 : l1.length ≤ 35184372088832) (h2 : l2.length ≤ 35184372088832) (h3 : li.length ≤ 35184372088832) (w : World)
    (hA1 : SeatsAt w a1 l1) (hB1 : SeatsAt w b1 l2) (hE1 : ItemsAt w e1 li) (hA2 : SeatsAt w a2 l1) (hB2 : SeatsAt w b2 l2) (hE2 : ItemsAt w e2 li) :
    Calls Tryd.prog 24 #[.agg #[.int .i64 ep, .slice a1 l1.length c1, .slice b1 l2.length d1, .slice e1 li.length f1], .agg #[.int .i64 ep, .slice a2 l1.length c2, .slice b2 l2.length d2, .slice e2 li.length f2]] w fun e w' => e = .returned (.bool true) ∧ Below w.heap.size w w' := by
  have hbs : Below w.heap.size w ((w.alloc (.cells #[.int .i64 ep, .slice a1 l1.length c1, .slice b1 l2.length d1, .slice e1 li.length f1] 39)).alloc (.cells #[.int .i64 ep, .slice a2 l1.length c2, .slice b2 l2.length d2, .slice e2 li.length f2] 39)) := bAlloc (bAlloc (Below.refl _ _) _) _
  have k0 : Blk ((w.alloc (.cells #[.int .i64 ep, .slice a1 l1.length c1, .slice b1 l2.length d1, .slice e1 li.length f1] 39)).alloc (.cells #[.int .i64 ep, .slice a2 l1.length c2, .slice b2 l2.length d2, .slice e2 li.length f2] 39)) w.heap.size #[.int .i64 ep, .slice a1 l1.length c1, .slice b1 l2.length d1, .slice e1 li.length f1] 39 := (Blk.new w _ _).alloc _
  have k1 : Blk ((w.alloc (.cells #[.int .i64 ep, .slice a1 l1.length c1, .slice b1 l2.length d1, .slice e1 li.length f1] 39)).alloc (.cells #[.int .i64 ep, .slice a2 l1.length c2, .slice b2 l2.length d2, .slice e2 li.length f2] 39)) (w.heap.size + 1) #[.int .i64 ep, .slice a2 l1.length c2, .slice b2 l2.length d2, .slice e2 li.length f2] 39 := by
    have h := Blk.new (w.alloc (.cells #[.int .i64 ep, .slice a1 l1.length c1, .slice b1 l2.length d1, .slice e1 li.length f1] 39)) #[.int .i64 ep, .slice a2 l1.length c2, .slice b2 l2.length d2, .slice e2 li.length f2] 39; rwa [World.size_alloc] at h
  have HBS := Lib.hid hbs; have K0 := Lib.hid k0; have K1 := Lib.hid k1
  have HA1 := Lib.hid hA1; have HB1 := Lib.hid hB1; have HE1 := Lib.hid hE1; have HA2 := Lib.hid hA2; have HB2 := Lib.hid hB2; have HE2 := Lib.hid hE2
  clear hbs k0 k1 hA1 hB1 hE1 hA2 hB2 hE2
  go_enter Tryd.func24, Tryd.ntmps24
  go_wp2_with (first
    | (go_at_call 41; refine (ref09_Same l2 b1 b2 d1 d2 h2 _ (HB1.out.kept hbel) (HB2.out.kept hbel)).mono ?_; rintro e w2 ⟨rfl, hb2⟩; have hB0' := hB0.kept hb2 hB0.lt; have hB1' := hB1.kept hb2 hB1.lt; have hbel2 := bCall' hb2 hbel; clear hc0 hc1; have hc0 := hB0'.cell; have hc1 := hB1'.cell)
    | (go_at_call 41; refine (ref09_Same l1 a1 a2 c1 c2 h1 _ (HA1.out.kept HBS.out) (HA2.out.kept HBS.out)).mono ?_; rintro e w1 ⟨rfl, hb⟩; have hB0 := K0.out.kept hb K0.out.lt; have hB1 := K1.out.kept hb K1.out.lt; have hbel := bCall' hb HBS.out; have hc0 := hB0.cell; have hc1 := hB1.cell)
    | (go_at_call 42; refine (ref12_SameItems li e1 e2 f1 f2 h3 _ (HE1.out.kept hbel2) (HE2.out.kept hbel2)).mono ?_; rintro e w3 ⟨rfl, hb3⟩; have hbel3 := bCall' hb3 hbel2))
  go_ret
  exact ⟨rfl, hbel3⟩
set_option maxRecDepth 100000 in
set_option maxHeartbeats 1000000 in
theorem plan_Cost (t : Tree) (lv jn : List Int) (ao bo : Option Addr) (cap cap2 : Nat) (w : World) (hl1 : lv.length ≤ 35184372088832) (hl2 : jn.length ≤ 35184372088832) (hA : IntsAt w ao lv) (hJ : IntsAt w bo jn) (hi1 : ∀ j, I64 (t.roster j).base) (htb : ∀ j, I64 (t.keys j).base) (hi2 : ∀ j, I64 (t.roster j).who) (hi3 : ∀ x, x ∈ lv → I64 x) (hi4 : ∀ x, x ∈ jn → I64 x) (hT : TzAt w) :
    Calls Tryd.prog 25 #[.agg (treeC t), .agg #[.slice ao lv.length cap, .slice bo jn.length cap2]] w fun e w' => e = .returned (.tuple #[.int .i64 ((outI t lv jn).length : Nat), .int .i64 (errI t lv jn)]) ∧ Below w.heap.size w w' := by
  have hbs : Below w.heap.size w ((w.alloc (.cells (treeC t) 31)).alloc (.cells #[.slice ao lv.length cap, .slice bo jn.length cap2] 34)) := bAlloc (bAlloc (Below.refl _ _) _) _
  have HBS := Lib.hid hbs; have HA4 := Lib.hid (hA.kept hbs); have HJ4 := Lib.hid (hJ.kept hbs); have HT4 := Lib.hid (hT.kept hbs (Nat.le_refl _))
  have HI1 := Lib.hid hi1; have HI2 := Lib.hid hi2; have HI3 := Lib.hid hi3; have HI4 := Lib.hid hi4; have HTB := Lib.hid htb
  clear hbs hA hJ hT hi1 hi2 hi3 hi4 htb
  go_enter Tryd.func25, Tryd.ntmps25
  go_wp2_with (go_at_call 10; refine (plan_Next t lv jn ao bo cap cap2 _ hl1 hl2 HA4.out HJ4.out HI1.out HTB.out HI2.out HI3.out HI4.out HT4.out).mono ?_; rintro e w1 ⟨v1, v2, v3, rfl, ho1, ho2, ho3, hb⟩; obtain ⟨a1, c1, rfl⟩ := ownV ho1; obtain ⟨a2, c2, rfl⟩ := ownV ho2; obtain ⟨a3, c3, rfl⟩ := ownV ho3; have HO := Lib.hid (And.intro ho1 (And.intro ho2 ho3)); have hbel := bCall' hb HBS.out; clear ho1 ho2 ho3)
  refine bodyPost_ret (results_tmp2 rfl _ _ _) rfl ?_
  exact ⟨rfl, bAlloc (bAlloc hbel _) _⟩
theorem i64_0 : I64 0 := by unfold I64; decide
theorem i64_J3 : ∀ x, x ∈ J3 → I64 x := by
  intro x hx
  unfold J3 at hx
  simp only [List.mem_cons, List.not_mem_nil, or_false] at hx
  rcases hx with rfl | rfl | rfl <;> (unfold I64; decide)
theorem ints3 (w : World) : IntsAt (w.alloc (.cells #[.int .i64 1, .int .i64 2, .int .i64 3] 3)) (some ⟨w.heap.size, 0, none⟩) J3 := by
  intro k x hk
  have hB := Blk.new w #[.int .i64 1, .int .i64 2, .int .i64 3] 3
  refine ⟨w.heap.size, 0, rfl, hB.lt, ?_⟩
  rw [hB.cell]
  match k, hk with
  | 0, hk => cases hk; rfl
  | 1, hk => cases hk; rfl
  | 2, hk => cases hk; rfl
set_option maxRecDepth 100000 in
set_option maxHeartbeats 1000000 in
theorem law12_three (w : World) : Calls Tryd.prog 26 #[] w fun e w' => e = .returned (.agg (treeC T3)) ∧ Below w.heap.size w w' := by
  go_enter Tryd.func26, Tryd.ntmps26
  go_wp2_with (go_at_call 43; refine (ref11_Start _).mono ?_; rintro e w1 ⟨rfl, hb⟩)
  go_wp2_with (go_at_call 22; refine (ref12_Next startT [] J3 none (some ⟨w1.heap.size, 0, none⟩) 0 3 _ (by decide) (by decide) (fun _ _ h => by cases h) (ints3 w1) (fun j => i64_0) (fun j => i64_0) (fun _ h => by cases h) i64_J3).mono ?_; rintro e w2 ⟨v1, v2, v3, rfl, ho1, ho2, ho3, hb2⟩; obtain ⟨a1, c1, rfl⟩ := ownV ho1; obtain ⟨a2, c2, rfl⟩ := ownV ho2; obtain ⟨a3, c3, rfl⟩ := ownV ho3; have hbw1 := bCall' hb (bAlloc (Below.refl w.heap.size w) (.cells (treeC tree0) 31)); have hbel := bCall' hb2 (bAlloc hbw1 (.cells #[.int .i64 1, .int .i64 2, .int .i64 3] 3)); have hB := ((Blk.new w (treeC tree0) 31).kept hb (Blk.new _ _ _).lt); have hB2 := ((hB.alloc (.cells #[.int .i64 1, .int .i64 2, .int .i64 3] 3)).kept hb2 (hB.alloc _).lt); have hr2 := hB2.row; have hy2 := hB2.lt)
  have hlt := ld_tree (((hB2.setRow (treeC (outT startT [] J3))).alloc (.cells (treeC (outT startT [] J3)) 31)).alloc (.cells #[.int .i64 (outE startT [] J3), .slice a1 (outL startT [] J3).length c1, .slice a2 (outJ startT [] J3).length c2, .slice a3 (outI startT [] J3).length c3] 39))
  exact bodyPost_ret (v := .agg (treeC (outT startT [] J3))) (by simp only [results, Tryd.results26]; simp [Sem.run_bind, asAddr, loadVar_tree, hlt]) rfl ⟨by rw [out3], bAlloc (bAlloc (below_setRow hbel (Nat.le_refl _) _) _) _⟩
theorem joinR_all (P : Entry → Prop) {r : Nat → Entry} {fl : List Nat} {jn : List Int} {since base : Int} (h0 : ∀ j, P (r j)) : ∀ k, (∀ i, i < k → P ⟨jn.getD i 0, base + i, since⟩) → ∀ j, P (joinR r fl jn since base k j)
  | 0, _, j => h0 j
  | k + 1, h, j => by
    show P (upd _ _ _ j)
    unfold upd
    split
    · exact h k (by omega)
    · exact joinR_all P h0 k (fun i hi => h i (by omega)) j
def E64 (e : Entry) : Prop := I64 e.base ∧ I64 e.who
theorem T3_roster : ∀ j, E64 (T3.roster j) := by
  intro j
  refine joinR_all E64 (fun j => ?_) _ ?_ j
  · unfold goneR
    split
    · exact ⟨i64_0, i64_0⟩
    · exact ⟨i64_0, i64_0⟩
  · intro i hi
    have hc : cntR startT [] = 0 := by decide
    have h22 : startT.fresh = 22 := rfl
    rw [hc, h22]
    have hi3 : i < 3 := hi
    match i, hi3 with
    | 0, _ => constructor <;> (unfold I64; decide)
    | 1, _ => constructor <;> (unfold I64; decide)
    | 2, _ => constructor <;> (unfold I64; decide)
theorem turn_i64 {k : Nat → Key} {p : Nat → Bool} {f : Int} (hf : 0 ≤ f) (hf2 : f ≤ 100000) (hk : ∀ j, I64 (k j).base) (j : Nat) : I64 (turnK k p f j).base := by
  rw [turn_base]
  split
  · have h : aboveN p (j + 1) ≤ 21 := by unfold aboveN; exact Nat.le_trans (cntOf_le _ _) (by omega)
    unfold I64; omega
  · exact hk j
theorem T3_keys : ∀ j, I64 (T3.keys j).base := fun j => turn_i64 (by decide) (by decide) (fun j => by
  show I64 (if j < 21 then (⟨(j : Int) + 1, 0⟩ : Key) else ⟨0, 0⟩).base
  split
  · unfold I64; dsimp only; omega
  · exact i64_0) j
theorem outE4 : outE T3 [1] [] = 2 := by unfold outE; rw [if_pos (ok_step T3_ok)]; decide
theorem int1 (w : World) : IntsAt (w.alloc (.cells #[.int .i64 1] 3)) (some ⟨w.heap.size, 0, none⟩) [1] := by
  intro k x hk
  have hB := Blk.new w #[.int .i64 1] 3
  refine ⟨w.heap.size, 0, rfl, hB.lt, ?_⟩
  rw [hB.cell]
  match k, hk with
  | 0, hk => cases hk; rfl
theorem i64_1 : ∀ x : Int, x ∈ [1] → I64 x := by
  intro x hx
  simp only [List.mem_cons, List.not_mem_nil, or_false] at hx
  subst hx; unfold I64; decide
set_option maxRecDepth 100000 in
set_option maxHeartbeats 1000000 in
theorem law12_lives (w : World) (hT : TzAt w) : Calls Tryd.prog 9 #[] w fun e w' => e = .returned (.bool true) ∧ Below w.heap.size w w' := by
  go_enter Tryd.func9, Tryd.ntmps9
  go_wp2_with (first
    | (go_at_call 10; refine (plan_Next T3 [1] [] (some ⟨w1.heap.size, 0, none⟩) none 1 0 _ (by decide) (by decide) (int1 w1) (fun _ _ h => by cases h) (fun j => (T3_roster j).1) T3_keys (fun j => (T3_roster j).2) i64_1 (fun _ h => by cases h) (hT.kept (bAlloc hb _) (Nat.le_refl _))).mono ?_; rintro e w2 ⟨v1, v2, v3, rfl, ho1, ho2, ho3, hb2⟩; obtain ⟨a1, c1, rfl⟩ := ownV ho1; obtain ⟨a2, c2, rfl⟩ := ownV ho2; obtain ⟨a3, c3, rfl, hi3⟩ := OwnItems.form ho3; have hbel := bCall' hb2 (bAlloc hb (.cells #[.int .i64 1] 3)); clear ho1 ho2 ho3; obtain ⟨ib, io, rfl, hib, hi0, hi1, hi2, hi4, hi5, hi6⟩ := hi3 0 _ item4; have e1 := ok_step T3_ok; have e2 := outE4; have e3 := items4; have e4 := out4; simp only [e1, e2, e3, e4]; have e5 := T4_epoch; have e6 := T4_fresh; clear e1 e2 e3 e4 hi3; simp only [Nat.zero_mul, Nat.add_zero] at hi0 hi1 hi2 hi4 hi5 hi6)
    | (go_at_call 26; refine (law12_three _).mono ?_; rintro e w1 ⟨rfl, hb⟩))
  go_ret
  exact ⟨ret_bool (by decide), bAlloc (bAlloc hbel _) _⟩
end Go.Proofs.YtodgcmakdndbfaaDoor
