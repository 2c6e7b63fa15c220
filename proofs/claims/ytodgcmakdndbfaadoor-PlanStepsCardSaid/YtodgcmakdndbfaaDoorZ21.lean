/-
  Parts of a proof: Steps, Args, Laid. Merged by program.
-/
import Derived.Test.YtodgcmakdndbfaaDoorZ20
import Derived.Test.YtodgcmakdndbfaaDoorRows
import Derived.ProofKit
import Derived.LaidMore
import Derived.OpenShut
import Derived.Carry
import Derived.Stop.Joined
import Derived.SizedLaws
import Derived.Lib.SmallJoins
/-
  Contracts: the walk of PlanSteps. Printed by wip/gen/gk.py.
-/
namespace Go.Proofs.YtodgcmakdndbfaaDoor
open Go.RowKit Cot
set_option linter.unusedSimpArgs false
set_option linter.unusedVariables false
theorem outL_len (t : Tree) (lv jn : List Int) : (outL t lv jn).length ≤ lv.length := by
  unfold outL; split
  · rw [seats_len]; exact Nat.le_refl _
  · exact Nat.zero_le _
theorem outJ_len (t : Tree) (lv jn : List Int) : (outJ t lv jn).length ≤ jn.length := by
  unfold outJ; split
  · rw [joins_len]; exact Nat.le_refl _
  · exact Nat.zero_le _
theorem outI_len (t : Tree) (lv jn : List Int) : (outI t lv jn).length ≤ 1000 := by
  unfold outI; split
  · rename_i h
    have h1 := itemsS_len (nextT t lv jn) (seatsOf t.roster lv) (moveJ t.roster lv jn)
    have h2 := jn_len (fits_ok (step_ok h).fits)
    rw [joins_len] at h1; omega
  · exact Nat.zero_le _
set_option maxRecDepth 100000 in
set_option maxHeartbeats 2000000 in
theorem law12_PlanSteps (t : Tree) (lv jn : List Int) (ao bo : Option Addr) (cap cap2 : Nat) (w : World) (hl1 : lv.length ≤ 35184372088832) (hl2 : jn.length ≤ 35184372088832) (hA : IntsAt w ao lv) (hJ : IntsAt w bo jn) (hi1 : ∀ j, I64 (t.roster j).base) (htb : ∀ j, I64 (t.keys j).base) (hi2 : ∀ j, I64 (t.roster j).who) (hi3 : ∀ x, x ∈ lv → I64 x) (hi4 : ∀ x, x ∈ jn → I64 x) (hT : TzAt w) :
    Calls Tryd.prog 8 #[.agg (treeC t), .agg #[.slice ao lv.length cap, .slice bo jn.length cap2]] w fun e w' => e = .returned (.bool true) ∧ Below w.heap.size w w' := by
  have hbs : Below w.heap.size w ((w.alloc (.cells (treeC t) 31)).alloc (.cells #[.slice ao lv.length cap, .slice bo jn.length cap2] 34)) := bAlloc (bAlloc (Below.refl _ _) _) _
  have k0 : Blk ((w.alloc (.cells (treeC t) 31)).alloc (.cells #[.slice ao lv.length cap, .slice bo jn.length cap2] 34)) w.heap.size (treeC t) 31 := (Blk.new w _ _).alloc _
  have k1 : Blk ((w.alloc (.cells (treeC t) 31)).alloc (.cells #[.slice ao lv.length cap, .slice bo jn.length cap2] 34)) (w.heap.size + 1) #[.slice ao lv.length cap, .slice bo jn.length cap2] 34 := by
    have h := Blk.new (w.alloc (.cells (treeC t) 31)) #[.slice ao lv.length cap, .slice bo jn.length cap2] 34; rwa [World.size_alloc] at h
  have HBS := Lib.hid hbs; have K0 := Lib.hid k0; have K1 := Lib.hid k1
  have HA := Lib.hid hA; have HJ := Lib.hid hJ; have HT := Lib.hid hT
  have HI1 := Lib.hid hi1; have HI2 := Lib.hid hi2; have HI3 := Lib.hid hi3; have HI4 := Lib.hid hi4; have HTB := Lib.hid htb
  clear hbs k0 k1 hA hJ hT hi1 hi2 hi3 hi4 htb
  by_cases hz : errI t lv jn = 0
  · have hne : (errI t lv jn == 0) = true := by simpa using hz
    have hck : checkTreeI (outT t lv jn) = 0 := checkTree_yes (by unfold outT; rw [if_pos hz]; exact next_right (step_ok hz))
    clear hz
    go_enter Tryd.func8, Tryd.ntmps8
    go_wp2_with (first
      | (go_at_call 9; refine (law12_lives _ (HT.out.kept HBS.out (Nat.le_refl _))).mono ?_; rintro e w1 ⟨rfl, hb1⟩; have hB0 := K0.out.kept hb1 K0.out.lt; have hB1 := K1.out.kept hb1 K1.out.lt; have hbel := bCall' hb1 HBS.out; have ha0 := hB0.at; have hc0 := hB0.cell; have hc1 := hB1.cell; have hy0 := hB0.lt; have hy1 := hB1.lt)
      | (go_at_call 10; refine (plan_Next t lv jn ao bo cap cap2 _ hl1 hl2 (HA.out.kept hbel) (HJ.out.kept hbel) HI1.out HTB.out HI2.out HI3.out HI4.out (HT.out.kept hbel (Nat.le_refl _))).mono ?_; rintro e w2 ⟨v1, v2, v3, rfl, ho1, ho2, ho3, hb2⟩; obtain ⟨a1, c1, rfl, ha1⟩ := OwnSeats.form ho1; obtain ⟨b1, d1, rfl, hb1⟩ := OwnSeats.form ho2; obtain ⟨e1, f1, rfl, he1⟩ := OwnItems.form ho3; clear ho1 ho2 ho3; have HA1 := Lib.hid ha1; have HB1 := Lib.hid hb1; have HE1 := Lib.hid he1; clear ha1 hb1 he1; have hC0 := hB0.kept hb2 hy0; have hC1 := hB1.kept hb2 hy1; have hbel2 := bCall' hb2 hbel; clear ha0 hc0 hc1 hy0 hy1 hB0 hB1 hbel; have ha0 := hC0.at; have hc0 := hC0.cell; have hc1 := hC1.cell; have hy0 := hC0.lt; have hy1 := hC1.lt)
      | (go_at_call 22; refine (ref12_Next t lv jn ao bo cap cap2 _ hl1 hl2 (HA.out.kept (bAlloc (bAlloc hbel2 _) _)) (HJ.out.kept (bAlloc (bAlloc hbel2 _) _)) HI1.out HI2.out HI3.out HI4.out).mono ?_; rintro e w3 ⟨v1, v2, v3, rfl, ho1, ho2, ho3, hb3⟩; obtain ⟨a2, c2, rfl, ha2⟩ := OwnSeats.form ho1; obtain ⟨b2, d2, rfl, hb2⟩ := OwnSeats.form ho2; obtain ⟨e2, f2, rfl, he2⟩ := OwnItems.form ho3; clear ho1 ho2 ho3; have HA2 := Lib.hid ha2; have HB2 := Lib.hid hb2; have HE2 := Lib.hid he2; clear ha2 hb2 he2; have hX := ((Blk.new w2 (treeC (outT t lv jn)) 31).alloc (.cells #[.int .i64 (outE t lv jn), .slice a1 (outL t lv jn).length c1, .slice b1 (outJ t lv jn).length d1, .slice e1 (outI t lv jn).length f1] 39)).kept hb3 (by simp; omega); have hY : Blk w3 (w2.heap.size + 1) #[.int .i64 (outE t lv jn), .slice a1 (outL t lv jn).length c1, .slice b1 (outJ t lv jn).length d1, .slice e1 (outI t lv jn).length f1] 39 := (by have h := (Blk.new (w2.alloc (.cells (treeC (outT t lv jn)) 31)) #[.int .i64 (outE t lv jn), .slice a1 (outL t lv jn).length c1, .slice b1 (outJ t lv jn).length d1, .slice e1 (outI t lv jn).length f1] 39).kept hb3 (by simp); rwa [World.size_alloc] at h); have hD0 := ((hC0.alloc (.cells (treeC (outT t lv jn)) 31)).alloc (.cells #[.int .i64 (outE t lv jn), .slice a1 (outL t lv jn).length c1, .slice b1 (outJ t lv jn).length d1, .slice e1 (outI t lv jn).length f1] 39)).kept hb3 (by simp; omega); have hD1 := ((hC1.alloc (.cells (treeC (outT t lv jn)) 31)).alloc (.cells #[.int .i64 (outE t lv jn), .slice a1 (outL t lv jn).length c1, .slice b1 (outJ t lv jn).length d1, .slice e1 (outI t lv jn).length f1] 39)).kept hb3 (by simp; omega); have hbel3 := bCall' hb3 (bAlloc (bAlloc hbel2 (.cells (treeC (outT t lv jn)) 31)) (.cells #[.int .i64 (outE t lv jn), .slice a1 (outL t lv jn).length c1, .slice b1 (outJ t lv jn).length d1, .slice e1 (outI t lv jn).length f1] 39)); have HS1 := Lib.hid ((HA1.out.kept (bAlloc (bAlloc (Below.refl _ _) (.cells (treeC (outT t lv jn)) 31)) (.cells #[.int .i64 (outE t lv jn), .slice a1 (outL t lv jn).length c1, .slice b1 (outJ t lv jn).length d1, .slice e1 (outI t lv jn).length f1] 39))).kept hb3); have HS2 := Lib.hid ((HB1.out.kept (bAlloc (bAlloc (Below.refl _ _) (.cells (treeC (outT t lv jn)) 31)) (.cells #[.int .i64 (outE t lv jn), .slice a1 (outL t lv jn).length c1, .slice b1 (outJ t lv jn).length d1, .slice e1 (outI t lv jn).length f1] 39))).kept hb3); have HS3 := Lib.hid ((HE1.out.kept (bAlloc (bAlloc (Below.refl _ _) (.cells (treeC (outT t lv jn)) 31)) (.cells #[.int .i64 (outE t lv jn), .slice a1 (outL t lv jn).length c1, .slice b1 (outJ t lv jn).length d1, .slice e1 (outI t lv jn).length f1] 39))).kept hb3); clear ha0 hc0 hc1 hy0 hy1 hC0 hC1 hbel2; have ha0 := hD0.at; have hc0 := hD0.cell; have hc1 := hD1.cell; have haX := hX.at; have hcY := hY.cell; have hyX := hX.lt; have hyY := hY.lt; have hy0 := hD0.lt; have hy1 := hD1.lt)
      | (go_at_call 24; refine (ref12_Same (outE t lv jn) (outL t lv jn) (outJ t lv jn) (outI t lv jn) a1 b1 e1 a2 b2 e2 c1 d1 f1 c2 d2 f2 (Nat.le_trans (outL_len t lv jn) hl1) (Nat.le_trans (outJ_len t lv jn) hl2) (Nat.le_trans (outI_len t lv jn) (by decide)) _ (HS1.out.kept (bAlloc (bAlloc (Below.refl _ _) _) _)) (HS2.out.kept (bAlloc (bAlloc (Below.refl _ _) _) _)) (HS3.out.kept (bAlloc (bAlloc (Below.refl _ _) _) _)) (HA2.out.kept (bAlloc (bAlloc (Below.refl _ _) _) _)) (HB2.out.kept (bAlloc (bAlloc (Below.refl _ _) _) _)) (HE2.out.kept (bAlloc (bAlloc (Below.refl _ _) _) _))).mono ?_; rintro e w4 ⟨rfl, hb4⟩; have hZ : Blk w4 (w3.heap.size + 1) #[.int .i64 (outE t lv jn), .slice a2 (outL t lv jn).length c2, .slice b2 (outJ t lv jn).length d2, .slice e2 (outI t lv jn).length f2] 39 := (by have h := (Blk.new (w3.alloc (.cells (treeC (outT t lv jn)) 31)) #[.int .i64 (outE t lv jn), .slice a2 (outL t lv jn).length c2, .slice b2 (outJ t lv jn).length d2, .slice e2 (outI t lv jn).length f2] 39).kept hb4 (by simp); rwa [World.size_alloc] at h); have hX' := ((hX.alloc (.cells (treeC (outT t lv jn)) 31)).alloc (.cells #[.int .i64 (outE t lv jn), .slice a2 (outL t lv jn).length c2, .slice b2 (outJ t lv jn).length d2, .slice e2 (outI t lv jn).length f2] 39)).kept hb4 (by simp; omega); have hD0' := ((hD0.alloc (.cells (treeC (outT t lv jn)) 31)).alloc (.cells #[.int .i64 (outE t lv jn), .slice a2 (outL t lv jn).length c2, .slice b2 (outJ t lv jn).length d2, .slice e2 (outI t lv jn).length f2] 39)).kept hb4 (by simp; omega); have hD1' := ((hD1.alloc (.cells (treeC (outT t lv jn)) 31)).alloc (.cells #[.int .i64 (outE t lv jn), .slice a2 (outL t lv jn).length c2, .slice b2 (outJ t lv jn).length d2, .slice e2 (outI t lv jn).length f2] 39)).kept hb4 (by simp; omega); have hbel4 := bCall' hb4 (bAlloc (bAlloc hbel3 (.cells (treeC (outT t lv jn)) 31)) (.cells #[.int .i64 (outE t lv jn), .slice a2 (outL t lv jn).length c2, .slice b2 (outJ t lv jn).length d2, .slice e2 (outI t lv jn).length f2] 39)); clear ha0 hc0 hc1 haX hyX hy0 hy1; clear hcY hyY hY hX hD0 hD1; have hX := hX'; have hD0 := hD0'; have hD1 := hD1'; clear hX' hD0' hD1'; have ha0 := hD0.at; have hc0 := hD0.cell; have hc1 := hD1.cell; have haX := hX.at; have hcZ := hZ.cell; have hyX := hX.lt; have hyZ := hZ.lt; have hy0 := hD0.lt; have hy1 := hD1.lt)
      | (go_at_call 18; refine (ref11_Check (outT t lv jn) _).mono ?_; rintro e w5 ⟨rfl, hb5⟩; simp only [hck]; have hX' := hX.kept hb5 hX.lt; have hD0' := hD0.kept hb5 hD0.lt; have hD1' := hD1.kept hb5 hD1.lt; have hZ' := hZ.kept hb5 hZ.lt; have hbel4' := bCall' hb5 hbel4; clear ha0 hc0 hc1 haX hyX hy0 hy1; clear hcZ hyZ hX hD0 hD1 hZ hbel4; have hX := hX'; have hD0 := hD0'; have hD1 := hD1'; have hZ := hZ'; have hbel4 := hbel4'; clear hX' hD0' hD1' hZ' hbel4'; have ha0 := hD0.at; have hc0 := hD0.cell; have hc1 := hD1.cell; have haX := hX.at; have hcZ := hZ.cell; have hyX := hX.lt; have hyZ := hZ.lt; have hy0 := hD0.lt; have hy1 := hD1.lt)
      | (go_at_call 25; refine (plan_Cost t lv jn ao bo cap cap2 _ hl1 hl2 (HA.out.kept hbel4) (HJ.out.kept hbel4) HI1.out HTB.out HI2.out HI3.out HI4.out (HT.out.kept hbel4 (Nat.le_refl _))).mono ?_; rintro e w6 ⟨rfl, hb6⟩; have hX' := hX.kept hb6 hX.lt; have hD0' := hD0.kept hb6 hD0.lt; have hD1' := hD1.kept hb6 hD1.lt; have hZ' := hZ.kept hb6 hZ.lt; have hbel4' := bCall' hb6 hbel4; clear ha0 hc0 hc1 haX hyX hy0 hy1; clear hcZ hyZ hX hD0 hD1 hZ hbel4; have hX := hX'; have hD0 := hD0'; have hD1 := hD1'; have hZ := hZ'; have hbel4 := hbel4'; clear hX' hD0' hD1' hZ' hbel4'; have ha0 := hD0.at; have hc0 := hD0.cell; have hc1 := hD1.cell; have haX := hX.at; have hcZ := hZ.cell; have hyX := hX.lt; have hyZ := hZ.lt; have hy0 := hD0.lt; have hy1 := hD1.lt))
    go_ret
    exact ⟨rfl, hbel4⟩
  · have hne : (errI t lv jn == 0) = false := by simpa using hz
    clear hz
    go_enter Tryd.func8, Tryd.ntmps8
    go_wp2_with (first
      | (go_at_call 9; refine (law12_lives _ (HT.out.kept HBS.out (Nat.le_refl _))).mono ?_; rintro e w1 ⟨rfl, hb1⟩; have hB0 := K0.out.kept hb1 K0.out.lt; have hB1 := K1.out.kept hb1 K1.out.lt; have hbel := bCall' hb1 HBS.out; have ha0 := hB0.at; have hc0 := hB0.cell; have hc1 := hB1.cell; have hy0 := hB0.lt; have hy1 := hB1.lt)
      | (go_at_call 10; refine (plan_Next t lv jn ao bo cap cap2 _ hl1 hl2 (HA.out.kept hbel) (HJ.out.kept hbel) HI1.out HTB.out HI2.out HI3.out HI4.out (HT.out.kept hbel (Nat.le_refl _))).mono ?_; rintro e w2 ⟨v1, v2, v3, rfl, ho1, ho2, ho3, hb2⟩; obtain ⟨a1, c1, rfl, ha1⟩ := OwnSeats.form ho1; obtain ⟨b1, d1, rfl, hb1⟩ := OwnSeats.form ho2; obtain ⟨e1, f1, rfl, he1⟩ := OwnItems.form ho3; clear ho1 ho2 ho3; have HA1 := Lib.hid ha1; have HB1 := Lib.hid hb1; have HE1 := Lib.hid he1; clear ha1 hb1 he1; have hC0 := hB0.kept hb2 hy0; have hC1 := hB1.kept hb2 hy1; have hbel2 := bCall' hb2 hbel; clear ha0 hc0 hc1 hy0 hy1 hB0 hB1 hbel; have ha0 := hC0.at; have hc0 := hC0.cell; have hc1 := hC1.cell; have hy0 := hC0.lt; have hy1 := hC1.lt)
      | (go_at_call 22; refine (ref12_Next t lv jn ao bo cap cap2 _ hl1 hl2 (HA.out.kept (bAlloc (bAlloc hbel2 _) _)) (HJ.out.kept (bAlloc (bAlloc hbel2 _) _)) HI1.out HI2.out HI3.out HI4.out).mono ?_; rintro e w3 ⟨v1, v2, v3, rfl, ho1, ho2, ho3, hb3⟩; obtain ⟨a2, c2, rfl, ha2⟩ := OwnSeats.form ho1; obtain ⟨b2, d2, rfl, hb2⟩ := OwnSeats.form ho2; obtain ⟨e2, f2, rfl, he2⟩ := OwnItems.form ho3; clear ho1 ho2 ho3; have HA2 := Lib.hid ha2; have HB2 := Lib.hid hb2; have HE2 := Lib.hid he2; clear ha2 hb2 he2; have hX := ((Blk.new w2 (treeC (outT t lv jn)) 31).alloc (.cells #[.int .i64 (outE t lv jn), .slice a1 (outL t lv jn).length c1, .slice b1 (outJ t lv jn).length d1, .slice e1 (outI t lv jn).length f1] 39)).kept hb3 (by simp; omega); have hY : Blk w3 (w2.heap.size + 1) #[.int .i64 (outE t lv jn), .slice a1 (outL t lv jn).length c1, .slice b1 (outJ t lv jn).length d1, .slice e1 (outI t lv jn).length f1] 39 := (by have h := (Blk.new (w2.alloc (.cells (treeC (outT t lv jn)) 31)) #[.int .i64 (outE t lv jn), .slice a1 (outL t lv jn).length c1, .slice b1 (outJ t lv jn).length d1, .slice e1 (outI t lv jn).length f1] 39).kept hb3 (by simp); rwa [World.size_alloc] at h); have hD0 := ((hC0.alloc (.cells (treeC (outT t lv jn)) 31)).alloc (.cells #[.int .i64 (outE t lv jn), .slice a1 (outL t lv jn).length c1, .slice b1 (outJ t lv jn).length d1, .slice e1 (outI t lv jn).length f1] 39)).kept hb3 (by simp; omega); have hD1 := ((hC1.alloc (.cells (treeC (outT t lv jn)) 31)).alloc (.cells #[.int .i64 (outE t lv jn), .slice a1 (outL t lv jn).length c1, .slice b1 (outJ t lv jn).length d1, .slice e1 (outI t lv jn).length f1] 39)).kept hb3 (by simp; omega); have hbel3 := bCall' hb3 (bAlloc (bAlloc hbel2 (.cells (treeC (outT t lv jn)) 31)) (.cells #[.int .i64 (outE t lv jn), .slice a1 (outL t lv jn).length c1, .slice b1 (outJ t lv jn).length d1, .slice e1 (outI t lv jn).length f1] 39)); have HS1 := Lib.hid ((HA1.out.kept (bAlloc (bAlloc (Below.refl _ _) (.cells (treeC (outT t lv jn)) 31)) (.cells #[.int .i64 (outE t lv jn), .slice a1 (outL t lv jn).length c1, .slice b1 (outJ t lv jn).length d1, .slice e1 (outI t lv jn).length f1] 39))).kept hb3); have HS2 := Lib.hid ((HB1.out.kept (bAlloc (bAlloc (Below.refl _ _) (.cells (treeC (outT t lv jn)) 31)) (.cells #[.int .i64 (outE t lv jn), .slice a1 (outL t lv jn).length c1, .slice b1 (outJ t lv jn).length d1, .slice e1 (outI t lv jn).length f1] 39))).kept hb3); have HS3 := Lib.hid ((HE1.out.kept (bAlloc (bAlloc (Below.refl _ _) (.cells (treeC (outT t lv jn)) 31)) (.cells #[.int .i64 (outE t lv jn), .slice a1 (outL t lv jn).length c1, .slice b1 (outJ t lv jn).length d1, .slice e1 (outI t lv jn).length f1] 39))).kept hb3); clear ha0 hc0 hc1 hy0 hy1 hC0 hC1 hbel2; have ha0 := hD0.at; have hc0 := hD0.cell; have hc1 := hD1.cell; have haX := hX.at; have hcY := hY.cell; have hyX := hX.lt; have hyY := hY.lt; have hy0 := hD0.lt; have hy1 := hD1.lt)
      | (go_at_call 24; refine (ref12_Same (outE t lv jn) (outL t lv jn) (outJ t lv jn) (outI t lv jn) a1 b1 e1 a2 b2 e2 c1 d1 f1 c2 d2 f2 (Nat.le_trans (outL_len t lv jn) hl1) (Nat.le_trans (outJ_len t lv jn) hl2) (Nat.le_trans (outI_len t lv jn) (by decide)) _ (HS1.out.kept (bAlloc (bAlloc (Below.refl _ _) _) _)) (HS2.out.kept (bAlloc (bAlloc (Below.refl _ _) _) _)) (HS3.out.kept (bAlloc (bAlloc (Below.refl _ _) _) _)) (HA2.out.kept (bAlloc (bAlloc (Below.refl _ _) _) _)) (HB2.out.kept (bAlloc (bAlloc (Below.refl _ _) _) _)) (HE2.out.kept (bAlloc (bAlloc (Below.refl _ _) _) _))).mono ?_; rintro e w4 ⟨rfl, hb4⟩; have hZ : Blk w4 (w3.heap.size + 1) #[.int .i64 (outE t lv jn), .slice a2 (outL t lv jn).length c2, .slice b2 (outJ t lv jn).length d2, .slice e2 (outI t lv jn).length f2] 39 := (by have h := (Blk.new (w3.alloc (.cells (treeC (outT t lv jn)) 31)) #[.int .i64 (outE t lv jn), .slice a2 (outL t lv jn).length c2, .slice b2 (outJ t lv jn).length d2, .slice e2 (outI t lv jn).length f2] 39).kept hb4 (by simp); rwa [World.size_alloc] at h); have hX' := ((hX.alloc (.cells (treeC (outT t lv jn)) 31)).alloc (.cells #[.int .i64 (outE t lv jn), .slice a2 (outL t lv jn).length c2, .slice b2 (outJ t lv jn).length d2, .slice e2 (outI t lv jn).length f2] 39)).kept hb4 (by simp; omega); have hD0' := ((hD0.alloc (.cells (treeC (outT t lv jn)) 31)).alloc (.cells #[.int .i64 (outE t lv jn), .slice a2 (outL t lv jn).length c2, .slice b2 (outJ t lv jn).length d2, .slice e2 (outI t lv jn).length f2] 39)).kept hb4 (by simp; omega); have hD1' := ((hD1.alloc (.cells (treeC (outT t lv jn)) 31)).alloc (.cells #[.int .i64 (outE t lv jn), .slice a2 (outL t lv jn).length c2, .slice b2 (outJ t lv jn).length d2, .slice e2 (outI t lv jn).length f2] 39)).kept hb4 (by simp; omega); have hbel4 := bCall' hb4 (bAlloc (bAlloc hbel3 (.cells (treeC (outT t lv jn)) 31)) (.cells #[.int .i64 (outE t lv jn), .slice a2 (outL t lv jn).length c2, .slice b2 (outJ t lv jn).length d2, .slice e2 (outI t lv jn).length f2] 39)); clear ha0 hc0 hc1 haX hyX hy0 hy1; clear hcY hyY hY hX hD0 hD1; have hX := hX'; have hD0 := hD0'; have hD1 := hD1'; clear hX' hD0' hD1'; have ha0 := hD0.at; have hc0 := hD0.cell; have hc1 := hD1.cell; have haX := hX.at; have hcZ := hZ.cell; have hyX := hX.lt; have hyZ := hZ.lt; have hy0 := hD0.lt; have hy1 := hD1.lt)
      | (go_at_call 25; refine (plan_Cost t lv jn ao bo cap cap2 _ hl1 hl2 (HA.out.kept hbel4) (HJ.out.kept hbel4) HI1.out HTB.out HI2.out HI3.out HI4.out (HT.out.kept hbel4 (Nat.le_refl _))).mono ?_; rintro e w6 ⟨rfl, hb6⟩; have hX' := hX.kept hb6 hX.lt; have hD0' := hD0.kept hb6 hD0.lt; have hD1' := hD1.kept hb6 hD1.lt; have hZ' := hZ.kept hb6 hZ.lt; have hbel4' := bCall' hb6 hbel4; clear ha0 hc0 hc1 haX hyX hy0 hy1; clear hcZ hyZ hX hD0 hD1 hZ hbel4; have hX := hX'; have hD0 := hD0'; have hD1 := hD1'; have hZ := hZ'; have hbel4 := hbel4'; clear hX' hD0' hD1' hZ' hbel4'; have ha0 := hD0.at; have hc0 := hD0.cell; have hc1 := hD1.cell; have haX := hX.at; have hcZ := hZ.cell; have hyX := hX.lt; have hyZ := hZ.lt; have hy0 := hD0.lt; have hy1 := hD1.lt))
    go_ret
    exact ⟨rfl, hbel4⟩
end Go.Proofs.YtodgcmakdndbfaaDoor
/-
  Arguments opened: a tree, a batch; what is laid.
-/
namespace Go.Proofs.YtodgcmakdndbfaaDoor
open Go.ChangeShapes Go.WideShapes Go.ChangeAt Go.WideMaps Go.WideElems Go.RowKit Go.Joins Cot
set_option linter.unusedVariables false
def cellI (cs : List Value) (p : Nat) : Int := match cs[p]? with | some (.int _ n) => n | _ => 0
def treeOfCells (cs : List Value) : Tree := ⟨cellI cs 0, cellI cs 1, fun j => ⟨cellI cs (2 + j * 2), cellI cs (2 + j * 2 + 1)⟩, fun j => ⟨cellI cs (44 + j * 3), cellI cs (44 + j * 3 + 1), cellI cs (44 + j * 3 + 2)⟩⟩
def IntCells (cs : List Value) (n : Nat) : Prop := cs.length = n ∧ ∀ p, p < n → ∃ x, cs[p]? = some (I x) ∧ I64 x
theorem cellI_of {cs : List Value} {p : Nat} {x : Int} (h : cs[p]? = some (I x)) : cellI cs p = x := by unfold cellI; rw [h]
theorem cellI_i64 {cs : List Value} {n : Nat} (h : IntCells cs n) (p : Nat) : I64 (cellI cs p) := by
  by_cases hp : p < n
  · obtain ⟨x, hx, h1⟩ := h.2 p hp; rw [cellI_of hx]; exact h1
  · unfold cellI; rw [List.getElem?_eq_none (by rw [h.1]; omega)]; exact i64_0
theorem tree_of_cells {cs : List Value} (h : IntCells cs 236) : treeC (treeOfCells cs) = cs.toArray := by
  apply Array.ext_getElem?
  intro i
  by_cases hi : i < 236
  · obtain ⟨x, hx, _⟩ := h.2 i hi
    have hc : (treeC (treeOfCells cs))[i]? = some (treeCell (treeOfCells cs) i) := by unfold treeC; rw [tab_get_lt hi]
    rw [hc, List.getElem?_toArray, hx]
    have key : ∀ q, q = i → I (cellI cs q) = I x := fun q hq => by subst hq; rw [cellI_of hx]
    congr 1
    unfold treeCell treeOfCells
    by_cases h0 : i = 0
    · rw [if_pos h0]; exact key 0 h0.symm
    · rw [if_neg h0]
      by_cases h1 : i = 1
      · rw [if_pos h1]; exact key 1 h1.symm
      · rw [if_neg h1]
        by_cases h2 : i < 44
        · rw [if_pos h2]; unfold keyCell
          by_cases h3 : (i - 2) % 2 = 0
          · rw [if_pos h3]; exact key _ (by omega)
          · rw [if_neg h3]; exact key _ (by omega)
        · rw [if_neg h2]; unfold entCell
          by_cases h3 : (i - 44) % 3 = 0
          · rw [if_pos h3]; exact key _ (by omega)
          · rw [if_neg h3]
            by_cases h4 : (i - 44) % 3 = 1
            · rw [if_pos h4]; exact key _ (by omega)
            · rw [if_neg h4]; exact key _ (by omega)
  · rw [Array.getElem?_eq_none (by rw [treeC_size]; omega), List.getElem?_toArray, List.getElem?_eq_none (by rw [h.1]; omega)]
section
variable {H : Type} {enc : TypeId × Value → H} {w : World} {base : Nat} {spare : Nat → Bool} {held : Bool} {n : Nat}
theorem IntCells.get {cs : List Value} {o k : Nat} (h : IntCells ((cs.drop o).take k) k) {p : Nat} (hp : p < k) : ∃ x, cs[o + p]? = some (I x) ∧ I64 x := by
  obtain ⟨x, hx, h1⟩ := h.2 p hp
  refine ⟨x, ?_, h1⟩
  rw [List.getElem?_take, if_pos hp, List.getElem?_drop] at hx
  exact hx
theorem int_cells {t : TypeId} {cs : List Value} {x : DataW H × List MemPlace} (ht : Tryd.prog.underlying t = some (.int .i64)) (h : DataW.trod enc Tryd.prog w base spare held n t cs = some x) : IntCells cs 1 := by
  obtain ⟨z, rfl, _, hw⟩ := DataW.trod_int ht h
  refine ⟨rfl, fun p hp => ?_⟩
  obtain rfl : p = 0 := by omega
  exact ⟨z, rfl, bounds_i64 hw⟩
theorem key_cells {cs : List Value} {x : DataW H × List MemPlace} (h : DataW.trod enc Tryd.prog w base spare held n 23 cs = some x) : IntCells cs 2 := by
  obtain ⟨y0, y1, m, _, hl, h0, h1⟩ := trod_struct2 Tryd.underlying23 h
  have c2 : Tryd.prog.cellsOf 23 = 2 := by kernel_rfl
  have c1 : Tryd.prog.cellsOf 3 = 1 := by kernel_rfl
  rw [c2] at hl
  have k0 := int_cells Tryd.underlying3 h0
  have k1 := int_cells Tryd.underlying3 h1
  rw [c1] at k0 k1
  refine ⟨hl, fun p hp => ?_⟩
  rcases (by omega : p = 0 ∨ p = 1) with rfl | rfl
  · exact k0.get (p := 0) (by omega)
  · exact k1.get (p := 0) (by omega)
theorem entry_cells {cs : List Value} {x : DataW H × List MemPlace} (h : DataW.trod enc Tryd.prog w base spare held n 27 cs = some x) : IntCells cs 3 := by
  obtain ⟨xs, m, _, _, hl, hx, hf⟩ := DataW.trod_struct Tryd.underlying27 h
  have c2 : Tryd.prog.cellsOf 27 = 3 := by kernel_rfl
  have c1 : Tryd.prog.cellsOf 3 = 1 := by kernel_rfl
  rw [c2] at hl
  have hx3 : xs.length = 3 := hx
  match xs, hx3 with
  | [y0, y1, y2], _ =>
  have h0 : DataW.trod enc Tryd.prog w base spare held m 3 ((cs.drop 0).take (Tryd.prog.cellsOf 3)) = some y0 := hf 0 _ rfl
  have h1 : DataW.trod enc Tryd.prog w base spare held m 3 ((cs.drop 1).take (Tryd.prog.cellsOf 3)) = some y1 := hf 1 _ rfl
  have h2 : DataW.trod enc Tryd.prog w base spare held m 3 ((cs.drop 2).take (Tryd.prog.cellsOf 3)) = some y2 := hf 2 _ rfl
  rw [c1] at h0 h1 h2
  have k0 := int_cells Tryd.underlying3 h0
  have k1 := int_cells Tryd.underlying3 h1
  have k2 := int_cells Tryd.underlying3 h2
  refine ⟨hl, fun p hp => ?_⟩
  rcases (by omega : p = 0 ∨ p = 1 ∨ p = 2) with rfl | rfl | rfl
  · exact k0.get (p := 0) (by omega)
  · exact k1.get (p := 0) (by omega)
  · exact k2.get (p := 0) (by omega)
theorem arr_cells {t e : TypeId} {k s : Nat} {cs : List Value} {x : DataW H × List MemPlace} (ht : Tryd.prog.underlying t = some (.array k e)) (hs : Tryd.prog.cellsOf e = s) (hk : Tryd.prog.cellsOf t = k * s) (hs0 : 0 < s)
    (he : ∀ {m : Nat} {cs : List Value} {x : DataW H × List MemPlace}, DataW.trod enc Tryd.prog w base spare held m e cs = some x → IntCells cs s) (h : DataW.trod enc Tryd.prog w base spare held n t cs = some x) : IntCells cs (k * s) := by
  obtain ⟨xs, m, _, _, hl, hx, hf⟩ := DataW.trod_array ht h
  refine ⟨hl.trans hk, fun p hp => ?_⟩
  have hi : p / s < k := by rw [Nat.div_lt_iff_lt_mul hs0]; exact hp
  obtain ⟨y, hy⟩ := some_of_lt (show p / s < xs.length by omega)
  have h1 := hf (p / s) hi
  rw [hy, hs] at h1
  have h2 := (he h1).get (p := p % s) (Nat.mod_lt _ hs0)
  rw [show p / s * s + p % s = p by rw [Nat.mul_comm]; exact Nat.div_add_mod p s] at h2
  exact h2
theorem tree_cells {cs : List Value} {x : DataW H × List MemPlace} (h : DataW.trod enc Tryd.prog w base spare held n 31 cs = some x) : IntCells cs 236 := by
  obtain ⟨xs, m, _, _, hl, hx, hf⟩ := DataW.trod_struct Tryd.underlying31 h
  have c0 : Tryd.prog.cellsOf 31 = 236 := by kernel_rfl
  have c1 : Tryd.prog.cellsOf 3 = 1 := by kernel_rfl
  have c2 : Tryd.prog.cellsOf 25 = 42 := by kernel_rfl
  have c3 : Tryd.prog.cellsOf 29 = 192 := by kernel_rfl
  rw [c0] at hl
  have hx4 : xs.length = 4 := hx
  match xs, hx4 with
  | [y0, y1, y2, y3], _ =>
  have h0 : DataW.trod enc Tryd.prog w base spare held m 3 ((cs.drop 0).take (Tryd.prog.cellsOf 3)) = some y0 := hf 0 _ rfl
  have h1 : DataW.trod enc Tryd.prog w base spare held m 3 ((cs.drop 1).take (Tryd.prog.cellsOf 3)) = some y1 := hf 1 _ rfl
  have h2 : DataW.trod enc Tryd.prog w base spare held m 25 ((cs.drop 2).take (Tryd.prog.cellsOf 25)) = some y2 := hf 2 _ rfl
  have h3 : DataW.trod enc Tryd.prog w base spare held m 29 ((cs.drop 44).take (Tryd.prog.cellsOf 29)) = some y3 := hf 3 _ rfl
  rw [c1] at h0 h1; rw [c2] at h2; rw [c3] at h3
  have k0 := int_cells Tryd.underlying3 h0
  have k1 := int_cells Tryd.underlying3 h1
  have k2 := arr_cells (k := 21) (s := 2) Tryd.underlying25 (by kernel_rfl) c2 (by omega) key_cells h2
  have k3 := arr_cells (k := 64) (s := 3) Tryd.underlying29 (by kernel_rfl) c3 (by omega) entry_cells h3
  clear h0 h1 h2 h3
  refine ⟨hl, fun p hp => ?_⟩
  by_cases h0 : p = 0
  · subst h0; exact k0.get (p := 0) (by omega)
  · by_cases h1 : p = 1
    · subst h1; exact k1.get (p := 0) (by omega)
    · by_cases h2 : p < 44
      · have h3 := k2.get (o := 2) (p := p - 2) (by omega)
        rw [show 2 + (p - 2) = p by omega] at h3; exact h3
      · have h3 := k3.get (o := 44) (p := p - 44) (by omega)
        rw [show 44 + (p - 44) = p by omega] at h3; exact h3
set_option maxRecDepth 100000 in
/-- A tree that came in. -/
theorem open_tree {r : Reach} {b0 : Nat} {v : Value} {d : DataW H} {p : List MemPlace} (hv : Value.okWide Tryd.prog w r b0 31 v) (h : DataW.Trod enc Tryd.prog w base spare held 31 v d p) :
    ∃ t : Tree, v = .agg (treeC t) ∧ (∀ j, I64 (t.roster j).base) ∧ (∀ j, I64 (t.keys j).base) ∧ (∀ j, I64 (t.roster j).who) := by
  obtain ⟨cs, rfl, hsz⟩ := okWide_struct Tryd.underlying31 hv
  obtain ⟨fuel, hf⟩ := h
  have hc : IntCells cs.toList 236 := tree_cells hf
  refine ⟨treeOfCells cs.toList, ?_, fun j => cellI_i64 hc _, fun j => cellI_i64 hc _, fun j => cellI_i64 hc _⟩
  rw [tree_of_cells hc]
/-- A list of numbers that came in. -/
theorem open_list {v : Value} {x : DataW H × List MemPlace} (h : DataW.trod enc Tryd.prog w 0 (fun _ => true) held n 32 [v] = some x) (hw : ∀ k, k ∈ x.1.weights Tryd.prog 32 → k ≤ reachBytes) :
    ∃ (l : List Int) (ao : Option Addr) (cap : Nat), v = .slice ao l.length cap ∧ IntsAt w ao l ∧ (∀ z, z ∈ l → I64 z) ∧ l.length ≤ 35184372088832 := by
  have c1 : Tryd.prog.cellsOf 3 = 1 := by kernel_rfl
  rcases open_ints Tryd.underlying32 Tryd.underlying3 c1 h with ⟨hcs, hx⟩ | ⟨a, len, cap, zs, hcs, _, hl, hm, hz, hx, hcell, hwz⟩
  · obtain rfl : v = .slice none 0 0 := by simpa using hcs
    exact ⟨[], none, 0, rfl, fun k s h => (by simp at h), fun z h => (by simp at h), by decide⟩
  · obtain rfl : v = .slice (some a) len cap := by simpa using hcs
    have hz' : zs.length = cap := by simpa using hz
    have hlen : (zs.take len).length = len := by rw [List.length_take]; omega
    refine ⟨zs.take len, some a, cap, by rw [hlen], ?_, fun z hzm => bounds_i64 (hwz z (List.mem_of_mem_take hzm)), ?_⟩
    · intro k z hk
      have hk1 : k < (zs.take len).length := (List.getElem?_eq_some_iff.1 hk).1
      obtain ⟨b, off, rfl, hc⟩ := ints_at hcell (by omega)
      have h1 := hc k (by omega)
      rw [List.getElem?_take, if_pos (by omega)] at hk
      rw [List.getD_eq_getElem?_getD, hk] at h1
      refine ⟨b, off, rfl, ?_, h1⟩
      apply Classical.byContradiction
      intro hb
      have hb2 : w.heap.size ≤ b := by omega
      rw [World.cell?, Array.getElem?_eq_none hb2] at h1
      cases h1
    · have b8 : Tryd.prog.bytesOf 3 = 8 := by kernel_rfl
      have hk := hw (((lits (H := H) .i64 (zs.take len)).length + (lits (H := H) .i64 (zs.drop len)).length) * 8) (by rw [hx]; simp only [DataW.weights, Tryd.underlying32, b8]; exact List.mem_cons_self)
      have e1 : (lits (H := H) .i64 (zs.take len)).length = len := by unfold lits; rw [List.length_map, hlen]
      rw [e1] at hk
      unfold reachBytes at hk
      rw [hlen]; omega
set_option maxRecDepth 100000 in
/-- A batch that came in. -/
theorem open_batch {r : Reach} {b0 : Nat} {v : Value} {d : DataW H} {p : List MemPlace} (hv : Value.okWide Tryd.prog w r b0 34 v) (h : DataW.Trod enc Tryd.prog w 0 (fun _ => true) held 34 v d p) (hw : ∀ k, k ∈ d.weights Tryd.prog 34 → k ≤ reachBytes) :
    ∃ (lv jn : List Int) (ao bo : Option Addr) (cap cap2 : Nat), v = .agg #[.slice ao lv.length cap, .slice bo jn.length cap2] ∧ IntsAt w ao lv ∧ IntsAt w bo jn ∧ (∀ z, z ∈ lv → I64 z) ∧ (∀ z, z ∈ jn → I64 z) ∧ lv.length ≤ 35184372088832 ∧ jn.length ≤ 35184372088832 := by
  obtain ⟨c0, c1, y0, y1, m, rfl, rfl, _, h0, h1⟩ := open_agg2 Tryd.underlying34 (by kernel_rfl) (by kernel_rfl) hv h
  have hw2 : ∀ k, (k ∈ y0.1.weights Tryd.prog 32 ∨ k ∈ y1.1.weights Tryd.prog 32) → k ≤ reachBytes := fun k hk => hw k (by
    simp only [DataW.weights, Tryd.underlying34, DataW.weightsEach, List.map_cons, List.map_nil, List.append_nil, List.mem_append]
    exact hk)
  obtain ⟨lv, ao, cap, rfl, h2, h3, h4⟩ := open_list h0 (fun k hk => hw2 k (.inl hk))
  obtain ⟨jn, bo, cap2, rfl, h5, h6, h7⟩ := open_list h1 (fun k hk => hw2 k (.inr hk))
  exact ⟨lv, jn, ao, bo, cap, cap2, rfl, h2, h5, h3, h6, h4, h7⟩
end
end Go.Proofs.YtodgcmakdndbfaaDoor
/-
  What the laid table gives the walks; the start of a row's proof.
-/
namespace Go.Proofs.YtodgcmakdndbfaaDoor
open Go.ChangeShapes Go.WideShapes Go.ChangeAt Go.WideMaps Go.WideElems Go.RowKit Go.Joins Cot
set_option linter.unusedVariables false

theorem own : ownKnob Tryd.prog.godebug = none := by kernel_rfl
theorem laidOut : laidOutB Tryd.prog = true := by kernel_rfl
def laidL : List (String × DataW Unit) := [("math/bits.deBruijn64tab", Rows.laid_math_bits_deBruijn64tab)]
set_option maxRecDepth 100000 in
theorem door_met (os : Os) (args : Array Value) : laidMetH Tryd.prog laidL ((World.doorLaid Tryd.prog 400 os).forCall (fun _ _ => 0) ⟨#[], args, []⟩).memory :=
  laidMetH_of_parts3 (fuel := 8) (laidMet_of_run' 8 (by kernel_rfl) (by kernel_rfl)) (by kernel_rfl) (by kernel_rfl)
theorem laid_list : Rows.laid_math_bits_deBruijn64tab = (.agg (Lib.deBruijn64tab.map fun (n : Nat) => .lit (.int .u8 (n : Int))) : DataW Unit) := by kernel_rfl
set_option maxRecDepth 100000 in
theorem tz_of_laid {W : World} (h : laidMetH Tryd.prog laidL W) : TzAt W := by
  rw [MakeChecks.laidMetH_plain _ _ _ (by kernel_rfl)] at h
  obtain ⟨ps, ⟨g, t, cs, fuel, p, q, hg, ht, hv, hd, _, _⟩, _, _⟩ := h
  obtain rfl := Option.some.inj ((show Tryd.prog.globalNamed "math/bits.deBruijn64tab" = some 0 by kernel_rfl).symm.trans hg)
  obtain rfl := Option.some.inj ((show (Tryd.prog.globals[0]?).map (·.type) = some 125 by kernel_rfl).symm.trans ht)
  have c5 : Tryd.prog.cellsOf 5 = 1 := by kernel_rfl
  obtain ⟨xs, m, _, ex, hlen, hl, hel⟩ := DataW.trod_array Tryd.underlying125 hd
  have c64 : Tryd.prog.cellsOf 125 = 64 := by kernel_rfl
  rw [c64] at hlen
  have e3 : (Lib.deBruijn64tab.map fun (n : Nat) => (.lit (.int .u8 (n : Int)) : DataW Unit)) = xs.map (·.1) := by
    have := (Prod.mk.inj ex).1
    rw [laid_list] at this
    exact DataW.agg.inj this
  have hcell : ∀ j, j < 64 → W.cell? ⟨0, j, none⟩ = some (.int .u8 ((Lib.deBruijn64tab.getD j 0 : Nat) : Int)) := by
    intro j hj
    obtain ⟨y, hy⟩ := some_of_lt (show j < xs.length by omega)
    have k := hel j hj
    rw [c5, hy] at k
    obtain ⟨z, a0, b0, _⟩ := DataW.trod_int Tryd.underlying5 k
    have h1 : cs[j]? = some (.int .u8 z) := by
      have h2 : (List.take 1 (List.drop (j * 1) cs.toList))[0]? = some (.int .u8 z) := by rw [a0]; rfl
      rw [List.getElem?_take, if_pos (by omega), List.getElem?_drop, Nat.mul_one, Nat.add_zero] at h2
      rw [← Array.getElem?_toList]; exact h2
    have h3 : (xs.map (·.1))[j]? = some (.lit (.int .u8 z)) := by rw [List.getElem?_map, hy, Option.map_some, b0]
    rw [← e3, List.getElem?_map] at h3
    have h4 := World.var?_cell hg hv j
    rw [h4, h1]
    have hlt : j < Lib.deBruijn64tab.length := by
      have : Lib.deBruijn64tab.length = 64 := by kernel_rfl
      omega
    rw [List.getElem?_eq_getElem hlt, Option.map_some] at h3
    rw [List.getD_eq_getElem?_getD, List.getElem?_eq_getElem hlt, Option.getD_some]
    have h5 := Option.some.inj h3
    injection h5 with h6
    injection h6 with _ h7
    rw [h7]
  refine ⟨?_, fun j hj => hcell j (by have : Lib.deBruijn64tab.length = 64 := by kernel_rfl
                                      omega)⟩
  apply Classical.byContradiction
  intro hn
  have h0 := hcell 0 (by decide)
  have hb2 : W.heap.size ≤ 0 := by omega
  rw [World.cell?, Array.getElem?_eq_none hb2] at h0
  cases h0
end Go.Proofs.YtodgcmakdndbfaaDoor
