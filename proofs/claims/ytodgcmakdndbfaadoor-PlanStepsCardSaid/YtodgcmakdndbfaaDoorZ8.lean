/-
  Parts of a proof: Fits1, Fits2, Seen. Merged by program.
-/
import Derived.Test.YtodgcmakdndbfaaDoorZ7
import Derived.Deep.RegionHeld3
/-
  Contracts: what a batch must be; roster.Fits$1. Printed by wip/gen/gk.py.
-/
namespace Cot
/-- The error of one of a batch, behind those that stand earlier. -/
def personS (r : Nat → Entry) (seen : List Int) (lv : Bool) (x : Int) : Int :=
  if x < 0 ∨ 256 ≤ x then 14 else if x ∈ seen then 15 else if decide (0 ≤ findI r x) = lv then 0 else if lv then 16 else 17
def scanS (r : Nat → Entry) (lv : Bool) : List Int → List Int → Int
  | _, [] => 0
  | seen, x :: l => if personS r seen lv x = 0 then scanS r lv (seen ++ [x]) l else personS r seen lv x
def okTo (r : Nat → Entry) (lv : Bool) (pre l : List Int) (n : Nat) : Prop := ∀ j x, j < n → l[j]? = some x → personS r (pre ++ l.take j) lv x = 0
theorem scan_ok {r : Nat → Entry} {lv : Bool} : ∀ {l pre : List Int}, okTo r lv pre l l.length → scanS r lv pre l = 0
  | [], _, _ => rfl
  | x :: l, pre, h => by
    unfold scanS
    have h0 := h 0 x (by simp) rfl
    rw [List.take_zero, List.append_nil] at h0
    rw [if_pos h0]
    exact scan_ok (fun j y hj hy => by
      have := h (j + 1) y (by simp; omega) (by simpa using hy)
      simpa using this)
theorem scan_err {r : Nat → Entry} {lv : Bool} : ∀ {l pre : List Int} {n : Nat} {x : Int}, okTo r lv pre l n → l[n]? = some x → personS r (pre ++ l.take n) lv x ≠ 0 → scanS r lv pre l = personS r (pre ++ l.take n) lv x
  | [], _, _, _, _, h, _ => by simp at h
  | y :: l, pre, 0, x, _, h, hne => by
    simp at h; subst h
    rw [List.take_zero, List.append_nil] at hne ⊢
    unfold scanS
    rw [if_neg hne]
  | y :: l, pre, n + 1, x, hok, h, hne => by
    unfold scanS
    have h0 := hok 0 y (by omega) rfl
    rw [List.take_zero, List.append_nil] at h0
    rw [if_pos h0]
    have h1 : l[n]? = some x := by simpa using h
    have h2 : pre ++ (y :: l).take (n + 1) = (pre ++ [y]) ++ l.take n := by simp
    rw [h2] at hne ⊢
    exact scan_err (fun j z hj hz => by
      have := hok (j + 1) z (by omega) (by simpa using hz)
      simpa using this) h1 hne
theorem okTo_succ {r : Nat → Entry} {lv : Bool} {pre l : List Int} {n : Nat} {x : Int} (h : okTo r lv pre l n) (hx : l[n]? = some x) (h0 : personS r (pre ++ l.take n) lv x = 0) : okTo r lv pre l (n + 1) := by
  intro j y hj hy
  rcases Nat.lt_succ_iff_lt_or_eq.1 hj with h' | h'
  · exact h j y h' hy
  · subst h'; rw [hx] at hy; cases hy; exact h0
noncomputable def fitsS (r : Nat → Entry) (lv jn : List Int) : Int :=
  if ¬ RightRoster r then 31 else if scanS r true [] lv ≠ 0 then scanS r true [] lv else if scanS r false lv jn ≠ 0 then scanS r false lv jn
  else if (64 : Int) - cntOf (takenP r) 64 + lv.length < jn.length then 18 else 0
theorem count_snoc (l : List Int) (x y : Int) : (l ++ [x]).count y = l.count y + if x = y then 1 else 0 := by
  rw [List.count_append]; congr 1; by_cases h : x = y <;> simp [h, List.count_cons]
end Cot
namespace Go.Proofs.YtodgcmakdndbfaaDoor
open Go.RowKit Cot
set_option linter.unusedSimpArgs false
set_option linter.unusedVariables false

def IntsIn (w : World) (B : Nat) (ao : Option Addr) (l : List Int) : Prop := ∀ k x, l[k]? = some x → ∃ b off, ao = some ⟨b, off, none⟩ ∧ b < B ∧ w.cell? ⟨b, off + k, none⟩ = some (I x)
theorem IntsAt.into {w w' : World} {ao : Option Addr} {l : List Int} (h : IntsAt w ao l) (hb : Below w.heap.size w w') : IntsIn w' w.heap.size ao l := by
  intro k x hk
  obtain ⟨b, off, e, hlt, c⟩ := h k x hk
  exact ⟨b, off, e, hlt, (hb.cell (p := ⟨b, off + k, none⟩) hlt).trans c⟩
theorem IntsIn.kept {w w' : World} {B : Nat} {ao : Option Addr} {l : List Int} (h : IntsIn w B ao l) (hb : Below B w w') : IntsIn w' B ao l := by
  intro k x hk
  obtain ⟨b, off, e, hlt, c⟩ := h k x hk
  exact ⟨b, off, e, hlt, (hb.cell (p := ⟨b, off + k, none⟩) hlt).trans c⟩
set_option maxRecDepth 4000 in
set_option maxHeartbeats 1600000 in
theorem roster_Fits1_leave (r : Nat → Entry) (pre l : List Int) (ao : Option Addr) (cap m sb rb B N : Nat) (w : World) (hlen : l.length ≤ 35184372088832) (hN : N ≤ 35184372088832) (hpre : pre.length ≤ 35184372088832) (hat : IntsIn w B ao l) (hw : ∀ x, x ∈ l → I64 x)
    (hBm : B ≤ m) (hrm : rb < m) (hsm : sb ≠ m) (hsl : sb < w.heap.size) (hml : m < w.heap.size) (hsb : w.cell? ⟨sb, 0, none⟩ = some (.map (some m))) (hrb : ∀ k, cellsAt w ⟨rb, 0, none⟩ k = cellsIn (rosterC r) 0 k) (hii : isII w m N) (hfn : ∀ x, (mapFn w m x).getD 0 = pre.count x) :
    Calls Tryd.prog 70 #[.slice ao l.length cap, .bool true, .int .i64 16, .pointer (some ⟨sb, 0, none⟩), .pointer (some ⟨rb, 0, none⟩)] w fun e w' => e = .returned (.int .i64 (scanS r true pre l)) ∧ Below m w w' ∧ w'.cell? ⟨sb, 0, none⟩ = some (.map (some m)) ∧ isII w' m (N + l.length) ∧ (scanS r true pre l = 0 → ∀ x, (mapFn w' m x).getD 0 = (pre ++ l).count x) := by
  go_enter Tryd.func70, Tryd.ntmps70
  go_wp2
  go_loopw [10, 13, 21, 28, 33] (fun _ i _ _ _ wr => ∃ n : Nat, n ≤ l.length ∧ i = .int .i64 n ∧ okTo r true pre l n ∧ Below m w wr ∧ wr.cell? ⟨sb, 0, none⟩ = some (.map (some m)) ∧ isII wr m (N + n) ∧ ∀ x, (mapFn wr m x).getD 0 = (pre ++ l.take n).count x) (fun _ i _ _ _ _ => l.length - (intOf i).toNat)
  case atStart => exact ⟨0, by omega, rfl, fun j x hj => absurd hj (by omega), Below.refl _ _, hsb, hii, fun x => by rw [hfn]; simp⟩
  case round =>
    clear hsb hfn hii
    obtain ⟨n, hn, rfl, hok, hbel, hsb, hii, hfn⟩ := hrel
    have hsz := hbel.size
    have hr0 : ∀ k, cellsAt wr ⟨rb, 0, none⟩ k = cellsIn (rosterC r) 0 k := fun k => by rw [← hrb k]; unfold cellsAt; rw [hbel.block rb hrm]
    have OK := Lib.hid hok; clear hok
    by_cases hlt : n < l.length
    · have hlt' : (n : Int) < (l.length : Int) := by omega
      obtain ⟨x, hx⟩ := some_of_lt hlt
      obtain ⟨b, off, rfl, hbB, hcx⟩ := (hat.kept (hbel.mono hBm)) n x hx
      have hwx := hw x (List.mem_of_getElem? hx)
      have hm := hii.m (by omega)
      have hcn : (pre ++ l.take n).count x ≤ pre.length + l.length := Nat.le_trans List.count_le_length (by rw [List.length_append, List.length_take]; omega)
      have hmem : x ∈ pre ++ l.take n ↔ 0 < (pre ++ l.take n).count x := List.count_pos_iff.symm
      have hgx := hfn x
      have II := Lib.hid hii; clear hii
      have FN := Lib.hid hfn; clear hfn
      have HX := Lib.hid hx; clear hx
      have HSB := Lib.hid hsb
      have hsq : sb < wr.heap.size := by omega
      have hmq : m < wr.heap.size := by omega
      have hbq : b < wr.heap.size := by omega
      have hrq : rb < wr.heap.size := by omega
      have hbm : b ≠ m := by omega
      have hrm2 : rb ≠ m := by omega
      have HAT := Lib.hid hat; clear hat
      have HW := Lib.hid hw; clear hw
      have HM := Lib.hid hmem; clear hmem
      generalize hc : (pre ++ l.take n).count x = c at *
      have HC := Lib.hid hc; clear hc
      have hput := II.out.put (by unfold maxLen; omega) hwx (show I64 ((c : Int) + 1) by unfold I64; omega)
      have hp1 : isM (mapPut wr m x ((c : Int) + 1)) m := hput.2.1.m (by omega)
      have hp2 : (mapFn (mapPut wr m x ((c : Int) + 1)) m x).getD 0 = (c : Int) + 1 := by rw [hput.2.2 x, if_pos rfl]; rfl
      have HPUT := Lib.hid hput; clear hput
      by_cases h1 : x < 0
      · have hps : personS r (pre ++ l.take n) true x = 14 := by unfold personS; rw [if_pos (Or.inl h1)]
        have hsc := (scan_err OK.out HX.out (by rw [hps]; decide)).trans hps
        have HS := Lib.hid hsc; clear hps hsc
        go_wp2
        go_ret
        exact ⟨by rw [HS.out] <;> rfl, Below_mapPut hbel (Nat.le_refl _) _ _, by rw [mapPut_cell]; exact HSB.out, HPUT.out.2.1.mono (by omega), fun h => absurd (HS.out.symm.trans h) (by decide)⟩
      · by_cases h1' : 256 ≤ x
        · have hps : personS r (pre ++ l.take n) true x = 14 := by unfold personS; rw [if_pos (Or.inr h1')]
          have hsc := (scan_err OK.out HX.out (by rw [hps]; decide)).trans hps
          have HS := Lib.hid hsc; clear hps hsc
          go_wp2
          go_ret
          exact ⟨by rw [HS.out] <;> rfl, Below_mapPut hbel (Nat.le_refl _) _ _, by rw [mapPut_cell]; exact HSB.out, HPUT.out.2.1.mono (by omega), fun h => absurd (HS.out.symm.trans h) (by decide)⟩
        · by_cases h2 : 1 ≤ c
          · have hps : personS r (pre ++ l.take n) true x = 15 := by unfold personS; rw [if_neg (by omega), if_pos (HM.out.2 (by omega))]
            have hsc := (scan_err OK.out HX.out (by rw [hps]; decide)).trans hps
            have HS := Lib.hid hsc; clear hps hsc
            go_wp2
            go_ret
            exact ⟨by rw [HS.out] <;> rfl, Below_mapPut hbel (Nat.le_refl _) _ _, by rw [mapPut_cell]; exact HSB.out, HPUT.out.2.1.mono (by omega), fun h => absurd (HS.out.symm.trans h) (by decide)⟩
          · have h2' : (c : Int) ≤ 0 := by omega
            by_cases h3 : 0 ≤ findI r x
            · have hps : personS r (pre ++ l.take n) true x = 0 := by unfold personS; rw [if_neg (by omega), if_neg (fun h => absurd (HM.out.1 h) (by omega)), if_pos (by rw [decide_eq_true h3])]
              have HP := Lib.hid hps; clear hps
              go_wp2_with (go_at_call 71; refine (roster_Find _ _ _).mono ?_; rintro e w' ⟨rfl, hb⟩)
              go_roundw
              case rel =>
                obtain ⟨_, i2, f2⟩ := HPUT.out
                exact ⟨n + 1, by omega, by go_num, okTo_succ OK.out HX.out HP.out, (Below_mapPut hbel (Nat.le_refl _) _ _).trans (hb.mono (by rw [mapPut_size]; omega)), (hb.cell (p := ⟨sb, 0, none⟩) (by rw [mapPut_size]; omega)).trans (by rw [mapPut_cell]; exact HSB.out), (i2.kept hb (by rw [mapPut_size]; omega)).mono (by omega), fun y => by
                  rw [mapFn_kept hb (by rw [mapPut_size]; omega), f2, take_snoc' HX.out, ← List.append_assoc, count_snoc]
                  by_cases hy : y = x
                  · subst hy; rw [if_pos rfl, if_pos rfl, HC.out]; simp
                  · rw [if_neg hy, if_neg (fun e => hy e.symm), FN.out]; rfl⟩
              case measure => simp [intOf]; omega
            · have h3' : findI r x < 0 := by omega
              have hd3 : decide (0 ≤ findI r x) = false := by rw [decide_eq_false (by omega)]
              clear h3
              have hps : personS r (pre ++ l.take n) true x = 16 := by unfold personS; rw [if_neg (by omega), if_neg (fun h => absurd (HM.out.1 h) (by omega)), if_neg (by rw [decide_eq_false (by omega)]; decide)]; rfl
              have hsc := (scan_err OK.out HX.out (by rw [hps]; decide)).trans hps
              have HS := Lib.hid hsc; clear hps hsc
              go_wp2_with (go_at_call 71; refine (roster_Find _ _ _).mono ?_; rintro e w' ⟨rfl, hb⟩)
              go_ret
              exact ⟨by rw [HS.out] <;> rfl, (Below_mapPut hbel (Nat.le_refl _) _ _).trans (hb.mono (by rw [mapPut_size]; omega)), (hb.cell (p := ⟨sb, 0, none⟩) (by rw [mapPut_size]; omega)).trans (by rw [mapPut_cell]; exact HSB.out), (HPUT.out.2.1.kept hb (by rw [mapPut_size]; omega)).mono (by omega), fun h => absurd (HS.out.symm.trans h) (by decide)⟩
    · have hnl : n = l.length := by omega
      have hge : (l.length : Int) ≤ (n : Int) := by omega
      rw [hnl] at OK hii hfn
      have hsc := scan_ok OK.out
      have HS := Lib.hid hsc
      have II := Lib.hid hii
      have FN := Lib.hid hfn
      clear hsc hii hfn hnl hlt hn
      go_wp2
      go_ret
      exact ⟨by rw [HS.out] <;> rfl, hbel, hsb, II.out, fun _ x => by rw [FN.out, List.take_length]⟩
set_option maxRecDepth 4000 in
set_option maxHeartbeats 1600000 in
theorem roster_Fits1_join (r : Nat → Entry) (pre l : List Int) (ao : Option Addr) (cap m sb rb B N : Nat) (w : World) (hlen : l.length ≤ 35184372088832) (hN : N ≤ 35184372088832) (hpre : pre.length ≤ 35184372088832) (hat : IntsIn w B ao l) (hw : ∀ x, x ∈ l → I64 x)
    (hBm : B ≤ m) (hrm : rb < m) (hsm : sb ≠ m) (hsl : sb < w.heap.size) (hml : m < w.heap.size) (hsb : w.cell? ⟨sb, 0, none⟩ = some (.map (some m))) (hrb : ∀ k, cellsAt w ⟨rb, 0, none⟩ k = cellsIn (rosterC r) 0 k) (hii : isII w m N) (hfn : ∀ x, (mapFn w m x).getD 0 = pre.count x) :
    Calls Tryd.prog 70 #[.slice ao l.length cap, .bool false, .int .i64 17, .pointer (some ⟨sb, 0, none⟩), .pointer (some ⟨rb, 0, none⟩)] w fun e w' => e = .returned (.int .i64 (scanS r false pre l)) ∧ Below m w w' ∧ w'.cell? ⟨sb, 0, none⟩ = some (.map (some m)) ∧ isII w' m (N + l.length) ∧ (scanS r false pre l = 0 → ∀ x, (mapFn w' m x).getD 0 = (pre ++ l).count x) := by
  go_enter Tryd.func70, Tryd.ntmps70
  go_wp2
  go_loopw [10, 13, 21, 28, 33] (fun _ i _ _ _ wr => ∃ n : Nat, n ≤ l.length ∧ i = .int .i64 n ∧ okTo r false pre l n ∧ Below m w wr ∧ wr.cell? ⟨sb, 0, none⟩ = some (.map (some m)) ∧ isII wr m (N + n) ∧ ∀ x, (mapFn wr m x).getD 0 = (pre ++ l.take n).count x) (fun _ i _ _ _ _ => l.length - (intOf i).toNat)
  case atStart => exact ⟨0, by omega, rfl, fun j x hj => absurd hj (by omega), Below.refl _ _, hsb, hii, fun x => by rw [hfn]; simp⟩
  case round =>
    clear hsb hfn hii
    obtain ⟨n, hn, rfl, hok, hbel, hsb, hii, hfn⟩ := hrel
    have hsz := hbel.size
    have hr0 : ∀ k, cellsAt wr ⟨rb, 0, none⟩ k = cellsIn (rosterC r) 0 k := fun k => by rw [← hrb k]; unfold cellsAt; rw [hbel.block rb hrm]
    have OK := Lib.hid hok; clear hok
    by_cases hlt : n < l.length
    · have hlt' : (n : Int) < (l.length : Int) := by omega
      obtain ⟨x, hx⟩ := some_of_lt hlt
      obtain ⟨b, off, rfl, hbB, hcx⟩ := (hat.kept (hbel.mono hBm)) n x hx
      have hwx := hw x (List.mem_of_getElem? hx)
      have hm := hii.m (by omega)
      have hcn : (pre ++ l.take n).count x ≤ pre.length + l.length := Nat.le_trans List.count_le_length (by rw [List.length_append, List.length_take]; omega)
      have hmem : x ∈ pre ++ l.take n ↔ 0 < (pre ++ l.take n).count x := List.count_pos_iff.symm
      have hgx := hfn x
      have II := Lib.hid hii; clear hii
      have FN := Lib.hid hfn; clear hfn
      have HX := Lib.hid hx; clear hx
      have HSB := Lib.hid hsb
      have hsq : sb < wr.heap.size := by omega
      have hmq : m < wr.heap.size := by omega
      have hbq : b < wr.heap.size := by omega
      have hrq : rb < wr.heap.size := by omega
      have hbm : b ≠ m := by omega
      have hrm2 : rb ≠ m := by omega
      have HAT := Lib.hid hat; clear hat
      have HW := Lib.hid hw; clear hw
      have HM := Lib.hid hmem; clear hmem
      generalize hc : (pre ++ l.take n).count x = c at *
      have HC := Lib.hid hc; clear hc
      have hput := II.out.put (by unfold maxLen; omega) hwx (show I64 ((c : Int) + 1) by unfold I64; omega)
      have hp1 : isM (mapPut wr m x ((c : Int) + 1)) m := hput.2.1.m (by omega)
      have hp2 : (mapFn (mapPut wr m x ((c : Int) + 1)) m x).getD 0 = (c : Int) + 1 := by rw [hput.2.2 x, if_pos rfl]; rfl
      have HPUT := Lib.hid hput; clear hput
      by_cases h1 : x < 0
      · have hps : personS r (pre ++ l.take n) false x = 14 := by unfold personS; rw [if_pos (Or.inl h1)]
        have hsc := (scan_err OK.out HX.out (by rw [hps]; decide)).trans hps
        have HS := Lib.hid hsc; clear hps hsc
        go_wp2
        go_ret
        exact ⟨by rw [HS.out] <;> rfl, Below_mapPut hbel (Nat.le_refl _) _ _, by rw [mapPut_cell]; exact HSB.out, HPUT.out.2.1.mono (by omega), fun h => absurd (HS.out.symm.trans h) (by decide)⟩
      · by_cases h1' : 256 ≤ x
        · have hps : personS r (pre ++ l.take n) false x = 14 := by unfold personS; rw [if_pos (Or.inr h1')]
          have hsc := (scan_err OK.out HX.out (by rw [hps]; decide)).trans hps
          have HS := Lib.hid hsc; clear hps hsc
          go_wp2
          go_ret
          exact ⟨by rw [HS.out] <;> rfl, Below_mapPut hbel (Nat.le_refl _) _ _, by rw [mapPut_cell]; exact HSB.out, HPUT.out.2.1.mono (by omega), fun h => absurd (HS.out.symm.trans h) (by decide)⟩
        · by_cases h2 : 1 ≤ c
          · have hps : personS r (pre ++ l.take n) false x = 15 := by unfold personS; rw [if_neg (by omega), if_pos (HM.out.2 (by omega))]
            have hsc := (scan_err OK.out HX.out (by rw [hps]; decide)).trans hps
            have HS := Lib.hid hsc; clear hps hsc
            go_wp2
            go_ret
            exact ⟨by rw [HS.out] <;> rfl, Below_mapPut hbel (Nat.le_refl _) _ _, by rw [mapPut_cell]; exact HSB.out, HPUT.out.2.1.mono (by omega), fun h => absurd (HS.out.symm.trans h) (by decide)⟩
          · have h2' : (c : Int) ≤ 0 := by omega
            by_cases h3 : findI r x < 0
            · have hps : personS r (pre ++ l.take n) false x = 0 := by unfold personS; rw [if_neg (by omega), if_neg (fun h => absurd (HM.out.1 h) (by omega)), if_pos (by rw [decide_eq_false (by omega)])]
              have HP := Lib.hid hps; clear hps
              go_wp2_with (go_at_call 71; refine (roster_Find _ _ _).mono ?_; rintro e w' ⟨rfl, hb⟩)
              go_roundw
              case rel =>
                obtain ⟨_, i2, f2⟩ := HPUT.out
                exact ⟨n + 1, by omega, by go_num, okTo_succ OK.out HX.out HP.out, (Below_mapPut hbel (Nat.le_refl _) _ _).trans (hb.mono (by rw [mapPut_size]; omega)), (hb.cell (p := ⟨sb, 0, none⟩) (by rw [mapPut_size]; omega)).trans (by rw [mapPut_cell]; exact HSB.out), (i2.kept hb (by rw [mapPut_size]; omega)).mono (by omega), fun y => by
                  rw [mapFn_kept hb (by rw [mapPut_size]; omega), f2, take_snoc' HX.out, ← List.append_assoc, count_snoc]
                  by_cases hy : y = x
                  · subst hy; rw [if_pos rfl, if_pos rfl, HC.out]; simp
                  · rw [if_neg hy, if_neg (fun e => hy e.symm), FN.out]; rfl⟩
              case measure => simp [intOf]; omega
            · have h3' : 0 ≤ findI r x := by omega
              have hd3 : decide (0 ≤ findI r x) = true := by rw [decide_eq_true (by omega)]
              clear h3
              have hps : personS r (pre ++ l.take n) false x = 17 := by unfold personS; rw [if_neg (by omega), if_neg (fun h => absurd (HM.out.1 h) (by omega)), if_neg (by rw [decide_eq_true h3']; decide)]; rfl
              have hsc := (scan_err OK.out HX.out (by rw [hps]; decide)).trans hps
              have HS := Lib.hid hsc; clear hps hsc
              go_wp2_with (go_at_call 71; refine (roster_Find _ _ _).mono ?_; rintro e w' ⟨rfl, hb⟩)
              go_ret
              exact ⟨by rw [HS.out] <;> rfl, (Below_mapPut hbel (Nat.le_refl _) _ _).trans (hb.mono (by rw [mapPut_size]; omega)), (hb.cell (p := ⟨sb, 0, none⟩) (by rw [mapPut_size]; omega)).trans (by rw [mapPut_cell]; exact HSB.out), (HPUT.out.2.1.kept hb (by rw [mapPut_size]; omega)).mono (by omega), fun h => absurd (HS.out.symm.trans h) (by decide)⟩
    · have hnl : n = l.length := by omega
      have hge : (l.length : Int) ≤ (n : Int) := by omega
      rw [hnl] at OK hii hfn
      have hsc := scan_ok OK.out
      have HS := Lib.hid hsc
      have II := Lib.hid hii
      have FN := Lib.hid hfn
      clear hsc hii hfn hnl hlt hn
      go_wp2
      go_ret
      exact ⟨by rw [HS.out] <;> rfl, hbel, hsb, II.out, fun _ x => by rw [FN.out, List.take_length]⟩
end Go.Proofs.YtodgcmakdndbfaaDoor
/-
  Contracts: roster.Fits. Printed by wip/gen/gk.py.
-/
namespace Go.Proofs.YtodgcmakdndbfaaDoor
open Go.RowKit Cot
set_option linter.unusedSimpArgs false
set_option linter.unusedVariables false

theorem fits_bad {r : Nat → Entry} {lv jn : List Int} (h : ¬ RightRoster r) : fitsS r lv jn = 31 := by unfold fitsS; rw [if_pos h]
theorem fits_lv {r : Nat → Entry} {lv jn : List Int} (h : RightRoster r) (h2 : scanS r true [] lv ≠ 0) : fitsS r lv jn = scanS r true [] lv := by unfold fitsS; rw [if_neg (by simpa using h), if_pos h2]
theorem fits_jn {r : Nat → Entry} {lv jn : List Int} (h : RightRoster r) (h2 : scanS r true [] lv = 0) (h3 : scanS r false lv jn ≠ 0) : fitsS r lv jn = scanS r false lv jn := by unfold fitsS; rw [if_neg (by simpa using h), if_neg (by simpa using h2), if_pos h3]
theorem fits_full {r : Nat → Entry} {lv jn : List Int} (h : RightRoster r) (h2 : scanS r true [] lv = 0) (h3 : scanS r false lv jn = 0) : fitsS r lv jn = if (64 : Int) - cntOf (takenP r) 64 + lv.length < jn.length then 18 else 0 := by unfold fitsS; rw [if_neg (by simpa using h), if_neg (by simpa using h2), if_neg (by simpa using h3)]
theorem Blk.range {w : World} {b : Nat} {c : Array Value} {t : TypeId} (h : Blk w b c t) : w.rangeAt b 0 c.toList := fun j v hv => by rw [h.cell, Nat.zero_add]; simpa using hv
theorem takenN_lt (r : Nat → Entry) : takenN r < 18446744073709551616 := bitsOf_lt _ 64
theorem takenN_pop (r : Nat → Entry) : popN 64 (takenN r) = cntOf (takenP r) 64 := popN_bitsOf _ 64
set_option maxRecDepth 100000 in
set_option maxHeartbeats 1600000 in
theorem roster_Fits (r : Nat → Entry) (lv jn : List Int) (ao bo : Option Addr) (cap cap2 : Nat) (w : World) (hr : ∀ j, I64 (r j).base) (hr2 : ∀ j, I64 (r j).who) (hl1 : lv.length ≤ 35184372088832) (hl2 : jn.length ≤ 35184372088832)
    (hA : IntsAt w ao lv) (hJ : IntsAt w bo jn) (hwl : ∀ x, x ∈ lv → I64 x) (hwj : ∀ x, x ∈ jn → I64 x) :
    Calls Tryd.prog 45 #[.agg (rosterC r), .agg #[.slice ao lv.length cap, .slice bo jn.length cap2]] w fun e w' => e = .returned (.int .i64 (fitsS r lv jn)) ∧ Below w.heap.size w w' := by
  have hmm := @run_makeMap Tryd.prog
  by_cases hR : RightRoster r
  rotate_left
  · have hcr := checkRoster_not hR
    have HF := Lib.hid (fits_bad (lv := lv) (jn := jn) hR)
    clear hR
    go_enter Tryd.func45, Tryd.ntmps45
    go_wp2_with (go_at_call 69; refine (roster_Check r hr hr2 _).mono ?_; rintro e w1 ⟨rfl, hb⟩; obtain ⟨bc, bf, ba, br, bz⟩ := bFacts hb; have hz := bSize hb (n := w.heap.size + 2) (by first | omega | (simp; done) | (simp; omega)); have hc0 := fun o => bc w.heap.size o (by first | omega | (simp; done) | (simp; omega)); have hf0 := fun o => bf w.heap.size o (by first | omega | (simp; done) | (simp; omega)); have ha0 := fun o k => ba w.heap.size o k (by first | omega | (simp; done) | (simp; omega)); have hr0 := fun k => br w.heap.size k (by first | omega | (simp; done) | (simp; omega)); have hy0 := bz w.heap.size (by first | omega | (simp; done) | (simp; omega)); have hc1 := fun o => bc (w.heap.size + 1) o (by first | omega | (simp; done) | (simp; omega)); have hf1 := fun o => bf (w.heap.size + 1) o (by first | omega | (simp; done) | (simp; omega)); have ha1 := fun o k => ba (w.heap.size + 1) o k (by first | omega | (simp; done) | (simp; omega)); have hr1 := fun k => br (w.heap.size + 1) k (by first | omega | (simp; done) | (simp; omega)); have hy1 := bz (w.heap.size + 1) (by first | omega | (simp; done) | (simp; omega)); clear bc bf ba br bz; simp only [hcr])
    go_ret
    exact ⟨by rw [HF.out] <;> rfl, bCall' hb (bAlloc (bAlloc (Below.refl _ _) _) _)⟩
  have hcr := checkRoster_of hR
  have HR := Lib.hid hR; clear hR
  go_enter Tryd.func45, Tryd.ntmps45
  go_wp2_with (go_at_call 69; refine (roster_Check r hr hr2 _).mono ?_; rintro e w1 ⟨rfl, hb⟩; obtain ⟨bc, bf, ba, br, bz⟩ := bFacts hb; have hz := bSize hb (n := w.heap.size + 2) (by first | omega | (simp; done) | (simp; omega)); have hc0 := fun o => bc w.heap.size o (by first | omega | (simp; done) | (simp; omega)); have hf0 := fun o => bf w.heap.size o (by first | omega | (simp; done) | (simp; omega)); have ha0 := fun o k => ba w.heap.size o k (by first | omega | (simp; done) | (simp; omega)); have hr0 := fun k => br w.heap.size k (by first | omega | (simp; done) | (simp; omega)); have hy0 := bz w.heap.size (by first | omega | (simp; done) | (simp; omega)); have hc1 := fun o => bc (w.heap.size + 1) o (by first | omega | (simp; done) | (simp; omega)); have hf1 := fun o => bf (w.heap.size + 1) o (by first | omega | (simp; done) | (simp; omega)); have ha1 := fun o k => ba (w.heap.size + 1) o k (by first | omega | (simp; done) | (simp; omega)); have hr1 := fun k => br (w.heap.size + 1) k (by first | omega | (simp; done) | (simp; omega)); have hy1 := bz (w.heap.size + 1) (by first | omega | (simp; done) | (simp; omega)); clear bc bf ba br bz; simp only [hcr])
  have hsz1 : w.heap.size + 2 ≤ w1.heap.size := hz
  have hbx := bCall (bAlloc (bAlloc (Below.refl w.heap.size w) (.cells (rosterC r) 29)) (.cells #[.slice ao lv.length cap, .slice bo jn.length cap2] 34)) hb
  have hro : ∀ k, cellsAt w1 ⟨w.heap.size, 0, none⟩ k = cellsIn (rosterC r) 0 k := fun k => by rw [ha0]; simp [go_sem]
  have hii0 := isII_new w1
  have hfn0 := mapFn_new w1
  have hin1 : IntsIn ((w1.alloc (.map #[] 0)).alloc (.cells #[.map (some w1.heap.size)] 52)) w.heap.size ao lv := hA.into (bAlloc (bAlloc hbx _) _)
  have hin2 : IntsIn ((w1.alloc (.map #[] 0)).alloc (.cells #[.map (some w1.heap.size)] 52)) w.heap.size bo jn := hJ.into (bAlloc (bAlloc hbx _) _)
  have hL := roster_Fits1_leave r [] lv ao cap w1.heap.size (w1.heap.size + 1) w.heap.size w.heap.size 0 ((w1.alloc (.map #[] 0)).alloc (.cells #[.map (some w1.heap.size)] 52)) hl1 (by omega) (by simp) hin1 hwl (by omega) (by omega) (by omega) (by simp only [World.size_alloc]; omega) (by simp only [World.size_alloc]; omega)
    (by have h := (Blk.new (w1.alloc (.map #[] 0)) #[.map (some w1.heap.size)] 52).cell 0; rw [World.size_alloc] at h; exact h) (fun k => by rw [cellsAt_alloc_past _ _ _ _ _ (by simp; omega), cellsAt_alloc_past _ _ _ _ _ (by omega)]; exact hro k) (hii0.alloc _) (fun x => by rw [mapFn_of_block (Below.heap_alloc _ _ _ (by simp)), hfn0]; rfl)
  go_at_call 70
  have hB0w : Blk w1 w.heap.size (rosterC r) 29 := ((Blk.new w _ _).alloc _).kept hb (by simp only [World.size_alloc]; omega)
  have hB1w : Blk w1 (w.heap.size + 1) #[.slice ao lv.length cap, .slice bo jn.length cap2] 34 := by
    have h := (Blk.new (w.alloc (.cells (rosterC r) 29)) #[.slice ao lv.length cap, .slice bo jn.length cap2] 34).kept hb (by simp)
    rw [World.size_alloc] at h; exact h
  refine hL.mono ?_
  clear hL
  rintro e w2 ⟨rfl, hb2, hsb2, hii2, hfn2⟩
  have hb12 : Below w1.heap.size w1 w2 := ((((Below.refl w1.heap.size w1).alloc (Nat.le_refl _) _)).alloc (by simp) _).trans hb2
  have hsz2 := hb2.size
  simp only [World.size_alloc] at hsz2
  clear hc0 hf0 ha0 hr0 hc1 hf1 ha1 hr1 hz hy0 hy1
  by_cases hs1 : scanS r true [] lv = 0
  rotate_left
  · have hsn : (scanS r true [] lv != 0) = true := by simpa using hs1
    have HF := Lib.hid (fits_lv (jn := jn) HR.out hs1)
    clear hs1 hii0 hfn0 hin1 hin2 hro hii2 hfn2 hB0w hB1w hcr
    go_wp2
    go_ret
    exact ⟨by rw [HF.out] <;> rfl, hbx.trans (hb12.mono (by omega))⟩
  · have hfn3 := hfn2 hs1
    have hJ2 := roster_Fits1_join r ([] ++ lv) jn bo cap2 w1.heap.size (w1.heap.size + 1) w.heap.size w.heap.size (0 + lv.length) w2 hl2 (by omega) (by simpa using hl1) (hin2.kept (hb2.mono (by omega))) hwj (by omega) (by omega) (by omega) (by omega) (by omega)
      hsb2 (fun k => by rw [(hB0w.kept hb12 (by omega)).at]) hii2 hfn3
    rw [List.nil_append] at hJ2
    have HS1 := Lib.hid hs1
    have hse : scanS r true [] lv = 0 := hs1
    clear hs1 hii0 hfn0 hin1 hin2 hro hii2 hfn2 hfn3 hcr
    have hB0 := hB0w.kept hb12 (by omega); have hB1 := hB1w.kept hb12 (by omega); have hc0 := hB0.cell; have hf0 := hB0.frozen; have ha0 := hB0.at; have hc1 := hB1.cell; have hf1 := hB1.frozen; have hy0 := hB0.lt; have hy1 := hB1.lt
    go_wp2_with fail
    refine hJ2.mono ?_
    clear hJ2
    clear hc0 hf0 ha0 hc1 hf1 hy0 hy1 hB0 hB1
    rintro e w3 ⟨rfl, hb3, _, _, _⟩
    have hb13 := hb12.trans hb3
    have hsz3 := hb3.size
    by_cases hs2 : scanS r false lv jn = 0
    rotate_left
    · have hsn : (scanS r false lv jn != 0) = true := by simpa using hs2
      have HF := Lib.hid (fits_jn HR.out HS1.out hs2)
      clear hs2 hB0w hB1w hse
      go_wp2
      go_ret
      exact ⟨by rw [HF.out] <;> rfl, hbx.trans (hb13.mono (by omega))⟩
    · have HF := Lib.hid (fits_full HR.out HS1.out hs2)
      have hcl := cntOf_le (takenP r) 64
      have hpop := takenN_pop r
      have htl := takenN_lt r
      generalize cntOf (takenP r) 64 = c at *
      have hB0 := hB0w.kept hb13 (by omega); have hB1 := hB1w.kept hb13 (by omega); have hc0 := hB0.cell; have hf0 := hB0.frozen; have ha0 := hB0.at; have hc1 := hB1.cell; have hf1 := hB1.frozen; have hy0 := hB0.lt; have hy1 := hB1.lt
      go_wp2
      clear hs2 hse
      have HTL := Lib.hid htl; clear htl
      have hw1 : IntKind.i64.wrap (64 - (c : Int)) = 64 - (c : Int) := IntWalk.i64_in _ (by omega)
      have hw2 : IntKind.i64.wrap (64 - (c : Int) + (lv.length : Int)) = 64 - (c : Int) + (lv.length : Int) := IntWalk.i64_in _ (by omega)
      have HF2 : (64 : Int) - (c : Int) + (lv.length : Int) < (jn.length : Int) ∨ (jn.length : Int) ≤ (64 : Int) - (c : Int) + (lv.length : Int) := by omega
      have HLT := Lib.hid HF2; clear HF2
      have hui := Tryd.underlying29
      have hsi : (Tryd.prog.info? 29).map (·.size) = some (rosterC r).toList.length := by rw [Array.length_toList, rosterC_size]; kernel_rfl
      go_region_held3 (fun w' => w'.rangeAt w.heap.size 0 (rosterC r).toList ∧ w'.cell? ⟨w.heap.size + 1, 0, none⟩ = some (.slice ao lv.length cap) ∧ w'.cell? ⟨w.heap.size + 1, 1, none⟩ = some (.slice bo jn.length cap2))
        (first
          | exact ⟨hB0.range, hB1.cell 0, hB1.cell 1⟩
          | exact ⟨hB0q.range, hB1q.cell 0, hB1q.cell 1⟩
          | go_keep)
        (first
          | (go_at_call 53; (try simp only [Array.toArray_toList]); refine (roster_Taken _ _).mono ?_; rintro e w4 ⟨rfl, hb4⟩; have hb4' := hb13.drew.trans (hb4.mono (show _ ≤ w3.heap.size by omega)); have hB0q := hB0w.kept hb4' (by omega); have hB1q := hB1w.kept hb4' (by omega))
          | (go_at_call 72; refine (seats_Count _ HTL.out _).mono ?_; rintro e w5 ⟨rfl, rfl⟩; simp only [hpop]))
      clear hw1 hw2 hui hsi hb3 hb2 hsb2
      rcases HLT.out with hful | hful
      · have HV := Lib.hid (HF.out.trans (if_pos hful))
        go_wp2
        go_ret
        exact ⟨by rw [HV.out] <;> rfl, hbx.trans (hb4'.mono (by omega))⟩
      · have HV := Lib.hid (HF.out.trans (if_neg (by omega)))
        go_wp2
        go_ret
        exact ⟨by rw [HV.out] <;> rfl, hbx.trans (hb4'.mono (by omega))⟩
end Go.Proofs.YtodgcmakdndbfaaDoor
/-
  Contracts: rows of 256 truth values; coterieref09.person. Printed by wip/gen/gk.py.
-/
namespace Cot
open Go
@[irreducible] def seenC (p : Nat → Bool) : Array Value := tab 256 (fun i => .bool (p i))
theorem seenC_size (p : Nat → Bool) : (seenC p).size = 256 := by unfold seenC; exact tab_size _ _
theorem seenC_get (p : Nat → Bool) (j : Nat) (h : j < 256) : (seenC p)[j]? = some (.bool (p j)) := by unfold seenC; rw [tab_get_lt h]
theorem seenC_congr {p q : Nat → Bool} (h : ∀ j, j < 256 → p j = q j) : seenC p = seenC q := by
  unfold seenC; exact tab_congr fun i hi => by rw [h i hi]
theorem seenC_set (p : Nat → Bool) (j : Nat) (h : j < 256) (b : Bool) : (seenC p).setIfInBounds j (.bool b) = seenC (upd p j b) := by
  apply Array.ext_getElem?
  intro i
  rw [arr_set_get, seenC_size]
  by_cases hi : i < 256
  · rw [seenC_get _ i hi, seenC_get _ i hi]
    by_cases hj : j = i
    · subst hj; rw [if_pos rfl, if_pos h, upd_same]
    · rw [if_neg hj, upd_other _ _ _ (Ne.symm hj)]
  · rw [Array.getElem?_eq_none (by rw [seenC_size]; omega), Array.getElem?_eq_none (by rw [seenC_size]; omega)]
    split
    · rfl
    · rfl
end Cot
namespace Go.Proofs.YtodgcmakdndbfaaDoor
open Go.RowKit Cot
set_option linter.unusedSimpArgs false
set_option linter.unusedVariables false
@[go_sem] theorem seenC_getS (p : Nat → Bool) (j : Nat) (h : j < 256) : (seenC p)[j]? = some (.bool (p j)) := seenC_get p j h
@[go_sem] theorem cellsIn_seen (k : Nat → Bool) : cellsIn (seenC k) 0 256 = some (seenC k) := by
  have h := seenC_size k
  simp only [cellsIn, h]
  rw [if_pos (by omega)]
  congr 1
  rw [show (0 + 256 : Nat) = (seenC k).size by rw [h]]
  simp
@[go_sem] theorem seenC_size_b (k : Nat → Bool) : ((seenC k).size == 256) = true := by rw [seenC_size]; rfl
@[go_sem ↓] theorem loadAt_seen (x : Value) : Instr.loadAt 116 x = ldBig 116 x := rfl
@[go_sem] theorem load_seen (w : World) (b off : Nat) : (ldBig 116 (.pointer (some ⟨b, off, none⟩))).run Tryd.prog w = match cellsAt w ⟨b, off, none⟩ 256 with | some cs => .ok (.agg cs) w | none => (ldBig' 116 (.pointer (some ⟨b, off, none⟩))).run Tryd.prog w := by
  split
  · rename_i cs h; exact (run_loadVar_big _ 256 _ Tryd.underlying116 rfl (by kernel_rfl) w b off (by rw [h]; rfl)).trans (by rw [h]; rfl)
  · rfl
@[go_sem ↓] theorem storeAt_seen (x v : Value) : Instr.storeAt 116 x v = stBig 116 x v := rfl
theorem oneCell_seen (k : Nat → Bool) : ∀ v ∈ (seenC k).toList, v.oneCell' = true := by unfold seenC; exact oneCell_tab _ _ fun p => rfl
@[go_sem] theorem store_seen (w : World) (b : Nat) (k : Nat → Bool) : (stBig 116 (.pointer (some ⟨b, 0, none⟩)) (.agg (seenC k))).run Tryd.prog w = if rowOf w b 256 = true then .ok () (w.setRow b (seenC k)) else (stBig' 116 (.pointer (some ⟨b, 0, none⟩)) (.agg (seenC k))).run Tryd.prog w := by
  split
  · rename_i h; exact run_stBig _ 256 (by kernel_rfl) _ (seenC_size k) (oneCell_seen k) w b h
  · rfl
@[go_sem ↓] theorem alloc_at_seen (v : Value) : Instr.alloc 116 true v = alBig 116 v := rfl
def seen0 : Nat → Bool := fun _ => false
@[go_sem] theorem alloc_seen (w : World) : (alBig 116 (.tuple #[])).run Tryd.prog w = .ok (.pointer (some ⟨w.heap.size, 0, none⟩)) (w.alloc (.cells (seenC seen0) 116)) := by kernel_rfl

@[go_sem ↓] theorem loadVar_seen (a : Addr) : loadVar 116 a = ldV 116 a := rfl
@[go_sem] theorem ldV_seen (w : World) (b off : Nat) : (ldV 116 ⟨b, off, none⟩).run Tryd.prog w = match cellsAt w ⟨b, off, none⟩ 256 with | some cs => .ok (.agg cs) w | none => (ldV' 116 ⟨b, off, none⟩).run Tryd.prog w := by
  split
  · rename_i cs h; exact (run_loadVar_big _ 256 _ Tryd.underlying116 rfl (by kernel_rfl) w b off (by rw [h]; rfl)).trans (by rw [h]; rfl)
  · rfl
theorem Blk.see {w : World} {b : Nat} {t : TypeId} {p : Nat → Bool} (h : Blk w b (seenC p) t) (j : Nat) (hj : j < 256) (x : Bool) :
    Blk (w.setCell ⟨b, j, none⟩ (.bool x)) b (seenC (upd p j x)) t := (h.set _ _).cast (seenC_set p j hj x)
set_option maxHeartbeats 1600000 in
set_option maxRecDepth 4000 in
theorem ref09_person_leave (r : Nat → Entry) (q : Nat → Bool) (pre : List Int) (x : Int) (hq : 0 ≤ x → x < 256 → q x.toNat = decide (x ∈ pre)) (w : World) :
    Calls Tryd.prog 81 #[.agg (rosterC r), .agg (seenC q), .int .i64 x, .bool true] w fun e w' => e = .returned (.int .i64 (personS r pre true x)) ∧ Below w.heap.size w w' := by
  by_cases h1 : x < 0
  · have hv : personS r pre true x = 14 := by unfold personS; rw [if_pos (Or.inl h1)]
    have HV := Lib.hid hv; clear hv hq
    go_enter Tryd.func81, Tryd.ntmps81
    go_wp2
    go_ret
    exact ⟨by rw [HV.out] <;> rfl, bAlloc (bAlloc (Below.refl _ _) _) _⟩
  by_cases h2 : 256 ≤ x
  · have hv : personS r pre true x = 14 := by unfold personS; rw [if_pos (Or.inr h2)]
    have HV := Lib.hid hv; clear hv hq
    go_enter Tryd.func81, Tryd.ntmps81
    go_wp2
    go_ret
    exact ⟨by rw [HV.out] <;> rfl, bAlloc (bAlloc (Below.refl _ _) _) _⟩
  obtain ⟨n, rfl⟩ : ∃ n : Nat, x = n := ⟨x.toNat, by omega⟩
  have hn : n < 256 := by omega
  have hn' : (n : Int) < 256 := by omega
  have hqn := hq (by omega) hn'
  rw [Int.toNat_natCast] at hqn
  clear hq h2 h1
  by_cases h3 : (n : Int) ∈ pre
  · have hv : personS r pre true n = 15 := by unfold personS; rw [if_neg (by omega), if_pos h3]
    have hqt : q n = true := by rw [hqn]; exact decide_eq_true h3
    have HV := Lib.hid hv; clear hv hqn h3
    go_enter Tryd.func81, Tryd.ntmps81
    go_wp2_with (go_at_call 19; refine (ref09_Find _ _ _).mono ?_; rintro e w' ⟨rfl, hb⟩; obtain ⟨bc, bf, ba, br, bz⟩ := bFacts hb; have hc1 := fun o => bc (w.heap.size + 1) o (by simp); have hf1 := fun o => bf (w.heap.size + 1) o (by simp); clear bc bf ba br bz)
    go_ret
    exact ⟨by rw [HV.out] <;> rfl, bCall' hb (bAlloc (bAlloc (Below.refl _ _) _) _)⟩
  have hqt : q n = false := by rw [hqn]; exact decide_eq_false h3
  by_cases h4 : 0 ≤ findI r n
  · have hv : personS r pre true n = 0 := by unfold personS; rw [if_neg (by omega), if_neg h3, decide_eq_true h4]; rfl
    have HV := Lib.hid hv; clear hv hqn h3
    go_enter Tryd.func81, Tryd.ntmps81
    go_wp2_with (go_at_call 19; refine (ref09_Find _ _ _).mono ?_; rintro e w' ⟨rfl, hb⟩; obtain ⟨bc, bf, ba, br, bz⟩ := bFacts hb; have hc1 := fun o => bc (w.heap.size + 1) o (by simp); have hf1 := fun o => bf (w.heap.size + 1) o (by simp); clear bc bf ba br bz)
    go_ret
    exact ⟨by rw [HV.out] <;> rfl, bCall' hb (bAlloc (bAlloc (Below.refl _ _) _) _)⟩
  · have hv : personS r pre true n = 16 := by unfold personS; rw [if_neg (by omega), if_neg h3, decide_eq_false h4]; rfl
    have h4' : findI r n < 0 := by omega
    have hd4 : decide (0 ≤ findI r n) = false := decide_eq_false h4
    have HV := Lib.hid hv; clear hv hqn h3 h4
    go_enter Tryd.func81, Tryd.ntmps81
    go_wp2_with (go_at_call 19; refine (ref09_Find _ _ _).mono ?_; rintro e w' ⟨rfl, hb⟩; obtain ⟨bc, bf, ba, br, bz⟩ := bFacts hb; have hc1 := fun o => bc (w.heap.size + 1) o (by simp); have hf1 := fun o => bf (w.heap.size + 1) o (by simp); clear bc bf ba br bz)
    go_ret
    exact ⟨by rw [HV.out] <;> rfl, bCall' hb (bAlloc (bAlloc (Below.refl _ _) _) _)⟩
set_option maxHeartbeats 1600000 in
set_option maxRecDepth 4000 in
theorem ref09_person_join (r : Nat → Entry) (q : Nat → Bool) (pre : List Int) (x : Int) (hq : 0 ≤ x → x < 256 → q x.toNat = decide (x ∈ pre)) (w : World) :
    Calls Tryd.prog 81 #[.agg (rosterC r), .agg (seenC q), .int .i64 x, .bool false] w fun e w' => e = .returned (.int .i64 (personS r pre false x)) ∧ Below w.heap.size w w' := by
  by_cases h1 : x < 0
  · have hv : personS r pre false x = 14 := by unfold personS; rw [if_pos (Or.inl h1)]
    have HV := Lib.hid hv; clear hv hq
    go_enter Tryd.func81, Tryd.ntmps81
    go_wp2
    go_ret
    exact ⟨by rw [HV.out] <;> rfl, bAlloc (bAlloc (Below.refl _ _) _) _⟩
  by_cases h2 : 256 ≤ x
  · have hv : personS r pre false x = 14 := by unfold personS; rw [if_pos (Or.inr h2)]
    have HV := Lib.hid hv; clear hv hq
    go_enter Tryd.func81, Tryd.ntmps81
    go_wp2
    go_ret
    exact ⟨by rw [HV.out] <;> rfl, bAlloc (bAlloc (Below.refl _ _) _) _⟩
  obtain ⟨n, rfl⟩ : ∃ n : Nat, x = n := ⟨x.toNat, by omega⟩
  have hn : n < 256 := by omega
  have hn' : (n : Int) < 256 := by omega
  have hqn := hq (by omega) hn'
  rw [Int.toNat_natCast] at hqn
  clear hq h2 h1
  by_cases h3 : (n : Int) ∈ pre
  · have hv : personS r pre false n = 15 := by unfold personS; rw [if_neg (by omega), if_pos h3]
    have hqt : q n = true := by rw [hqn]; exact decide_eq_true h3
    have HV := Lib.hid hv; clear hv hqn h3
    go_enter Tryd.func81, Tryd.ntmps81
    go_wp2_with (go_at_call 19; refine (ref09_Find _ _ _).mono ?_; rintro e w' ⟨rfl, hb⟩; obtain ⟨bc, bf, ba, br, bz⟩ := bFacts hb; have hc1 := fun o => bc (w.heap.size + 1) o (by simp); have hf1 := fun o => bf (w.heap.size + 1) o (by simp); clear bc bf ba br bz)
    go_ret
    exact ⟨by rw [HV.out] <;> rfl, bCall' hb (bAlloc (bAlloc (Below.refl _ _) _) _)⟩
  have hqt : q n = false := by rw [hqn]; exact decide_eq_false h3
  by_cases h4 : 0 ≤ findI r n
  · have hv : personS r pre false n = 17 := by unfold personS; rw [if_neg (by omega), if_neg h3, decide_eq_true h4]; rfl
    have HV := Lib.hid hv; clear hv hqn h3
    go_enter Tryd.func81, Tryd.ntmps81
    go_wp2_with (go_at_call 19; refine (ref09_Find _ _ _).mono ?_; rintro e w' ⟨rfl, hb⟩; obtain ⟨bc, bf, ba, br, bz⟩ := bFacts hb; have hc1 := fun o => bc (w.heap.size + 1) o (by simp); have hf1 := fun o => bf (w.heap.size + 1) o (by simp); clear bc bf ba br bz)
    go_ret
    exact ⟨by rw [HV.out] <;> rfl, bCall' hb (bAlloc (bAlloc (Below.refl _ _) _) _)⟩
  · have hv : personS r pre false n = 0 := by unfold personS; rw [if_neg (by omega), if_neg h3, decide_eq_false h4]; rfl
    have h4' : findI r n < 0 := by omega
    have hd4 : decide (0 ≤ findI r n) = false := decide_eq_false h4
    have HV := Lib.hid hv; clear hv hqn h3 h4
    go_enter Tryd.func81, Tryd.ntmps81
    go_wp2_with (go_at_call 19; refine (ref09_Find _ _ _).mono ?_; rintro e w' ⟨rfl, hb⟩; obtain ⟨bc, bf, ba, br, bz⟩ := bFacts hb; have hc1 := fun o => bc (w.heap.size + 1) o (by simp); have hf1 := fun o => bf (w.heap.size + 1) o (by simp); clear bc bf ba br bz)
    go_ret
    exact ⟨by rw [HV.out] <;> rfl, bCall' hb (bAlloc (bAlloc (Below.refl _ _) _) _)⟩
end Go.Proofs.YtodgcmakdndbfaaDoor
