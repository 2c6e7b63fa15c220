/-
  Parts of a proof: Items3, Tree. Merged by program.
-/
import Derived.Test.YtodgcmakdndbfaaDoorZ14
import Derived.ChangeKeysEq
/-
  Contracts: plan.items. Printed by wip/gen/gk.py.
-/
namespace Go.Proofs.YtodgcmakdndbfaaDoor
open Go.RowKit Cot
set_option linter.unusedSimpArgs false
set_option linter.unusedVariables false
theorem Blk.rangeR {w : World} {b : Nat} {t : Tree} {ty : TypeId} (h : Blk w b (treeC t) ty) : w.rangeAt b 44 (rosterC t.roster).toList := fun j v hv => by
  have hj : j < 192 := by
    have := (List.getElem?_eq_some_iff.1 hv).1
    rw [Array.length_toList, rosterC_size] at this; exact this
  have hv' : (rosterC t.roster)[j]? = some v := by simpa using hv
  rw [h.cell, treeC_get_ent t j hj, ← hv', rosterC_cell _ _ hj]
theorem Blk.rangeK {w : World} {b : Nat} {t : Tree} {ty : TypeId} (h : Blk w b (treeC t) ty) : w.rangeAt b 2 (keysC t.keys).toList := fun j v hv => by
  have hj : j < 42 := by
    have := (List.getElem?_eq_some_iff.1 hv).1
    rw [Array.length_toList, keysC_size] at this; exact this
  have hv' : (keysC t.keys)[j]? = some v := by simpa using hv
  rw [h.cell, treeC_get_key t j hj, ← hv', keysC_cell _ _ hj]
theorem mask_held (r : Nat → Entry) (c : Nat) (hc : c < 85) : (bits .and .u64 (maskN c : Int) (takenN r : Int) != 0) = heldP r c := by
  have h1 : bits .and .u64 (maskN c : Int) (takenN r : Int) = ((maskN c &&& takenN r : Nat) : Int) := u64_and_nat _ _ (maskN_lt c) (takenN_lt r)
  rw [h1]
  have h := mask_taken r hc
  cases hh : heldP r c
  · have : ¬ (maskN c &&& takenN r ≠ 0) := fun e => by have := h.1 e; rw [hh] at this; cases this
    simp at this ⊢; exact this
  · have := h.2 hh
    simp at this ⊢; exact this
theorem idx_path (s i : Nat) (hi : i < 3) (w : World) : (Instr.index 49 (.agg #[I (5 + (s : Int) / 4), I (1 + (s : Int) / 16), I 0]) (.int .i64 (i : Int))).run Tryd.prog w = .ok (I ((pathN s i : Nat) : Int)) w :=
  run_index_arr Tryd.underlying49 (s := 1) (by kernel_rfl) w _ i hi _ fun w => by rw [Nat.mul_one]; exact part_int _ _ _ (pathI_get s i hi) w
set_option maxRecDepth 100000 in
set_option maxHeartbeats 3000000 in
theorem plan_items (t : Tree) (ep : Int) (vi : Value) (left joined : List Seat) (ao bo : Option Addr) (cap cap2 : Nat) (hl : okSlots left) (hj : okSlots joined) (hll : left.length ≤ 1000000) (hjl : joined.length ≤ 1000000) (he : t.epoch ≤ 1000000)
    (hgi : ∀ v, v < 21 → goodK (nodeK t v)) (hgh : ∀ c, c < 85 → heldP t.roster c = true → goodK (nodeK t c)) (hgj : ∀ x, x ∈ joined → goodK (nodeK t (21 + x.slot.toNat))) (w : World) (hA : SeatsAt w ao left) (hJ : SeatsAt w bo joined) :
    Calls Tryd.prog 28 #[.agg (treeC t), .agg #[.int .i64 ep, .slice ao left.length cap, .slice bo joined.length cap2, vi]] w fun e w' => ∃ v, e = .returned v ∧ OwnItems w' w.heap.size v (itemsS t left joined) ∧ Below w.heap.size w w' := by
  have hb0 : Below w.heap.size w (((w.alloc (.cells (treeC t) 31)).alloc (.cells #[.int .i64 ep, .slice ao left.length cap, .slice bo joined.length cap2, vi] 39)).alloc (.cells #[.slice none 0 0] 37)) := bAlloc (bAlloc (bAlloc (Below.refl _ _) _) _) _
  have k0 : Blk (((w.alloc (.cells (treeC t) 31)).alloc (.cells #[.int .i64 ep, .slice ao left.length cap, .slice bo joined.length cap2, vi] 39)).alloc (.cells #[.slice none 0 0] 37)) w.heap.size (treeC t) 31 := ((Blk.new w _ _).alloc _).alloc _
  have k1 : Blk (((w.alloc (.cells (treeC t) 31)).alloc (.cells #[.int .i64 ep, .slice ao left.length cap, .slice bo joined.length cap2, vi] 39)).alloc (.cells #[.slice none 0 0] 37)) (w.heap.size + 1) #[.int .i64 ep, .slice ao left.length cap, .slice bo joined.length cap2, vi] 39 := by
    have h := (Blk.new (w.alloc (.cells (treeC t) 31)) #[.int .i64 ep, .slice ao left.length cap, .slice bo joined.length cap2, vi] 39).alloc (.cells #[.slice none 0 0] 37); rw [World.size_alloc] at h; exact h
  have k2 : Blk (((w.alloc (.cells (treeC t) 31)).alloc (.cells #[.int .i64 ep, .slice ao left.length cap, .slice bo joined.length cap2, vi] 39)).alloc (.cells #[.slice none 0 0] 37)) (w.heap.size + 2) #[.slice none 0 0] 37 := by
    have h := Blk.new ((w.alloc (.cells (treeC t) 31)).alloc (.cells #[.int .i64 ep, .slice ao left.length cap, .slice bo joined.length cap2, vi] 39)) #[.slice none 0 0] 37; simp only [World.size_alloc] at h; exact h
  have hM4 : bitsOf (replP left) 21 < 4294967296 := Nat.lt_trans (bitsOf_lt _ 21) (by decide)
  have HA := Lib.hid (hA.kept hb0); have HM4 := Lib.hid hM4; have HJ := Lib.hid hJ; have HL := Lib.hid hl; have HJO := Lib.hid hj
  have HGI := Lib.hid hgi; have HGH := Lib.hid hgh; have HGJ := Lib.hid hgj
  have K0 := Lib.hid k0; have K1 := Lib.hid k1; have K2 := Lib.hid k2; have HB0 := Lib.hid hb0
  have hs0 : cellsIn (treeC t) 44 192 = some (rosterC t.roster) := cellsIn_tree_roster t
  have HS0 := Lib.hid hs0
  clear hA hM4 hJ hl hj hgi hgh hgj k0 k1 k2 hb0 hs0
  go_enter Tryd.func28, Tryd.ntmps28
  go_wp2_with fail
  have hui := Tryd.underlying29
  have hsi : (Tryd.prog.info? 29).map (·.size) = some (rosterC t.roster).toList.length := by rw [Array.length_toList, rosterC_size]; kernel_rfl
  go_region_held3 (fun w' => w'.rangeAt w.heap.size 44 (rosterC t.roster).toList ∧ w'.cell? ⟨w.heap.size + 1, 1, none⟩ = some (.slice ao left.length cap))
    (first | exact ⟨K0.out.drew.rangeR, K1.out.drew.cell 1⟩ | exact ⟨hT1.rangeR, hR1.cell 1⟩ | exact ⟨hT2.rangeR, hR2.cell 1⟩ | go_keep)
    (first
      | (go_at_call 53; (try simp only [Array.toArray_toList]); refine (roster_Taken _ _).mono ?_; rintro e w1 ⟨rfl, hb1⟩; have hT1 := K0.out.drew.kept hb1 K0.out.lt; have hR1 := K1.out.drew.kept hb1 K1.out.lt)
      | (go_at_call 17; refine (plan_Replaced ao left cap HL.out (by omega) _ ((HA.out.kept (bDrew (Below.refl _ _))).kept hb1)).mono ?_; rintro e w2 ⟨rfl, hb2⟩; have hT2 := hT1.kept hb2 hT1.lt; have hR2 := hR1.kept hb2 hR1.lt))
  clear hui hsi
  have hK2 := ((K2.out.drew.kept hb1 K2.out.lt).kept hb2 (K2.out.drew.kept hb1 K2.out.lt).lt)
  have hbel2 : Below w.heap.size w w2 := bCall' hb2 (bCall' hb1 (bDrew HB0.out))
  have hJ2 := HJ
  clear hb1 hb2 hT1
  generalize hM : bitsOf (replP left) 21 = M at *
  have HM := Lib.hid hM
  clear hM
  go_wp2
  go_loopw [9, 10, 11] (fun x _ _ wr => ∃ (m : Nat) (u : Value), m ≤ 21 ∧ x = .int .i64 ((m : Int) - 1) ∧ Blk wr (w.heap.size + 2) #[u] 37 ∧ OwnItems wr (w.heap.size + 3) u (itemsA t left (21 - m)) ∧ Blk wr w.heap.size (treeC t) 31 ∧ Blk wr (w.heap.size + 1) #[.int .i64 ep, .slice ao left.length cap, .slice bo joined.length cap2, vi] 39 ∧ Below w.heap.size w wr) (fun x _ _ _ => (intOf x + 1).toNat)
  case atStart => exact ⟨21, _, by omega, rfl, hK2, World.ownsRow_nil _ _ _ _, hT2, hR2, hbel2⟩
  case round =>
    clear hK2 hT2 hR2 hbel2
    obtain ⟨m, u, hm, rfl, hO, hown, hT, hR, hbel⟩ := hrel
    by_cases hm0 : m = 0
    rotate_left
    · obtain ⟨v, rfl⟩ : ∃ v, m = v + 1 := ⟨m - 1, by omega⟩
      have hv : v < 21 := by omega
      have e1 : ((v + 1 : Nat) : Int) - 1 = (v : Int) := by omega
      have hA20 : itemsA t left (21 - v) = itemsA t left (21 - (v + 1)) ++ if replP left v then itemsV t v 4 else [] := by
        rw [show 21 - v = (21 - (v + 1)) + 1 by omega]
        show itemsA t left (21 - (v + 1)) ++ (if replP left (20 - (21 - (v + 1))) then itemsV t (20 - (21 - (v + 1))) 4 else []) = _
        rw [show 20 - (21 - (v + 1)) = v by omega]
      have hAl := itemsA_len t left (21 - (v + 1))
      have HA20 := Lib.hid hA20
      have hbit : bits .and .u32 ((M : Int) / 2 ^ v) 1 = if replP left v then 1 else 0 := by rw [← HM.out]; exact turn_bit (replP left) v hv
      have HBIT := Lib.hid hbit
      generalize hAA : itemsA t left (21 - (v + 1)) = AA at *
      clear hA20 hbit hAA
      rw [e1]
      clear e1 hm0 hm
      have hv0 : (0 : Int) ≤ (v : Int) := by omega
      go_wp2
      obtain ⟨wx, rfl⟩ : ∃ wx : World, wx = wr := ⟨_, rfl⟩
      go_loopw [10, 11] (fun x _ wr => ∃ (i : Nat) (u : Value), i ≤ 4 ∧ (replP left v = false → i = 0) ∧ x = .int .i64 i ∧ Blk wr (w.heap.size + 2) #[u] 37 ∧ OwnItems wr (w.heap.size + 3) u (AA ++ itemsV t v i) ∧ Blk wr w.heap.size (treeC t) 31 ∧ Blk wr (w.heap.size + 1) #[.int .i64 ep, .slice ao left.length cap, .slice bo joined.length cap2, vi] 39 ∧ Below w.heap.size w wr) (fun x _ _ => 4 - (intOf x).toNat)
      case atStart => exact ⟨0, u, by omega, fun _ => rfl, rfl, hO, by rw [show itemsV t v 0 = [] from rfl, List.append_nil]; exact hown, hT, hR, hbel⟩
      case round =>
        clear hO hown hT hR hbel
        obtain ⟨i, u, hi4, hi0, rfl, hO, hown, hT, hR, hbel⟩ := hrel
        have hyT := hT.lt; have hyO := hO.lt
        cases hrp : replP left v
        · have hi00 := hi0 hrp
          subst hi00
          have hbit := HBIT.out
          rw [hrp, if_neg (by decide)] at hbit
          have HRP := Lib.hid hrp
          clear hrp hi0
          go_wp2
          go_roundw
          case rel => exact ⟨v, u, by omega, by go_num, hO, by rw [HA20.out, HRP.out, if_neg (by decide), List.append_nil]; rw [show itemsV t v 0 = [] from rfl, List.append_nil] at hown; exact hown, hT, hR, hbel⟩
          case measure => simp [intOf]
        · have hbit := HBIT.out
          rw [hrp, if_pos rfl] at hbit
          have HRP := Lib.hid hrp
          by_cases hi4' : i < 4
          · have hi4i : (i : Int) < 4 := by omega
            have hc : 4 * v + 1 + i < 85 := by omega
            have hVs := itemsV_succ t v i
            have hVl := itemsV_len t v i
            obtain ⟨c, hceq⟩ : ∃ c, 4 * v + 1 + i = c := ⟨_, rfl⟩
            rw [hceq] at hVs hc
            have hce : 4 * (v : Int) + 1 + (i : Int) = (c : Int) := by omega
            have hmh := mask_held t.roster c hc
            have hlen : (AA ++ itemsV t v i).length ≤ 1000 := by rw [List.length_append]; omega
            have HVS := Lib.hid hVs
            have HT := Lib.hid hT; have HO := Lib.hid hO; have HR := Lib.hid hR; have HOWN := Lib.hid hown
            clear hrp hi0 hVs hceq hT hO hR hown
            cases hh : heldP t.roster c
            · have HH := Lib.hid hh
              rw [hh] at hmh
              clear hh
              go_wp2_with (first | (go_at_call 54; refine (shape_Child _ _ (by omega) (by omega) (by omega) (by omega) _).mono ?_; rintro e w' ⟨rfl, rfl⟩; simp only [hce]) | (go_at_call 32; refine (shape_Mask c hc _).mono ?_; rintro e w8 ⟨rfl, ⟨nd, rfl⟩⟩))
              go_roundw
              case rel => exact ⟨i + 1, u, by omega, (fun h => by first | (cases h; done) | (rw [HRP.out] at h; cases h)), by go_num, HO.out.drewN nd, by rw [HVS.out, HH.out, if_neg (by decide), List.append_nil]; exact HOWN.out, HT.out.drewN nd, HR.out.drewN nd, bDrewN hbel nd⟩
              case measure => simp [intOf]; omega
            · have HH := Lib.hid hh
              have hgc := HGH.out c hc hh
              have hgv := HGI.out v hv
              have HGC := Lib.hid hgc; have HGV := Lib.hid hgv
              rw [hh] at hmh
              clear hh hgc hgv
              go_wp2_with (first | (go_at_call 54; refine (shape_Child _ _ (by omega) (by omega) (by omega) (by omega) _).mono ?_; rintro e w' ⟨rfl, rfl⟩; simp only [hce]) | (go_at_call 32; refine (shape_Mask c hc _).mono ?_; rintro e w8 ⟨rfl, ⟨nd, rfl⟩⟩) | (go_at_call 50; refine (plan_items1 t v c (by omega) hc he HGC.out HGV.out w.heap.size (w.heap.size + 2) (w.heap.size + 3) (AA ++ itemsV t v i) (by omega) u _ (HT.out.drewN nd) (HO.out.drewN nd) HOWN.out (by omega) (by omega) (by omega) (show _ ≤ wr.heap.size by omega)).mono ?_; rintro e w9 ⟨rfl, ⟨u9, hO9, hown9⟩, hkb⟩))
              have hT9 := hkb.blk (HT.out.drewN nd) (by omega) (HT.out.not_row (by decide) HOWN.out)
              have hR9 := hkb.blk (HR.out.drewN nd) (by omega) (HR.out.not_row (by decide) HOWN.out)
              have hb9 := hkb.below (bDrewN hbel nd) (Nat.le_refl _) (by omega) (fun k e => by have := ownLt HOWN.out k e; omega)
              have hown10 : OwnItems w9 (w.heap.size + 3) u9 (AA ++ itemsV t v (i + 1)) := by rw [HVS.out, HH.out, if_pos rfl, ← List.append_assoc]; exact hown9
              go_roundw
              case rel => exact ⟨i + 1, u9, by omega, (fun h => by first | (cases h; done) | (rw [HRP.out] at h; cases h)), by go_num, hO9, hown10, hT9, hR9, hb9⟩
              case measure => simp [intOf]; omega
          · have hge : (4 : Int) ≤ (i : Int) := by omega
            have h4 : i = 4 := by omega
            have H4 := Lib.hid h4
            clear hi0 hi4' hi4 hrp h4
            go_wp2
            go_roundw
            case rel => exact ⟨v, u, by omega, by go_num, hO, by rw [HA20.out, HRP.out, if_pos rfl]; rw [H4.out] at hown; exact hown, hT, hR, hbel⟩
            case measure => simp [intOf]
    · subst hm0
      rw [show ((0 : Nat) : Int) - 1 = (-1 : Int) from rfl]
      have hAl := itemsA_len t left 21
      generalize hAA : itemsA t left 21 = AA at *
      have HAA := Lib.hid hAA
      have HT := Lib.hid hT; have HO := Lib.hid hO; have HR := Lib.hid hR; have HOWN := Lib.hid hown; have HBEL := Lib.hid hbel
      have hc1 := hR.cell; have hf1 := hR.frozen; have hyR := hR.lt
      clear hm hAA hT hO hR hown hbel
      go_wp2
      clear hc1 hf1 hyR
      go_loopw [13, 14, 15, 17, 56] (fun _ _ _ _ x wr => ∃ (k : Nat) (u : Value), k ≤ joined.length ∧ x = .int .i64 k ∧ Blk wr (w.heap.size + 2) #[u] 37 ∧ OwnItems wr (w.heap.size + 3) u (AA ++ itemsB t left joined k) ∧ Blk wr w.heap.size (treeC t) 31 ∧ Below w.heap.size w wr) (fun _ _ _ _ x _ => joined.length - (intOf x).toNat)
      case atStart => exact ⟨0, _, by omega, rfl, HO.out, by rw [show itemsB t left joined 0 = [] from rfl, List.append_nil]; exact HOWN.out, HT.out, HBEL.out⟩
      case round =>
        obtain ⟨k, u, hk, rfl, hO, hown, hT, hbel⟩ := hrel
        obtain ⟨wo, rfl⟩ : ∃ wo : World, wo = wr := ⟨_, rfl⟩
        by_cases hlt : k < joined.length
        · have hlt' : (k : Int) < (joined.length : Int) := by omega
          obtain ⟨x, hx⟩ := some_of_lt hlt
          obtain ⟨b, off, rfl, hb0, hc0, hc1⟩ := HJ.out k x hx
          have hq0 := (hbel.cell (p := ⟨b, off + k * 2, none⟩) hb0).trans hc0
          have hq1 := (hbel.cell (p := ⟨b, off + k * 2 + 1, none⟩) hb0).trans hc1
          have hbz : b < wo.heap.size := by have := hbel.size; omega
          have hxm := List.mem_of_getElem? hx
          have hok := HJO.out x hxm
          have hgl := HGJ.out x hxm
          obtain ⟨s, hs⟩ : ∃ s : Nat, x.slot = s := ⟨x.slot.toNat, by omega⟩
          have hs64 : s < 64 := by omega
          have hBB := itemsB_succ t left joined hx
          rw [show x.slot.toNat = s by omega] at hBB hgl
          have hBl := itemsB_len t left joined k
          rw [hs] at hq1
          have HX := Lib.hid hx; have HS := Lib.hid hs; have HBB := Lib.hid hBB; have HGL := Lib.hid hgl
          have HT := Lib.hid hT; have HO := Lib.hid hO; have HOWN := Lib.hid hown
          have hy0 := hT.lt; have hy2 := hO.lt
          clear hc0 hc1 hx hs hBB hok hgl hxm hT hO hown
          go_wp2_with (go_at_call 55; refine (shape_Path s hs64 _).mono ?_; rintro e w7 ⟨rfl, hb7⟩; simp only [pathI])
          have hS1 : Blk w7 wo.heap.size #[I x.who, I s] 45 := (Blk.new wo _ _).kept hb7 (by simp)
          have hT7 : Blk w7 w.heap.size (treeC t) 31 := (HT.out.alloc _).kept hb7 (by simp; omega)
          have hO7 : Blk w7 (w.heap.size + 2) #[u] 37 := (HO.out.alloc _).kept hb7 (by simp; omega)
          have hR7 := ownBelow (HOWN.out.alloc (.cells #[I x.who, I s] 45)) hb7 (Nat.le_refl _)
          have hbel7 : Below w.heap.size w w7 := bCall' hb7 (bAlloc hbel _)
          have hz7 : wo.heap.size + 1 ≤ w7.heap.size := by have := hb7.size; simp at this; omega
          clear hb7 hq0 hq1
          go_loopw [17, 67] (fun _ y wq => ∃ (i : Nat) (u : Value), i ≤ 3 ∧ y = .int .i64 i ∧ Blk wq (w.heap.size + 2) #[u] 37 ∧ OwnItems wq (w.heap.size + 3) u ((AA ++ itemsB t left joined k) ++ itemsJ t left s i) ∧ Blk wq w.heap.size (treeC t) 31 ∧ Blk wq wo.heap.size #[I x.who, I s] 45 ∧ Below w.heap.size w wq) (fun _ y _ => 3 - (intOf y).toNat)
          case atStart => exact ⟨0, u, by omega, rfl, hO7.alloc _, by rw [show itemsJ t left s 0 = [] from rfl, List.append_nil]; exact hR7.alloc _, hT7.alloc _, hS1.alloc _, bAlloc hbel7 _⟩
          case round =>
            clear hS1 hT7 hO7 hbel7 hbel hR7
            obtain ⟨i, u9, hi3, rfl, hO, hown, hT, hS, hbel⟩ := hrel
            have hyt := hT.lt; have hyo := hO.lt; have hys := hS.lt
            have hsc := hS.cell
            by_cases hi : i < 3
            · have hii : (i : Int) < 3 := by omega
              have hix := idx_path s i hi
              have hp21 := pathN_lt s i hs64
              have hJs := itemsJ_succ t left s i
              have hJl := itemsJ_len t left s i
              have hbit : bits .and .u32 ((M : Int) / 2 ^ (pathN s i)) 1 = if replP left (pathN s i) then 1 else 0 := by rw [← HM.out]; exact turn_bit (replP left) _ hp21
              generalize hpp : pathN s i = p at *
              have HPP := Lib.hid hpp; have HJS := Lib.hid hJs
              have hp0 : (0 : Int) ≤ (p : Int) := by omega
              have HT := Lib.hid hT; have HO := Lib.hid hO; have HS := Lib.hid hS; have HOWN := Lib.hid hown
              have hlen : ((AA ++ itemsB t left joined k) ++ itemsJ t left s i).length ≤ 4000000 := by rw [List.length_append, List.length_append]; omega
              clear hpp hJs hT hO hS hown
              cases hrp : replP left p
              · have HRP := Lib.hid hrp
                rw [hrp, if_neg (by decide)] at hbit
                have HGV := Lib.hid (HGI.out p hp21)
                obtain ⟨c, hc⟩ : ∃ c, 21 + s = c := ⟨_, rfl⟩
                have hlf : leafI (s : Int) = (c : Int) := by unfold leafI; rw [if_pos (by omega)]; omega
                have hc85 : c < 85 := by omega
                have HGC : Hid (goodK (nodeK t c)) := by have h := HGL.out; rw [hc] at h; exact Lib.hid h
                have HC := Lib.hid hc
                clear hrp hc
                go_wp2_with (first | (go_at_call 33; refine (shape_Leaf _ _).mono ?_; rintro e w' ⟨rfl, rfl⟩; simp only [hlf]) | (go_at_call 50; refine (plan_items1 t p c (by omega) hc85 he HGC.out HGV.out w.heap.size (w.heap.size + 2) (w.heap.size + 3) ((AA ++ itemsB t left joined k) ++ itemsJ t left s i) hlen u9 _ HT.out HO.out HOWN.out (by omega) (by omega) (by omega) (by omega)).mono ?_; rintro e w9 ⟨rfl, ⟨u10, hO9, hown9⟩, hkb⟩))
                have hT9 := hkb.blk HT.out (by omega) (HT.out.not_row (by decide) HOWN.out)
                have hS9 := hkb.blk HS.out (by omega) (HS.out.not_row (by decide) HOWN.out)
                have hb9 := hkb.below hbel (Nat.le_refl _) (by omega) (fun k e => by have := ownLt HOWN.out k e; omega)
                have hown10 : OwnItems w9 (w.heap.size + 3) u10 ((AA ++ itemsB t left joined k) ++ itemsJ t left s (i + 1)) := by rw [HJS.out, HRP.out, if_neg (by decide), HC.out, ← List.append_assoc]; exact hown9
                go_roundw
                case rel => exact ⟨i + 1, u10, by omega, by go_num, hO9, hown10, hT9, hS9, hb9⟩
                case measure => simp [intOf]; omega
              · have HRP := Lib.hid hrp
                rw [hrp, if_pos rfl] at hbit
                clear hrp
                go_wp2
                go_roundw
                case rel => exact ⟨i + 1, u9, by omega, by go_num, HO.out, by rw [HJS.out, HRP.out, if_pos rfl, List.append_nil]; exact HOWN.out, HT.out, HS.out, hbel⟩
                case measure => simp [intOf]; omega
            · have hge : (3 : Int) ≤ (i : Int) := by omega
              obtain rfl : i = 3 := by omega
              have HOWN := Lib.hid hown
              clear hi hi3 hown
              go_wp2
              go_roundw
              case rel => exact ⟨k + 1, u9, by omega, by go_num, hO, by rw [HBB.out, ← List.append_assoc]; exact HOWN.out, hT, hbel⟩
              case measure => simp [intOf]; omega
        · have hge : (joined.length : Int) ≤ (k : Int) := by omega
          obtain rfl : k = joined.length := by omega
          have hoc := hO.cell
          clear hlt hk hT
          go_wp2
          go_ret
          exact ⟨u, rfl, ownBase (base := w.heap.size + 3) (by unfold itemsS; rw [HAA.out]; exact hown) (by omega), hbel⟩
end Go.Proofs.YtodgcmakdndbfaaDoor
/-
  A tree as a value: built of its parts; a tree is equal to itself.
-/
namespace Cot
open Go
theorem foldl_set {α : Type} (off : Nat) : ∀ (cs : List α) (n : Nat) (a : Array α) (p : Nat), ((cs.zipIdx n).foldl (fun a x => a.setIfInBounds (off + x.2) x.1) a)[p]? = if off + n ≤ p ∧ p < off + n + cs.length ∧ p < a.size then cs[p - off - n]? else a[p]?
  | [], n, a, p => by rw [if_neg (by simp; omega)]; rfl
  | c :: cs, n, a, p => by
    rw [List.zipIdx_cons, List.foldl_cons, foldl_set off cs (n + 1)]
    simp only [Array.size_setIfInBounds, List.length_cons]
    by_cases h1 : off + (n + 1) ≤ p ∧ p < off + (n + 1) + cs.length ∧ p < a.size
    · rw [if_pos h1, if_pos (by omega)]
      obtain ⟨q, hq⟩ : ∃ q, p - off - n = q + 1 := ⟨p - off - n - 1, by omega⟩
      rw [hq, List.getElem?_cons_succ, show p - off - (n + 1) = q by omega]
    · rw [if_neg h1, Array.getElem?_setIfInBounds]
      by_cases h2 : off + n = p
      · by_cases h3 : p < a.size
        · rw [if_pos h2, if_pos (by omega), if_pos (by omega), show p - off - n = 0 by omega]; rfl
        · rw [if_pos h2, if_neg (by omega), if_neg (by omega), Array.getElem?_eq_none (by omega)]
      · rw [if_neg h2, if_neg (by omega)]
theorem foldl_size {α : Type} (off : Nat) : ∀ (cs : List α) (n : Nat) (a : Array α), ((cs.zipIdx n).foldl (fun a x => a.setIfInBounds (off + x.2) x.1) a).size = a.size
  | [], _, _ => rfl
  | c :: cs, n, a => by rw [List.zipIdx_cons, List.foldl_cons, foldl_size off cs (n + 1)]; simp
theorem fill_step {α : Type} (off : Nat) (cs a : Array α) (p : Nat) : (cs.zipIdx.foldl (fun a (x : α × Nat) => a.setIfInBounds (off + x.2) x.1) a)[p]? = if off ≤ p ∧ p < off + cs.size ∧ p < a.size then cs[p - off]? else a[p]? := by
  have h := foldl_set off cs.toList 0 a p
  rw [← Array.foldl_toList, Array.toList_zipIdx]
  simpa using h
theorem fill_size {α : Type} (off : Nat) (cs a : Array α) : (cs.zipIdx.foldl (fun a (x : α × Nat) => a.setIfInBounds (off + x.2) x.1) a).size = a.size := by
  rw [← Array.foldl_toList, Array.toList_zipIdx]
  exact foldl_size off cs.toList 0 a
end Cot
namespace Go.Proofs.YtodgcmakdndbfaaDoor
open Go.RowKit Cot
def setSeg (off : Nat) (cs a : Array Value) : Array Value := cs.zipIdx.foldl (fun a (x : Value × Nat) => a.setIfInBounds (off + x.2) x.1) a
theorem setSeg_get (off : Nat) (cs a : Array Value) (p : Nat) : (setSeg off cs a)[p]? = if off ≤ p ∧ p < off + cs.size ∧ p < a.size then cs[p - off]? else a[p]? := fill_step off cs a p
theorem setSeg_size (off : Nat) (cs a : Array Value) : (setSeg off cs a).size = a.size := fill_size off cs a
theorem tree_segs (e f : Int) (k : Nat → Key) (r : Nat → Entry) (a : Array Value) (ha : a.size = 236) : setSeg 44 (rosterC r) (setSeg 2 (keysC k) (setSeg 1 #[I f] (setSeg 0 #[I e] a))) = treeC ⟨e, f, k, r⟩ := by
  apply Array.ext_getElem?
  intro p
  simp only [setSeg_get, setSeg_size, ha, rosterC_size, keysC_size]
  by_cases h : p < 236
  · have ht : (treeC ⟨e, f, k, r⟩)[p]? = some (treeCell ⟨e, f, k, r⟩ p) := by unfold treeC; rw [tab_get_lt h]
    rw [ht]
    unfold treeCell
    by_cases h0 : p = 0
    · subst h0; simp
    · by_cases h1 : p = 1
      · subst h1; simp
      · by_cases h2 : p < 44
        · rw [if_neg (by omega), if_pos (by omega), if_neg h0, if_neg h1, if_pos h2, keysC_cell _ _ (by omega)]
        · rw [if_pos (by omega), if_neg h0, if_neg h1, if_neg h2, rosterC_cell _ _ (by omega)]
  · have ht : (treeC ⟨e, f, k, r⟩)[p]? = none := Array.getElem?_eq_none (by rw [treeC_size]; omega)
    rw [ht, if_neg (by omega), if_neg (by omega), if_neg (by omega), if_neg (by omega), Array.getElem?_eq_none (by omega)]
theorem fill_cons {place : Nat → Option (Nat × Nat)} {a : Array Value} {i off size : Nat} {v : Value} {rest : List (Nat × Value)} (hp : place i = some (off, size)) (hs : v.cells.size = size) (hle : off + size ≤ a.size) :
    Instr.fill place a ((i, v) :: rest) = Instr.fill place (setSeg off v.cells a) rest := by
  conv => lhs; unfold Instr.fill
  simp only [hp]
  rw [if_neg (by simp [hs]; omega)]
  rfl
theorem fill4 (place : Nat → Option (Nat × Nat)) (p0 : place 0 = some (0, 1)) (p1 : place 1 = some (1, 1)) (p2 : place 2 = some (2, 42)) (p3 : place 3 = some (44, 192)) (e f : Int) (k : Nat → Key) (r : Nat → Entry) (a : Array Value) (ha : a.size = 236) :
    Instr.fill place a [(0, I e), (1, I f), (2, .agg (keysC k)), (3, .agg (rosterC r))] = some (treeC ⟨e, f, k, r⟩) := by
  rw [fill_cons p0 rfl (by omega), fill_cons p1 rfl (by rw [setSeg_size]; omega), fill_cons (v := .agg (keysC k)) p2 (keysC_size k) (by simp only [setSeg_size]; omega), fill_cons (v := .agg (rosterC r)) p3 (rosterC_size r) (by simp only [setSeg_size]; omega)]
  show some (setSeg 44 (rosterC r) (setSeg 2 (keysC k) (setSeg 1 #[I f] (setSeg 0 #[I e] a)))) = _
  rw [tree_segs e f k r a ha]
@[go_sem] theorem build_tree4 (w : World) (e f : Int) (k : Nat → Key) (r : Nat → Entry) : (buBig 31 #[(0, I e), (1, I f), (2, .agg (keysC k)), (3, .agg (rosterC r))]).run Tryd.prog w = .ok (.agg (treeC ⟨e, f, k, r⟩)) w := by
  have hz : (zeroValue 31).run Tryd.prog w = .ok (.agg (treeC tree0)) w := by kernel_rfl
  have hu := Tryd.underlying31
  show (Instr.build _ _).run Tryd.prog w = _
  unfold Instr.build
  simp only [Sem.run_bind, hz, Result.andThen_ok, run_underlying hu]
  have hm : ∀ fs : Array Field, Tryd.prog.underlying 31 = some (.struct fs) → (Array.mapM (fun f : Field => do pure (f.offset, ← sizeOf f.type) : Field → Sem (Nat × Nat)) fs).run Tryd.prog w = .ok #[(0, 1), (1, 1), (2, 42), (44, 192)] w := by
    intro fs h
    rw [hu] at h
    obtain rfl := TypeDesc.struct.inj (Option.some.inj h)
    kernel_rfl
  rw [hm _ hu]
  simp only [Result.andThen_ok]
  have h4 := fill4 (fun x => (#[(0, 1), (1, 1), (2, 42), (44, 192)] : Array (Nat × Nat))[x]?) rfl rfl rfl rfl e f k r (treeC tree0) (treeC_size _)
  show Sem.run Tryd.prog (match Instr.fill (fun x => (#[(0, 1), (1, 1), (2, 42), (44, 192)] : Array (Nat × Nat))[x]?) (treeC tree0) [(0, I e), (1, I f), (2, .agg (keysC k)), (3, .agg (rosterC r))] with
    | some cells => pure (Value.agg cells)
    | x => stuck "build: no such field, or a part of the wrong size") w = _
  rw [h4]
  rfl
set_option maxRecDepth 20000 in
@[go_sem] theorem build_tree_fresh (w : World) (f : Int) : (buBig 31 #[(1, I f)]).run Tryd.prog w = .ok (.agg (treeC ⟨0, f, keys0, roster0⟩)) w := by
  have hz : (zeroValue 31).run Tryd.prog w = .ok (.agg (treeC tree0)) w := by kernel_rfl
  have hu := Tryd.underlying31
  show (Instr.build _ _).run Tryd.prog w = _
  unfold Instr.build
  simp only [Sem.run_bind, hz, Result.andThen_ok, run_underlying hu]
  have hm : ∀ fs : Array Field, Tryd.prog.underlying 31 = some (.struct fs) → (Array.mapM (fun f : Field => do pure (f.offset, ← sizeOf f.type) : Field → Sem (Nat × Nat)) fs).run Tryd.prog w = .ok #[(0, 1), (1, 1), (2, 42), (44, 192)] w := by
    intro fs h
    rw [hu] at h
    obtain rfl := TypeDesc.struct.inj (Option.some.inj h)
    kernel_rfl
  rw [hm _ hu]
  simp only [Result.andThen_ok]
  have h4 : Instr.fill (fun x => (#[(0, 1), (1, 1), (2, 42), (44, 192)] : Array (Nat × Nat))[x]?) (treeC tree0) [(1, I f)] = some (treeC ⟨0, f, keys0, roster0⟩) := by
    rw [fill_cons (off := 1) (size := 1) rfl rfl (by rw [treeC_size]; omega)]
    show some (setSeg 1 #[I f] (treeC tree0)) = _
    congr 1
    apply Array.ext_getElem?
    intro p
    rw [setSeg_get]
    by_cases h : p < 236
    · have ht : (treeC ⟨0, f, keys0, roster0⟩)[p]? = some (treeCell ⟨0, f, keys0, roster0⟩ p) := by unfold treeC; rw [tab_get_lt h]
      have ht0 : (treeC tree0)[p]? = some (treeCell tree0 p) := by unfold treeC; rw [tab_get_lt h]
      rw [ht, ht0]
      by_cases h1 : p = 1
      · subst h1; rw [if_pos (by simp [treeC_size])]; rfl
      · rw [if_neg (by simp; omega)]
        unfold treeCell
        by_cases h0 : p = 0
        · subst h0; rfl
        · rw [if_neg h0, if_neg h1, if_neg h0, if_neg h1]; rfl
    · rw [if_neg (by rw [treeC_size]; omega), Array.getElem?_eq_none (by rw [treeC_size]; omega), Array.getElem?_eq_none (by rw [treeC_size]; omega)]
  show Sem.run Tryd.prog (match Instr.fill (fun x => (#[(0, 1), (1, 1), (2, 42), (44, 192)] : Array (Nat × Nat))[x]?) (treeC tree0) [(1, I f)] with
    | some cells => pure (Value.agg cells)
    | x => stuck "build: no such field, or a part of the wrong size") w = _
  rw [h4]
  rfl
/-! '==' of a tree with itself -/
theorem eqItems_self (d : Nat) (e : TypeId) (c : Nat) (xs : Array Value) (w : World) : ∀ is : List Nat, (∀ j, j ∈ is → ∃ a, (∀ w : World, (part e xs (j * c)).run Tryd.prog w = .ok a w) ∧ (Op.equalIn d e a a).run Tryd.prog w = .ok true w) → (Op.eqItems d e c xs xs is).run Tryd.prog w = .ok true w
  | [], _ => by simp [Op.eqItems]
  | j :: is, h => by
    obtain ⟨a, h1, h2⟩ := h j (by simp)
    have ih := eqItems_self d e c xs w is (fun i hi => h i (by simp [hi]))
    simp only [Op.eqItems, Sem.run_bind, h1, h2, Result.andThen_ok, Bool.not_true, Bool.false_eq_true, if_false]
    exact ih
theorem eqI_keys (d : Nat) (k : Nat → Key) (w : World) : (Op.equalIn (d + 3) 25 (.agg (keysC k)) (.agg (keysC k))).run Tryd.prog w = .ok true w := by
  have hc : Tryd.prog.cellsOf 23 = 2 := by kernel_rfl
  obtain ⟨i, hi⟩ : ∃ i, Tryd.prog.info? 23 = some i := Option.isSome_iff_exists.1 (by kernel_rfl)
  rw [run_equalIn_array w (d + 2) _ _ Tryd.underlying25 hi, hc]
  refine eqItems_self _ _ _ _ _ _ fun j hj => ?_
  have hj' : j < 21 := List.mem_range.1 hj
  refine ⟨.agg #[I (k j).base, I (k j).step], fun w => run_part_agg Tryd.underlying23 rfl (by kernel_rfl) _ _ _ (keysC_at k j hj') w, ?_⟩
  rw [eqI_key]; simp
theorem eqI_roster (d : Nat) (r : Nat → Entry) (w : World) : (Op.equalIn (d + 3) 29 (.agg (rosterC r)) (.agg (rosterC r))).run Tryd.prog w = .ok true w := by
  have hc : Tryd.prog.cellsOf 27 = 3 := by kernel_rfl
  obtain ⟨i, hi⟩ : ∃ i, Tryd.prog.info? 27 = some i := Option.isSome_iff_exists.1 (by kernel_rfl)
  rw [run_equalIn_array w (d + 2) _ _ Tryd.underlying29 hi, hc]
  refine eqItems_self _ _ _ _ _ _ fun j hj => ?_
  have hj' : j < 64 := List.mem_range.1 hj
  refine ⟨.agg #[I (r j).who, I (r j).base, I (r j).since], fun w => run_part_agg Tryd.underlying27 rfl (by kernel_rfl) _ _ _ (rosterC_at r j hj') w, ?_⟩
  rw [eqI_entry]; simp
theorem eqI_tree (d : Nat) (t : Tree) (w : World) : (Op.equalIn (d + 4) 31 (.agg (treeC t)) (.agg (treeC t))).run Tryd.prog w = .ok true w := by
  rw [run_equalIn_struct w (d + 3) 31 _ _ (by kernel_rfl) (by kernel_rfl)]
  have hf : (Tryd.prog.fieldsOf 31).toList.map fld = [(3, 0, false), (3, 1, false), (25, 2, false), (29, 44, false)] := by kernel_rfl
  have h : (Op.eqFields (d + 3) (treeC t) (treeC t) (Tryd.prog.fieldsOf 31).toList).run Tryd.prog w = .ok (true && (true && (true && (true && true)))) w := by
    refine eqF_cons hf (partInt (treeC_epoch t)) (partInt (treeC_epoch t)) (by rw [eqInt]; simp) ?_
    intro gs hf
    refine eqF_cons hf (partInt (treeC_fresh t)) (partInt (treeC_fresh t)) (by rw [eqInt]; simp) ?_
    intro gs hf
    refine eqF_cons hf (run_part_agg (s := 42) Tryd.underlying25 rfl (by kernel_rfl) _ _ _ (treeC_keys t) w) (run_part_agg (s := 42) Tryd.underlying25 rfl (by kernel_rfl) _ _ _ (treeC_keys t) w) (eqI_keys d _ w) ?_
    intro gs hf
    refine eqF_cons hf (run_part_agg (s := 192) Tryd.underlying29 rfl (by kernel_rfl) _ _ _ (treeC_roster t) w) (run_part_agg (s := 192) Tryd.underlying29 rfl (by kernel_rfl) _ _ _ (treeC_roster t) w) (eqI_roster d _ w) ?_
    exact eqF_nil
  simpa using h
@[go_sem] theorem eq_tree_self (t : Tree) (w : World) : (eqBig 31 (.agg (treeC t)) (.agg (treeC t))).run Tryd.prog w = .ok (.bool true) w :=
  run_eqBig w (show (Op.equal 31 (.agg (treeC t)) (.agg (treeC t))).run Tryd.prog w = _ from eqI_tree 9996 t w)
@[go_sem] theorem ne_tree_self (t : Tree) (w : World) : (neBig 31 (.agg (treeC t)) (.agg (treeC t))).run Tryd.prog w = .ok (.bool false) w :=
  run_neBig w (show (Op.equal 31 (.agg (treeC t)) (.agg (treeC t))).run Tryd.prog w = _ from eqI_tree 9996 t w)
end Go.Proofs.YtodgcmakdndbfaaDoor
