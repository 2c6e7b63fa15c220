/-
  Parts of a proof: Items1, Items2. Merged by program.
-/
import Derived.Test.YtodgcmakdndbfaaDoorZ13
import Derived.Deep.AppendLies
/-
  Contracts: coterieref12.item, Items. Printed by wip/gen/gk.py.
-/
namespace Go.Proofs.YtodgcmakdndbfaaDoor
open Go.RowKit Cot
set_option linter.unusedSimpArgs false
set_option linter.unusedVariables false
set_option maxRecDepth 100000 in
set_option maxHeartbeats 800000 in
theorem ref12_item (t : Tree) (v c : Nat) (hv : v < 85) (hc : c < 85) (he : t.epoch ≤ 1000000) (w : World) : Calls Tryd.prog 67 #[.agg (treeC t), .int .i64 v, .int .i64 c] w fun e w' => e = .returned (.agg #[I v, I c, I (nodeK t c).base, I (nodeK t c).step, I (nodeK t v).base, I (nodeK t v).step]) ∧ Below w.heap.size w w' := by
  go_enter Tryd.func67, Tryd.ntmps67
  have tok1 : True := trivial
  go_wp2_with (first | (go_at_call 11; have _t := tok1; refine (ref11_Of t c hc he _).mono ?_; rintro e w1 ⟨rfl, hb1⟩; clear tok1; have hT1 : Blk w1 w.heap.size (treeC t) 31 := ((Blk.new w _ _).alloc _).kept hb1 (by first | omega | (simp; done) | (simp; omega)); have hR1 : Blk w1 (w.heap.size + 1) #[I 0, I 0, I 0, I 0, I 0, I 0] 70 := (by have h := (Blk.new (w.alloc (.cells (treeC t) 31)) #[I 0, I 0, I 0, I 0, I 0, I 0] 70).kept hb1 (by simp); rw [World.size_alloc] at h; exact h); have ht0 := hT1.at; have ht1 := hT1.lt; have ht2 := hR1.lt; simp only [kE]) | (go_at_call 11; refine (ref11_Of t v hv he _).mono ?_; rintro e w2 ⟨rfl, hb2⟩; clear ht0; have hK2 := (Blk.new w1 #[I (nodeKI t c).1.base, I (nodeKI t c).1.step] 23).kept hb2 (by simp); have hR2 := (hR1.alloc (.cells #[I (nodeKI t c).1.base, I (nodeKI t c).1.step] 23)).kept hb2 (by first | omega | (simp; done) | (simp; omega)); have hu0 := hK2.cell; have hu1 := hR2.cell; have hu2 := hR2.frozen; have hu3 := hK2.lt; have hu4 := hR2.lt; simp only [kE]))
  have hbel := bCall' hb2 (bAlloc (bCall' hb1 (bAlloc (bAlloc (Below.refl w.heap.size w) (.cells (treeC t) 31)) (.cells #[I 0, I 0, I 0, I 0, I 0, I 0] 70))) (.cells #[I (nodeKI t c).1.base, I (nodeKI t c).1.step] 23))
  exact bodyPost_ret (v := .agg #[I v, I c, I (nodeKI t c).1.base, I (nodeKI t c).1.step, I (nodeKI t v).1.base, I (nodeKI t v).1.step]) (by simp [results, Tryd.results67, go_sem, hu0, hu1, hu2, hu3, hu4]) rfl ⟨rfl, bAlloc (bSet (bSet (bSet (bSet (bSet (bSet hbel (by simp) _) (by simp) _) (by simp) _) (by simp) _) (by simp) _) (by simp) _) _⟩

theorem pathI_get (s i : Nat) (h : i < 3) : (#[I (5 + (s : Int) / 4), I (1 + (s : Int) / 16), I 0] : Array Value)[i]? = some (I ((pathN s i : Nat) : Int)) := by
  match i, h with
  | 0, _ => simp [pathN]
  | 1, _ => simp [pathN]
  | 2, _ => simp [pathN]
theorem pathN_lt (s i : Nat) (h : s < 64) : pathN s i < 21 := by unfold pathN; split <;> (try split) <;> omega
theorem Blk.items {w : World} {b1 b2 b3 : Nat} {i : Nat} {t : Tree} {c2 c3 : Array Value} {t1 t2 t3 : TypeId} {u v : Value} (h1 : Blk w b1 (treeC t) t1) (h2 : Blk w b2 c2 t2) (h3 : Blk w b3 c3 t3) (hu : c2[i]? = some u) (hv : c3[1]? = some v) : cellsAt w ⟨b1, 0, none⟩ 236 = some (treeC t) ∧ w.cell? ⟨b2, i, none⟩ = some u ∧ w.cell? ⟨b3, 1, none⟩ = some v :=
  ⟨by rw [h1.at, cellsIn_tree], (h2.cell i).trans hu, (h3.cell 1).trans hv⟩
theorem In_repl (left : List Seat) (v : Nat) (hv : v < 21) : (bitsOf (replP left) 21).testBit v = replP left v := by rw [testBit_bitsOf]; simp [hv]
set_option maxRecDepth 100000 in
set_option maxHeartbeats 2000000 in
theorem ref12_Items (t : Tree) (left joined : List Seat) (ao bo : Option Addr) (cap cap2 : Nat) (hl : okSlots left) (hj : okSlots joined) (hll : left.length ≤ 1000000) (hjl : joined.length ≤ 1000000) (he : t.epoch ≤ 1000000) (w : World) (hA : SeatsAt w ao left) (hJ : SeatsAt w bo joined) :
    Calls Tryd.prog 40 #[.agg (treeC t), .slice ao left.length cap, .slice bo joined.length cap2] w fun e w' => ∃ v, e = .returned v ∧ OwnItems w' w.heap.size v (itemsS t left joined) ∧ Below w.heap.size w w' := by
  obtain ⟨i0, hi0', hz0, hz1, hz2⟩ := info_parts info_item
  have hb0 : Below w.heap.size w (w.alloc (.cells (treeC t) 31)) := bAlloc (Below.refl _ _) _
  have hA1 := hA.kept hb0
  have hB0 := Blk.new w (treeC t) 31
  have hM4 : bitsOf (replP left) 21 < 4294967296 := Nat.lt_trans (bitsOf_lt _ 21) (by decide)
  have HA := Lib.hid hA1; have HM4 := Lib.hid hM4; have HJ := Lib.hid hJ; have HIN := Lib.hid (In_repl left); have HL := Lib.hid hl; have HJO := Lib.hid hj
  clear hA hA1 hM4 hJ hl hj
  go_enter Tryd.func40, Tryd.ntmps40
  go_wp2_with (go_at_call 64; refine (ref11_Replaced ao left cap HL.out (by omega) _ HA.out).mono ?_; rintro e w1 ⟨rfl, hb1⟩)
  have hB1 := hB0.kept hb1 (by simp)
  have hbel1 : Below w.heap.size w w1 := bCall' hb1 hb0
  clear hB0 hb0 hb1
  generalize hM : bitsOf (replP left) 21 = M at *
  go_loopw [8, 9, 10, 11] (fun u x _ _ wr => ∃ (m : Nat) (v2 : Value), m ≤ 21 ∧ x = .int .i64 ((m : Int) - 1) ∧ v2 = u ∧ OwnItems wr (w.heap.size + 1) v2 (itemsA t left (21 - m)) ∧ Blk wr w.heap.size (treeC t) 31 ∧ Below w.heap.size w wr) (fun _ x _ _ _ => (intOf x + 1).toNat)
  case atStart => exact ⟨21, _, by omega, rfl, rfl, World.ownsRow_nil _ _ _ _, hB1, hbel1⟩
  case round =>
    clear hB1 hbel1
    obtain ⟨m, v2, hm, rfl, rfl, hown, hB, hbel⟩ := hrel
    by_cases hm0 : m = 0
    rotate_left
    · obtain ⟨v, rfl⟩ : ∃ v, m = v + 1 := ⟨m - 1, by omega⟩
      have hv : v < 21 := by omega
      have e1 : ((v + 1 : Nat) : Int) - 1 = (v : Int) := by omega
      have hA20 : itemsA t left (21 - v) = itemsA t left (21 - (v + 1)) ++ if replP left v then itemsV t v 4 else [] := by
        rw [show 21 - v = (21 - (v + 1)) + 1 by omega]
        show itemsA t left (21 - (v + 1)) ++ (if replP left (20 - (21 - (v + 1))) then itemsV t (20 - (21 - (v + 1))) 4 else []) = _
        rw [show 20 - (21 - (v + 1)) = v by omega]
      have hAl := itemsA_len t left (21 - (v + 1))
      have HA20 := Lib.hid hA20
      have hin := HIN.out v hv
      generalize hAA : itemsA t left (21 - (v + 1)) = AA at *
      clear hA20
      rw [e1]
      clear e1 hm0 hm
      have hv0 : (0 : Int) ≤ (v : Int) := by omega
      go_wp2
      obtain ⟨wx, rfl⟩ : ∃ wx : World, wx = wr := ⟨_, rfl⟩
      go_loopw [8, 10, 11] (fun u x _ wr => ∃ (i : Nat) (v2 : Value), i ≤ 4 ∧ (replP left v = false → i = 0) ∧ x = .int .i64 i ∧ v2 = u ∧ OwnItems wr (w.heap.size + 1) v2 (AA ++ itemsV t v i) ∧ Blk wr w.heap.size (treeC t) 31 ∧ Below w.heap.size w wr) (fun _ x _ _ => 4 - (intOf x).toNat)
      case atStart => exact ⟨0, _, by omega, fun _ => rfl, rfl, rfl, by simpa [itemsV] using hown, hB, hbel⟩
      case round =>
        clear hown hB hbel
        obtain ⟨i, v2, hi4, hi0, rfl, rfl, hown, hB, hbel⟩ := hrel
        have hy0 := hB.lt
        by_cases hi4' : i < 4
        · have hi4i : (i : Int) < 4 := by omega
          cases hrp : replP left v
          · have hi00 := hi0 hrp
            subst hi00
            rw [hrp] at hin
            have HRP := Lib.hid hrp
            clear hrp hi0
            go_wp2_with (go_at_call 16; refine (ref01_In M v HM4.out (by omega) _).mono ?_; rintro e w' ⟨rfl, rfl⟩; simp only [hin])
            go_roundw
            case rel => exact ⟨v, v2, by omega, by go_num, rfl, by rw [HA20.out, HRP.out]; simpa [itemsV] using hown, hB, hbel⟩
            case measure => simp [intOf]
          · rw [hrp] at hin
            have HRP := Lib.hid hrp
            have hc : 4 * v + 1 + i < 85 := by omega
            have hVs := itemsV_succ t v i
            have hVl := itemsV_len t v i
            have ha0 := hB.at
            obtain ⟨c, hceq⟩ : ∃ c, 4 * v + 1 + i = c := ⟨_, rfl⟩
            rw [hceq] at hVs hc
            have hce : 4 * (v : Int) + 1 + (i : Int) = (c : Int) := by omega
            have HVS := Lib.hid hVs
            clear hrp hi0 hVs hceq
            have hlen : (AA ++ itemsV t v i).length ≤ 100 := by rw [List.length_append]; omega
            obtain ⟨N, hN⟩ : ∃ N, (AA ++ itemsV t v i).length = N := ⟨_, rfl⟩
            rw [hN] at hlen
            have hown2 : wr.ownsRow (w.heap.size + 1) 70 6 v2 N (itemC (AA ++ itemsV t v i)) := by have h := hown; unfold OwnItems at h; rwa [hN] at h
            obtain ⟨vo, vc, rfl⟩ := ownV hown2
            have HN := Lib.hid hN; have HB := Lib.hid hB; have HOWN := Lib.hid hown
            clear hN hB hown
            cases hh : heldP t.roster c
            · have HH := Lib.hid hh
              go_wp2_with (first | (go_at_call 16; refine (ref01_In M v HM4.out (by omega) _).mono ?_; rintro e w' ⟨rfl, rfl⟩; simp only [hin]) | (go_at_call 56; refine (ref01_Child _ _ (by omega) (by omega) (by omega) (by omega) _).mono ?_; rintro e w' ⟨rfl, rfl⟩; simp only [hce]) | (go_at_call 66; refine (ref11_Below _ c hc _).mono ?_; rintro e w8 ⟨rfl, hb8⟩; simp only [hh]))
              go_roundw
              case rel => exact ⟨i + 1, _, by omega, (fun h => by first | (cases h; done) | (rw [HRP.out] at h; cases h)), by go_num, rfl, by rw [HVS.out, HH.out, if_neg (by simp), List.append_nil]; exact ownBelow HOWN.out hb8 (Nat.le_refl _), HB.out.kept hb8 hy0, bCall' hb8 hbel⟩
              case measure => simp [intOf]; omega
            · have HH := Lib.hid hh
              go_wp2_with (first | (go_at_call 16; refine (ref01_In M v HM4.out (by omega) _).mono ?_; rintro e w' ⟨rfl, rfl⟩; simp only [hin]) | (go_at_call 56; refine (ref01_Child _ _ (by omega) (by omega) (by omega) (by omega) _).mono ?_; rintro e w' ⟨rfl, rfl⟩; simp only [hce]) | (go_at_call 66; refine (ref11_Below _ c hc _).mono ?_; rintro e w8 ⟨rfl, hb8⟩; simp only [hh]; clear ha0; have hB8 := HB.out.kept hb8 hy0; have ha8 := hB8.at; have hown8 := ownBelow hown2 hb8 (Nat.le_refl _); have hy8 := hB8.lt) | (go_at_call 67; refine (ref12_item t v c (by omega) hc he _).mono ?_; rintro e w9 ⟨rfl, hb9⟩; clear ha8; have hown9 := ownBelow hown8 hb9 (Nat.le_refl _); have hz9 := hb9.size) | (at_builtin; refine wpList_append_own _ rfl _ _ 37 rfl (w.heap.size + 1) 70 i0 (.agg #[.int .i64 0, .int .i64 0, .int .i64 0, .int .i64 0, .int .i64 0, .int .i64 0]) 6 48 Tryd.underlying37 hi0' hz0 hz1 hz2 rfl (by decide) _ _ _ rfl (hown9.alloc _) ⟨w9.heap.size, 0, none⟩ 1 1 [I (v : Int), I (c : Int), I (nodeK t c).base, I (nodeK t c).step, I (nodeK t v).base, I (nodeK t v).step] rfl rfl (six_cells_at' _ _ (by first | rfl | simp) _ _ _ _ _ _ _) (six_one _ _ _ _ _ _) (by unfold maxLen; omega) (by omega) (by first | omega | (simp; done) | (simp; omega)) ?_; intro v' wa hown' hgrow _; simp only [Value.ownBlock] at hgrow; ))
              have hBa := (hB8.kept hb9 hy8).grown hgrow (fun k e => by have := ownLt hown9 k e; omega)
              have hba : Below w.heap.size w wa := (bAlloc (bCall' hb9 (bCall' hb8 hbel)) _).grown hgrow (by simp; omega) (fun k e => by have := ownLt hown9 k e; omega)
              have HRR : OwnItems wa (w.heap.size + 1) v' (AA ++ itemsV t v (i + 1)) := by
                rw [HVS.out, HH.out, if_pos rfl, ← List.append_assoc]; unfold OwnItems; rw [itemC_snoc, List.length_append, HN.out]; exact hown'
              go_roundw
              case rel => exact ⟨i + 1, v', by omega, (fun h => by first | (cases h; done) | (rw [HRP.out] at h; cases h)), by go_num, rfl, HRR, hBa, hba⟩
              case measure => simp [intOf]; omega
        · have hge : (4 : Int) ≤ (i : Int) := by omega
          have h4 : i = 4 := by omega
          have hrt : replP left v = true := by
            cases h : replP left v
            · exact absurd (hi0 h) (by omega)
            · rfl
          have HRT := Lib.hid hrt; have H4 := Lib.hid h4
          clear hi0 hi4' hi4 hrt h4
          go_wp2
          go_roundw
          case rel => exact ⟨v, v2, by omega, by go_num, rfl, by rw [HA20.out, HRT.out, if_pos rfl]; rw [H4.out] at hown; exact hown, hB, hbel⟩
          case measure => simp [intOf]
    · subst hm0
      rw [show ((0 : Nat) : Int) - 1 = (-1 : Int) from rfl]
      have hAl := itemsA_len t left 21
      obtain ⟨wl, rfl⟩ : ∃ wl : World, wl = wr := ⟨_, rfl⟩
      rw [show 21 - 0 = 21 from rfl] at hown
      generalize hAA : itemsA t left 21 = AA at *
      have HAA := Lib.hid hAA
      have HB := Lib.hid hB; have HOWN := Lib.hid hown; have HBEL := Lib.hid hbel
      clear hm hAA hB hown hbel
      go_wp2
      go_loopw [8, 13, 14, 15, 16, 48] (fun u _ _ _ _ x wr => ∃ (k : Nat) (v2 : Value), k ≤ joined.length ∧ x = .int .i64 k ∧ v2 = u ∧ OwnItems wr (w.heap.size + 1) v2 (AA ++ itemsB t left joined k) ∧ Blk wr w.heap.size (treeC t) 31 ∧ Below w.heap.size w wr) (fun _ _ _ _ _ x _ => joined.length - (intOf x).toNat)
      case atStart => exact ⟨0, _, by omega, rfl, rfl, by simpa [itemsB] using HOWN.out, HB.out, HBEL.out⟩
      case round =>
        obtain ⟨k, v2, hk, rfl, rfl, hown, hB, hbel⟩ := hrel
        obtain ⟨wo, rfl⟩ : ∃ wo : World, wo = wr := ⟨_, rfl⟩
        by_cases hlt : k < joined.length
        · have hlt' : (k : Int) < (joined.length : Int) := by omega
          obtain ⟨x, hx⟩ := some_of_lt hlt
          obtain ⟨b, off, rfl, hb0, hc0, hc1⟩ := HJ.out k x hx
          have hq0 := (hbel.cell (p := ⟨b, off + k * 2, none⟩) hb0).trans hc0
          have hq1 := (hbel.cell (p := ⟨b, off + k * 2 + 1, none⟩) hb0).trans hc1
          have hbz : b < wo.heap.size := by have := hbel.size; omega
          have hok := HJO.out x (List.mem_of_getElem? hx)
          obtain ⟨s, hs⟩ : ∃ s : Nat, x.slot = s := ⟨x.slot.toNat, by omega⟩
          have hs64 : s < 64 := by omega
          have hBB := itemsB_succ t left joined hx
          rw [show x.slot.toNat = s by omega] at hBB
          have hBl := itemsB_len t left joined k
          rw [hs] at hq1
          have HX := Lib.hid hx; have HS := Lib.hid hs; have HBB := Lib.hid hBB; have HB := Lib.hid hB; have HOWN := Lib.hid hown
          have hy0 := hB.lt
          clear hc0 hc1 hx hs hBB hok hB hown
          go_wp2_with (go_at_call 13; refine (ref01_Path s hs64 _).mono ?_; rintro e w7 ⟨rfl, hb7⟩; simp only [pathI])
          have hS1 : Blk w7 wo.heap.size #[I x.who, I s] 45 := (Blk.new wo _ _).kept hb7 (by simp)
          have hT7 : Blk w7 w.heap.size (treeC t) 31 := (HB.out.alloc _).kept hb7 (by simp; omega)
          have hO7 := ownBelow (HOWN.out.alloc (.cells #[I x.who, I s] 45)) hb7 (Nat.le_refl _)
          have hbel7 : Below w.heap.size w w7 := bCall' hb7 (bAlloc hbel _)
          have hP : Blk (w7.alloc (.cells #[I (5 + (s : Int) / 4), I (1 + (s : Int) / 16), I 0] 49)) w7.heap.size #[I (5 + (s : Int) / 4), I (1 + (s : Int) / 16), I 0] 49 := Blk.new _ _ _
          clear hb7 hq0 hq1
          go_loopw [8, 16] (fun u y wq => ∃ (i : Nat) (v2 : Value), i ≤ 3 ∧ y = .int .i64 i ∧ v2 = u ∧ OwnItems wq (w.heap.size + 1) v2 ((AA ++ itemsB t left joined k) ++ itemsJ t left s i) ∧ Blk wq w.heap.size (treeC t) 31 ∧ Blk wq wo.heap.size #[I x.who, I s] 45 ∧ Blk wq w7.heap.size #[I (5 + (s : Int) / 4), I (1 + (s : Int) / 16), I 0] 49 ∧ Below w.heap.size w wq) (fun _ y _ => 3 - (intOf y).toNat)
          case atStart => exact ⟨0, _, by omega, rfl, rfl, by rw [show itemsJ t left s 0 = [] from rfl, List.append_nil]; exact hO7.alloc _, hT7.alloc _, hS1.alloc _, hP, bAlloc hbel7 _⟩
          case round =>
            clear hS1 hT7 hO7 hbel7 hP hbel
            obtain ⟨i, v2, hi3, rfl, rfl, hown, hT, hS, hP, hbel⟩ := hrel
            have hyt := hT.lt; have hys := hS.lt; have hyp := hP.lt
            by_cases hi : i < 3
            · have hii : (i : Int) < 3 := by omega
              have hpi := pathI_get s i hi
              have hpc := (hP.cell i).trans hpi
              have hp21 := pathN_lt s i hs64
              have hJs := itemsJ_succ t left s i
              have hJl := itemsJ_len t left s i
              have hin := HIN.out (pathN s i) hp21
              generalize hpp : pathN s i = p at *
              have HPP := Lib.hid hpp; have HPI := Lib.hid hpi; have HJS := Lib.hid hJs
              clear hpp hpi hJs
              have hlen : ((AA ++ itemsB t left joined k) ++ itemsJ t left s i).length ≤ 4000000 := by rw [List.length_append, List.length_append]; omega
              obtain ⟨N, hN⟩ : ∃ N, ((AA ++ itemsB t left joined k) ++ itemsJ t left s i).length = N := ⟨_, rfl⟩
              rw [hN] at hlen
              have hown2 : wr.ownsRow (w.heap.size + 1) 70 6 v2 N (itemC ((AA ++ itemsB t left joined k) ++ itemsJ t left s i)) := by have h := hown; unfold OwnItems at h; rwa [hN] at h
              obtain ⟨vo, vc, rfl⟩ := ownV hown2
              have HN := Lib.hid hN; have HOWN := Lib.hid hown
              clear hN hown
              cases hrp : replP left p
              · have HRP := Lib.hid hrp
                rw [hrp] at hin
                obtain ⟨c, hc⟩ : ∃ c, 21 + s = c := ⟨_, rfl⟩
                have hlf : leafI (s : Int) = (c : Int) := by unfold leafI; rw [if_pos (by omega)]; omega
                have hc85 : c < 85 := by omega
                have HC := Lib.hid hc
                have HHT := Lib.hid hT; have HHS := Lib.hid hS; have HHP := Lib.hid hP
                clear hrp hc
                go_wp2_with (go_at_call 16; refine (ref01_In M p HM4.out (by omega) _).mono ?_; rintro e w' ⟨rfl, rfl⟩; simp only [hin])
                clear hpc
                have hi0 : (0 : Int) ≤ (i : Int) := by omega
                go_region_held3 (fun w' => cellsAt w' ⟨w.heap.size, 0, none⟩ 236 = some (treeC t) ∧ w'.cell? ⟨w7.heap.size, i, none⟩ = some (I (p : Int)) ∧ w'.cell? ⟨wo.heap.size, 1, none⟩ = some (I (s : Int)))
                  (first | exact HHT.out.drew.items HHP.out.drew HHS.out.drew HPI.out rfl | exact HHT.out.items HHP.out HHS.out HPI.out rfl | exact hT9.items hP9 hS9 HPI.out rfl | exact (hT9.alloc _).items (hP9.alloc _) (hS9.alloc _) HPI.out rfl | exact hTa.items hPa hSa HPI.out rfl | go_keep)
                  (first
                    | (go_at_call 12; refine (ref01_Leaf _ _).mono ?_; rintro e w' ⟨rfl, rfl⟩; simp only [hlf])
                    | (go_at_call 67; (try simp only [Array.toArray_toList]); refine (ref12_item t p c (by omega) hc85 he _).mono ?_; rintro e w9 ⟨rfl, hb9⟩; have hT9 := HHT.out.drew.kept hb9 hyt; have hS9 := HHS.out.drew.kept hb9 hys; have hP9 := HHP.out.drew.kept hb9 hyp; have hown9 := ownBelow hown2.drew hb9 (Nat.le_refl _); have hz9 : wr.heap.size ≤ w9.heap.size := hb9.size)
                    | (refine step_append_lies _ (by rfl) _ _ _ (by rfl) (w.heap.size + 1) 70 i0 (.agg #[.int .i64 0, .int .i64 0, .int .i64 0, .int .i64 0, .int .i64 0, .int .i64 0]) 6 48 Tryd.underlying37 hi0' hz0 hz1 hz2 rfl (by omega) (.slice vo N vc) N _ (by rfl) (hown9.alloc _) ⟨w9.heap.size, 0, none⟩ 1 1 [I (p : Int), I (c : Int), I (nodeK t c).base, I (nodeK t c).step, I (nodeK t p).base, I (nodeK t p).step] (by rfl) (by rfl) (six_cells_at' _ _ (by first | rfl | simp) _ _ _ _ _ _ _) (six_one _ _ _ _ _ _) (by omega) (by unfold maxLen; omega) (by omega) (by simp; omega) (w9.heap.size + 1) (by simp) ?_; intro gg gcap wa hown' hgrow hat hglt; simp only [Value.ownBlock] at hgrow; have hTa := hT9.grown hgrow (fun k e => by have := ownLt hown9 k e; omega); have hSa := hS9.grown hgrow (hS9.not_row (by decide) hown9); have hPa := hP9.grown hgrow (hP9.not_row (by decide) hown9)))
                have hba : Below w.heap.size w wa := (bAlloc (bCall' hb9 (bDrew hbel)) _).grown hgrow (by simp; omega) (fun k e => by have := ownLt hown9 k e; omega)
                have HRR : OwnItems wa (w.heap.size + 1) (.slice (some ⟨gg, 0, none⟩) (N + 1) gcap) ((AA ++ itemsB t left joined k) ++ itemsJ t left s (i + 1)) := by
                  rw [HJS.out, HRP.out, if_neg (by simp), ← List.append_assoc]; unfold OwnItems; rw [itemC_snoc, List.length_append, HN.out, HC.out]; exact hown'
                go_wp2
                go_roundw
                case rel => exact ⟨i + 1, _, by omega, by go_num, rfl, HRR, hTa, hSa, hPa, hba⟩
                case measure => simp [intOf]; omega
              · have HRP := Lib.hid hrp
                rw [hrp] at hin
                clear hrp
                go_wp2_with (go_at_call 16; refine (ref01_In M p HM4.out (by omega) _).mono ?_; rintro e w' ⟨rfl, rfl⟩; simp only [hin])
                go_roundw
                case rel => exact ⟨i + 1, _, by omega, by go_num, rfl, by rw [HJS.out, HRP.out, if_pos rfl, List.append_nil]; exact HOWN.out, hT, hS, hP, hbel⟩
                case measure => simp [intOf]; omega
            · have hge : (3 : Int) ≤ (i : Int) := by omega
              obtain rfl : i = 3 := by omega
              have HOWN := Lib.hid hown
              clear hi hi3 hown
              go_wp2
              go_roundw
              case rel => exact ⟨k + 1, v2, by omega, by go_num, rfl, by rw [HBB.out, ← List.append_assoc]; exact HOWN.out, hT, hbel⟩
              case measure => simp [intOf]; omega
        · have hge : (joined.length : Int) ≤ (k : Int) := by omega
          obtain rfl : k = joined.length := by omega
          clear hlt hk hB
          go_wp2
          go_ret
          exact ⟨v2, rfl, ownBase (by unfold itemsS; rw [HAA.out]; exact hown) (by omega), hbel⟩
end Go.Proofs.YtodgcmakdndbfaaDoor
/-
  Contracts: plan.items$1. Printed by wip/gen/gk.py.
-/
namespace Go.Proofs.YtodgcmakdndbfaaDoor
open Go.RowKit Cot
set_option linter.unusedSimpArgs false
set_option linter.unusedVariables false
/-- All but one block and a row of one's own is as it was. -/
structure KeptBut (ob : Nat) (v : Value) (w w' : World) : Prop where
  size : w.heap.size ≤ w'.heap.size
  block : ∀ b, b < w.heap.size → b ≠ ob → v.ownBlock ≠ some b → w'.heap[b]? = w.heap[b]?
  os : w'.os = w.os
  tape : w'.tape = w.tape
  output : w'.output = w.output
theorem KeptBut.below {ob n : Nat} {v : Value} {a w w' : World} (h : KeptBut ob v w w') (hb : Below n a w) (hn : n ≤ a.heap.size) (hob : n ≤ ob) (hv : ∀ k, v.ownBlock = some k → n ≤ k) : Below n a w' :=
  hb.trans ⟨h.os, h.tape, h.output, h.size, fun i hi => h.block i (by have := hb.size; omega) (by omega) (fun e => by have := hv i e; omega)⟩
theorem KeptBut.blk {ob b : Nat} {v : Value} {w w' : World} {c : Array Value} {t : TypeId} (h : KeptBut ob v w w') (hB : Blk w b c t) (hne : b ≠ ob) (hv : ∀ k, v.ownBlock = some k → k ≠ b) : Blk w' b c t :=
  (h.block b hB.lt hne (fun e => hv b e rfl)).trans hB
theorem Blk.set1 {w : World} {b : Nat} {u : Value} {t : TypeId} (h : Blk w b #[u] t) (v : Value) : Blk (w.setCell ⟨b, 0, none⟩ v) b #[v] t := (h.set 0 v).cast rfl
theorem blkNew {w w1 : World} {c : Array Value} {t : TypeId} (h : Below (w.alloc (.cells c t)).heap.size (w.alloc (.cells c t)) w1) : Blk w1 w.heap.size c t := (Blk.new w c t).kept h (by simp)
theorem blkNewD {w w1 : World} {c : Array Value} {t : TypeId} (h : Below (w.alloc (.cells c t)).drew.heap.size (w.alloc (.cells c t)).drew w1) : Blk w1 w.heap.size c t := (Blk.new w c t).drew.kept h (by show w.heap.size < (w.alloc (.cells c t)).heap.size; simp)
theorem treeOf {W w' : World} {Hb : Nat} {t : Tree} {ty : TypeId} (h : Blk W Hb (treeC t) ty) (hb : Below W.heap.size W w') : cellsAt w' ⟨Hb, 0, none⟩ 236 = some (treeC t) := by
  rw [(h.kept hb h.lt).at, cellsIn_tree]
set_option maxRecDepth 100000 in
set_option maxHeartbeats 2000000 in
theorem plan_items1 (t : Tree) (v c : Nat) (hv : v < 85) (hc : c < 85) (he : t.epoch ≤ 1000000) (hgc : goodK (nodeK t c)) (hgv : goodK (nodeK t v)) (Hb ob base : Nat) (l : List Itm) (hl : l.length ≤ 4000000) (u : Value) (W : World)
    (hT : Blk W Hb (treeC t) 31) (hO : Blk W ob #[u] 37) (hown : OwnItems W base u l) (hob : ob < base) (hHb : Hb < base) (hne : Hb ≠ ob) (hbase : base ≤ W.heap.size) :
    Calls Tryd.prog 50 #[.int .i64 v, .int .i64 c, .pointer (some ⟨Hb, 0, none⟩), .pointer (some ⟨ob, 0, none⟩)] W fun e w' => e = .returned (.tuple #[]) ∧ (∃ u', Blk w' ob #[u'] 37 ∧ OwnItems w' base u' (l ++ [itemOf t v c])) ∧ KeptBut ob u W w' := by
  obtain ⟨i0, hi, hz0, hz1, hz2⟩ := info_parts info_item
  have hyT := hT.lt
  have hyO := hO.lt
  have HT := Lib.hid hT; have HO := Lib.hid hO; have HOWN := Lib.hid hown
  have HGC := Lib.hid hgc; have HGV := Lib.hid hgv
  have ht : cellsAt W ⟨Hb, 0, none⟩ 236 = some (treeC t) := by rw [hT.at, cellsIn_tree]
  have HTT := Lib.hid ht
  clear hT hO hown hgc hgv ht
  go_enter Tryd.func50, Tryd.ntmps50
  go_wp2_with fail
  have hbW : Below W.heap.size W W.drew := (Below.refl _ _).drew
  have hsW : W.heap.size ≤ W.drew.heap.size := Nat.le_refl _
  have tok1 : True := trivial
  go_region_held3 (fun w' => cellsAt w' ⟨Hb, 0, none⟩ 236 = some (treeC t))
    (first | with_reducible exact HTT.out | exact treeOf HT.out (by (first | with_reducible exact hbW | with_reducible exact bDrew (bAlloc (Below.refl _ _) _) | with_reducible exact bAlloc hbW _ | ((with_reducible refine bSet (bSet (bSet (bSet hbW ?_ _) ?_ _) ?_ _) ?_ _) <;> (first | omega | (simp; done) | (simp; omega))) | ((with_reducible refine bSet (bSet (bSet (bSet (bAlloc hbW _) ?_ _) ?_ _) ?_ _) ?_ _) <;> (first | omega | (simp; done) | (simp; omega))))) | go_keep)
    (first
      | (go_at_call 52; (try simp only [Array.toArray_toList]); have _t := tok1; refine (plan_nodeKey t _ (by omega) he _).mono ?_; rintro e w1 ⟨rfl, hb1⟩; clear tok1 _t; have hbW := bCall' hb1 (by (first | with_reducible exact hbW | with_reducible exact bDrew (bAlloc (Below.refl _ _) _) | with_reducible exact bAlloc hbW _ | ((with_reducible refine bSet (bSet (bSet (bSet hbW ?_ _) ?_ _) ?_ _) ?_ _) <;> (first | omega | (simp; done) | (simp; omega))) | ((with_reducible refine bSet (bSet (bSet (bSet (bAlloc hbW _) ?_ _) ?_ _) ?_ _) ?_ _) <;> (first | omega | (simp; done) | (simp; omega))))); (first | (have hX := hX.kept hb1 hX.lt; have hXc := hX.cell; have hXf := hX.frozen; have hXy := hX.lt) | (have hX := (by with_reducible exact blkNewD hb1); have hXc := hX.cell; have hXf := hX.frozen; have hXy := hX.lt) | (have hX := (by with_reducible exact blkNew hb1); have hXc := hX.cell; have hXf := hX.frozen; have hXy := hX.lt) | skip); have hsW := hbW.size)
      | (go_at_call 52; (try simp only [Array.toArray_toList]); refine (plan_nodeKey t _ (by omega) he _).mono ?_; rintro e w2 ⟨rfl, hb2⟩; have hbW := bCall' hb2 (by (first | with_reducible exact hbW | with_reducible exact bDrew (bAlloc (Below.refl _ _) _) | with_reducible exact bAlloc hbW _ | ((with_reducible refine bSet (bSet (bSet (bSet hbW ?_ _) ?_ _) ?_ _) ?_ _) <;> (first | omega | (simp; done) | (simp; omega))) | ((with_reducible refine bSet (bSet (bSet (bSet (bAlloc hbW _) ?_ _) ?_ _) ?_ _) ?_ _) <;> (first | omega | (simp; done) | (simp; omega))))); (first | (have hX := hX.kept hb2 hX.lt; have hXc := hX.cell; have hXf := hX.frozen; have hXy := hX.lt) | (have hX := (by with_reducible exact blkNewD hb2); have hXc := hX.cell; have hXf := hX.frozen; have hXy := hX.lt) | (have hX := (by with_reducible exact blkNew hb2); have hXc := hX.cell; have hXf := hX.frozen; have hXy := hX.lt) | skip); have hsW := hbW.size)
      | (go_at_call 51; refine (key_Seal _ _ _ _ HGC.out HGV.out _).mono ?_; rintro e w3 ⟨rfl, hb3⟩; have hbW := bCall' hb3 (by (first | with_reducible exact hbW | with_reducible exact bDrew (bAlloc (Below.refl _ _) _) | with_reducible exact bAlloc hbW _ | ((with_reducible refine bSet (bSet (bSet (bSet hbW ?_ _) ?_ _) ?_ _) ?_ _) <;> (first | omega | (simp; done) | (simp; omega))) | ((with_reducible refine bSet (bSet (bSet (bSet (bAlloc hbW _) ?_ _) ?_ _) ?_ _) ?_ _) <;> (first | omega | (simp; done) | (simp; omega))))); (first | (have hX := hX.kept hb3 hX.lt; have hXc := hX.cell; have hXf := hX.frozen; have hXy := hX.lt) | (have hX := (by with_reducible exact blkNewD hb3); have hXc := hX.cell; have hXf := hX.frozen; have hXy := hX.lt) | (have hX := (by with_reducible exact blkNew hb3); have hXc := hX.cell; have hXf := hX.frozen; have hXy := hX.lt) | skip); have hsW := hbW.size))
  · have hbW9 : Below W.heap.size W (w3.alloc (.cells #[I (nodeKI t c).1.base, I (nodeKI t c).1.step, I (nodeKI t v).1.base, I (nodeKI t v).1.step] 68)) := by (first | with_reducible exact hbW | with_reducible exact bDrew (bAlloc (Below.refl _ _) _) | with_reducible exact bAlloc hbW _ | ((with_reducible refine bSet (bSet (bSet (bSet hbW ?_ _) ?_ _) ?_ _) ?_ _) <;> (first | omega | (simp; done) | (simp; omega))) | ((with_reducible refine bSet (bSet (bSet (bSet (bAlloc hbW _) ?_ _) ?_ _) ?_ _) ?_ _) <;> (first | omega | (simp; done) | (simp; omega))))
    have hX9 := Blk.new w3 #[I (nodeKI t c).1.base, I (nodeKI t c).1.step, I (nodeKI t v).1.base, I (nodeKI t v).1.step] 68
    have hXW : W.heap.size ≤ w3.heap.size := by first | omega | (have := hb1.size; have := hb2.size; simp at *; omega)
    generalize w3.alloc (.cells #[I (nodeKI t c).1.base, I (nodeKI t c).1.step, I (nodeKI t v).1.base, I (nodeKI t v).1.step] 68) = W9 at *
    generalize w3.heap.size = X at *
    have hO9 := HO.out.kept hbW9 hyO
    have hown9 := ownBelow HOWN.out hbW9 (Nat.le_refl _)
    have hs9 := hbW9.size
    have hxc := hX9.cell; have hxy := hX9.lt
    have hoc := hO9.cell; have hoy := hO9.lt
    have hown2 : W9.ownsRow base 70 6 u l.length (itemC l) := hown9
    obtain ⟨vo, vc, rfl⟩ := ownV hown2
    have HB9 := Lib.hid hbW9
    clear hbW9 hown9
    go_wp2_with (first | (at_builtin; refine wpList_append_own _ rfl _ _ 37 rfl base 70 i0 (.agg #[.int .i64 0, .int .i64 0, .int .i64 0, .int .i64 0, .int .i64 0, .int .i64 0]) 6 48 Tryd.underlying37 hi hz0 hz1 hz2 rfl (by decide) _ _ _ rfl (hown2.alloc _) ⟨W9.heap.size, 0, none⟩ 1 1 [I (v : Int), I (c : Int), I (nodeK t c).base, I (nodeK t c).step, I (nodeK t v).base, I (nodeK t v).step] rfl rfl (six_cells_at' _ _ (by first | rfl | simp) _ _ _ _ _ _ _) (six_one _ _ _ _ _ _) (by unfold maxLen; omega) (by omega) (by first | omega | (simp; done) | (simp; omega)) ?_; intro v' wa hown' hgrow _; simp only [Value.ownBlock] at hgrow; obtain ⟨g', cap', rfl⟩ := ownsRow_succ hown'; have hOa := hO9.grown hgrow (hO9.not_row (by decide) hown2); have hoa := hOa.cell; have hof := hOa.frozen; have hoy2 := hOa.lt; clear hoc))
    have hFin : KeptBut ob (.slice vo l.length vc) W (wa.setCell ⟨ob, 0, none⟩ (.slice (some ⟨g', 0, none⟩) (l.length + 1) cap')) := by
      have hb := HB9.out
      refine ⟨?_, fun b h1 h2 h3 => ?_, hgrow.os.trans hb.os, hgrow.tape.trans hb.tape, hgrow.output.trans hb.output⟩
      · have := hgrow.size; simp at this ⊢; omega
      · rw [Below.heap_setCell _ _ _ b h2, hgrow.block b (by simp; omega) (fun e => h3 e.symm), Below.heap_alloc _ _ _ (by omega), hb.block b h1]
    have hRow : OwnItems (wa.setCell ⟨ob, 0, none⟩ (.slice (some ⟨g', 0, none⟩) (l.length + 1) cap')) base (.slice (some ⟨g', 0, none⟩) (l.length + 1) cap') (l ++ [itemOf t v c]) := by
      unfold OwnItems; rw [itemC_snoc, List.length_append]; exact ownSet hown' (by simp; omega) _
    go_end0
    exact ⟨rfl, ⟨_, hOa.set1 _, hRow⟩, hFin⟩
  · have hbW9 : Below W.heap.size W ((((w3.setCell ⟨w2.heap.size, 0, none⟩ (I (nodeKI t c).1.base)).setCell ⟨w2.heap.size, 1, none⟩ (I (nodeKI t c).1.step)).setCell ⟨w2.heap.size, 2, none⟩ (I (nodeKI t v).1.base)).setCell ⟨w2.heap.size, 3, none⟩ (I (nodeKI t v).1.step)) := by (first | with_reducible exact hbW | with_reducible exact bDrew (bAlloc (Below.refl _ _) _) | with_reducible exact bAlloc hbW _ | ((with_reducible refine bSet (bSet (bSet (bSet hbW ?_ _) ?_ _) ?_ _) ?_ _) <;> (first | omega | (simp; done) | (simp; omega))) | ((with_reducible refine bSet (bSet (bSet (bSet (bAlloc hbW _) ?_ _) ?_ _) ?_ _) ?_ _) <;> (first | omega | (simp; done) | (simp; omega))))
    have hX9 : Blk ((((w3.setCell ⟨w2.heap.size, 0, none⟩ (I (nodeKI t c).1.base)).setCell ⟨w2.heap.size, 1, none⟩ (I (nodeKI t c).1.step)).setCell ⟨w2.heap.size, 2, none⟩ (I (nodeKI t v).1.base)).setCell ⟨w2.heap.size, 3, none⟩ (I (nodeKI t v).1.step)) w2.heap.size #[I (nodeKI t c).1.base, I (nodeKI t c).1.step, I (nodeKI t v).1.base, I (nodeKI t v).1.step] 68 := ((((hX.set 0 _).set 1 _).set 2 _).set 3 _).cast rfl
    have hXW : W.heap.size ≤ w2.heap.size := by first | omega | (have := hb1.size; have := hb2.size; simp at *; omega)
    generalize (((w3.setCell ⟨w2.heap.size, 0, none⟩ (I (nodeKI t c).1.base)).setCell ⟨w2.heap.size, 1, none⟩ (I (nodeKI t c).1.step)).setCell ⟨w2.heap.size, 2, none⟩ (I (nodeKI t v).1.base)).setCell ⟨w2.heap.size, 3, none⟩ (I (nodeKI t v).1.step) = W9 at *
    generalize w2.heap.size = X at *
    have hO9 := HO.out.kept hbW9 hyO
    have hown9 := ownBelow HOWN.out hbW9 (Nat.le_refl _)
    have hs9 := hbW9.size
    have hxc := hX9.cell; have hxy := hX9.lt
    have hoc := hO9.cell; have hoy := hO9.lt
    have hown2 : W9.ownsRow base 70 6 u l.length (itemC l) := hown9
    obtain ⟨vo, vc, rfl⟩ := ownV hown2
    have HB9 := Lib.hid hbW9
    clear hbW9 hown9
    go_wp2_with (first | (at_builtin; refine wpList_append_own _ rfl _ _ 37 rfl base 70 i0 (.agg #[.int .i64 0, .int .i64 0, .int .i64 0, .int .i64 0, .int .i64 0, .int .i64 0]) 6 48 Tryd.underlying37 hi hz0 hz1 hz2 rfl (by decide) _ _ _ rfl (hown2.alloc _) ⟨W9.heap.size, 0, none⟩ 1 1 [I (v : Int), I (c : Int), I (nodeK t c).base, I (nodeK t c).step, I (nodeK t v).base, I (nodeK t v).step] rfl rfl (six_cells_at' _ _ (by first | rfl | simp) _ _ _ _ _ _ _) (six_one _ _ _ _ _ _) (by unfold maxLen; omega) (by omega) (by first | omega | (simp; done) | (simp; omega)) ?_; intro v' wa hown' hgrow _; simp only [Value.ownBlock] at hgrow; obtain ⟨g', cap', rfl⟩ := ownsRow_succ hown'; have hOa := hO9.grown hgrow (hO9.not_row (by decide) hown2); have hoa := hOa.cell; have hof := hOa.frozen; have hoy2 := hOa.lt; clear hoc))
    have hFin : KeptBut ob (.slice vo l.length vc) W (wa.setCell ⟨ob, 0, none⟩ (.slice (some ⟨g', 0, none⟩) (l.length + 1) cap')) := by
      have hb := HB9.out
      refine ⟨?_, fun b h1 h2 h3 => ?_, hgrow.os.trans hb.os, hgrow.tape.trans hb.tape, hgrow.output.trans hb.output⟩
      · have := hgrow.size; simp at this ⊢; omega
      · rw [Below.heap_setCell _ _ _ b h2, hgrow.block b (by simp; omega) (fun e => h3 e.symm), Below.heap_alloc _ _ _ (by omega), hb.block b h1]
    have hRow : OwnItems (wa.setCell ⟨ob, 0, none⟩ (.slice (some ⟨g', 0, none⟩) (l.length + 1) cap')) base (.slice (some ⟨g', 0, none⟩) (l.length + 1) cap') (l ++ [itemOf t v c]) := by
      unfold OwnItems; rw [itemC_snoc, List.length_append]; exact ownSet hown' (by simp; omega) _
    go_end0
    exact ⟨rfl, ⟨_, hOa.set1 _, hRow⟩, hFin⟩
  · have hbW9 : Below W.heap.size W ((((w3.setCell ⟨w1.heap.size, 0, none⟩ (I (nodeKI t c).1.base)).setCell ⟨w1.heap.size, 1, none⟩ (I (nodeKI t c).1.step)).setCell ⟨w1.heap.size, 2, none⟩ (I (nodeKI t v).1.base)).setCell ⟨w1.heap.size, 3, none⟩ (I (nodeKI t v).1.step)) := by (first | with_reducible exact hbW | with_reducible exact bDrew (bAlloc (Below.refl _ _) _) | with_reducible exact bAlloc hbW _ | ((with_reducible refine bSet (bSet (bSet (bSet hbW ?_ _) ?_ _) ?_ _) ?_ _) <;> (first | omega | (simp; done) | (simp; omega))) | ((with_reducible refine bSet (bSet (bSet (bSet (bAlloc hbW _) ?_ _) ?_ _) ?_ _) ?_ _) <;> (first | omega | (simp; done) | (simp; omega))))
    have hX9 : Blk ((((w3.setCell ⟨w1.heap.size, 0, none⟩ (I (nodeKI t c).1.base)).setCell ⟨w1.heap.size, 1, none⟩ (I (nodeKI t c).1.step)).setCell ⟨w1.heap.size, 2, none⟩ (I (nodeKI t v).1.base)).setCell ⟨w1.heap.size, 3, none⟩ (I (nodeKI t v).1.step)) w1.heap.size #[I (nodeKI t c).1.base, I (nodeKI t c).1.step, I (nodeKI t v).1.base, I (nodeKI t v).1.step] 68 := ((((hX.set 0 _).set 1 _).set 2 _).set 3 _).cast rfl
    have hXW : W.heap.size ≤ w1.heap.size := by first | omega | (have := hb1.size; have := hb2.size; simp at *; omega)
    generalize (((w3.setCell ⟨w1.heap.size, 0, none⟩ (I (nodeKI t c).1.base)).setCell ⟨w1.heap.size, 1, none⟩ (I (nodeKI t c).1.step)).setCell ⟨w1.heap.size, 2, none⟩ (I (nodeKI t v).1.base)).setCell ⟨w1.heap.size, 3, none⟩ (I (nodeKI t v).1.step) = W9 at *
    generalize w1.heap.size = X at *
    have hO9 := HO.out.kept hbW9 hyO
    have hown9 := ownBelow HOWN.out hbW9 (Nat.le_refl _)
    have hs9 := hbW9.size
    have hxc := hX9.cell; have hxy := hX9.lt
    have hoc := hO9.cell; have hoy := hO9.lt
    have hown2 : W9.ownsRow base 70 6 u l.length (itemC l) := hown9
    obtain ⟨vo, vc, rfl⟩ := ownV hown2
    have HB9 := Lib.hid hbW9
    clear hbW9 hown9
    go_wp2_with (first | (at_builtin; refine wpList_append_own _ rfl _ _ 37 rfl base 70 i0 (.agg #[.int .i64 0, .int .i64 0, .int .i64 0, .int .i64 0, .int .i64 0, .int .i64 0]) 6 48 Tryd.underlying37 hi hz0 hz1 hz2 rfl (by decide) _ _ _ rfl (hown2.alloc _) ⟨W9.heap.size, 0, none⟩ 1 1 [I (v : Int), I (c : Int), I (nodeK t c).base, I (nodeK t c).step, I (nodeK t v).base, I (nodeK t v).step] rfl rfl (six_cells_at' _ _ (by first | rfl | simp) _ _ _ _ _ _ _) (six_one _ _ _ _ _ _) (by unfold maxLen; omega) (by omega) (by first | omega | (simp; done) | (simp; omega)) ?_; intro v' wa hown' hgrow _; simp only [Value.ownBlock] at hgrow; obtain ⟨g', cap', rfl⟩ := ownsRow_succ hown'; have hOa := hO9.grown hgrow (hO9.not_row (by decide) hown2); have hoa := hOa.cell; have hof := hOa.frozen; have hoy2 := hOa.lt; clear hoc))
    have hFin : KeptBut ob (.slice vo l.length vc) W (wa.setCell ⟨ob, 0, none⟩ (.slice (some ⟨g', 0, none⟩) (l.length + 1) cap')) := by
      have hb := HB9.out
      refine ⟨?_, fun b h1 h2 h3 => ?_, hgrow.os.trans hb.os, hgrow.tape.trans hb.tape, hgrow.output.trans hb.output⟩
      · have := hgrow.size; simp at this ⊢; omega
      · rw [Below.heap_setCell _ _ _ b h2, hgrow.block b (by simp; omega) (fun e => h3 e.symm), Below.heap_alloc _ _ _ (by omega), hb.block b h1]
    have hRow : OwnItems (wa.setCell ⟨ob, 0, none⟩ (.slice (some ⟨g', 0, none⟩) (l.length + 1) cap')) base (.slice (some ⟨g', 0, none⟩) (l.length + 1) cap') (l ++ [itemOf t v c]) := by
      unfold OwnItems; rw [itemC_snoc, List.length_append]; exact ownSet hown' (by simp; omega) _
    go_end0
    exact ⟨rfl, ⟨_, hOa.set1 _, hRow⟩, hFin⟩
  · have hbW9 : Below W.heap.size W ((((w3.setCell ⟨W.heap.size, 0, none⟩ (I (nodeKI t c).1.base)).setCell ⟨W.heap.size, 1, none⟩ (I (nodeKI t c).1.step)).setCell ⟨W.heap.size, 2, none⟩ (I (nodeKI t v).1.base)).setCell ⟨W.heap.size, 3, none⟩ (I (nodeKI t v).1.step)) := by (first | with_reducible exact hbW | with_reducible exact bDrew (bAlloc (Below.refl _ _) _) | with_reducible exact bAlloc hbW _ | ((with_reducible refine bSet (bSet (bSet (bSet hbW ?_ _) ?_ _) ?_ _) ?_ _) <;> (first | omega | (simp; done) | (simp; omega))) | ((with_reducible refine bSet (bSet (bSet (bSet (bAlloc hbW _) ?_ _) ?_ _) ?_ _) ?_ _) <;> (first | omega | (simp; done) | (simp; omega))))
    have hX9 : Blk ((((w3.setCell ⟨W.heap.size, 0, none⟩ (I (nodeKI t c).1.base)).setCell ⟨W.heap.size, 1, none⟩ (I (nodeKI t c).1.step)).setCell ⟨W.heap.size, 2, none⟩ (I (nodeKI t v).1.base)).setCell ⟨W.heap.size, 3, none⟩ (I (nodeKI t v).1.step)) W.heap.size #[I (nodeKI t c).1.base, I (nodeKI t c).1.step, I (nodeKI t v).1.base, I (nodeKI t v).1.step] 68 := ((((hX.set 0 _).set 1 _).set 2 _).set 3 _).cast rfl
    have hXW : W.heap.size ≤ W.heap.size := by first | omega | (have := hb1.size; have := hb2.size; simp at *; omega)
    generalize (((w3.setCell ⟨W.heap.size, 0, none⟩ (I (nodeKI t c).1.base)).setCell ⟨W.heap.size, 1, none⟩ (I (nodeKI t c).1.step)).setCell ⟨W.heap.size, 2, none⟩ (I (nodeKI t v).1.base)).setCell ⟨W.heap.size, 3, none⟩ (I (nodeKI t v).1.step) = W9 at *
    obtain ⟨X, hXX⟩ : ∃ X, W.heap.size = X := ⟨_, rfl⟩
    rw [hXX] at hX9 ⊢
    have hO9 := HO.out.kept hbW9 hyO
    have hown9 := ownBelow HOWN.out hbW9 (Nat.le_refl _)
    have hs9 := hbW9.size
    have hxc := hX9.cell; have hxy := hX9.lt
    have hoc := hO9.cell; have hoy := hO9.lt
    have hown2 : W9.ownsRow base 70 6 u l.length (itemC l) := hown9
    obtain ⟨vo, vc, rfl⟩ := ownV hown2
    have HB9 := Lib.hid hbW9
    clear hbW9 hown9
    go_wp2_with (first | (at_builtin; refine wpList_append_own _ rfl _ _ 37 rfl base 70 i0 (.agg #[.int .i64 0, .int .i64 0, .int .i64 0, .int .i64 0, .int .i64 0, .int .i64 0]) 6 48 Tryd.underlying37 hi hz0 hz1 hz2 rfl (by decide) _ _ _ rfl (hown2.alloc _) ⟨W9.heap.size, 0, none⟩ 1 1 [I (v : Int), I (c : Int), I (nodeK t c).base, I (nodeK t c).step, I (nodeK t v).base, I (nodeK t v).step] rfl rfl (six_cells_at' _ _ (by first | rfl | simp) _ _ _ _ _ _ _) (six_one _ _ _ _ _ _) (by unfold maxLen; omega) (by omega) (by first | omega | (simp; done) | (simp; omega)) ?_; intro v' wa hown' hgrow _; simp only [Value.ownBlock] at hgrow; obtain ⟨g', cap', rfl⟩ := ownsRow_succ hown'; have hOa := hO9.grown hgrow (hO9.not_row (by decide) hown2); have hoa := hOa.cell; have hof := hOa.frozen; have hoy2 := hOa.lt; clear hoc))
    have hFin : KeptBut ob (.slice vo l.length vc) W (wa.setCell ⟨ob, 0, none⟩ (.slice (some ⟨g', 0, none⟩) (l.length + 1) cap')) := by
      have hb := HB9.out
      refine ⟨?_, fun b h1 h2 h3 => ?_, hgrow.os.trans hb.os, hgrow.tape.trans hb.tape, hgrow.output.trans hb.output⟩
      · have := hgrow.size; simp at this ⊢; omega
      · rw [Below.heap_setCell _ _ _ b h2, hgrow.block b (by simp; omega) (fun e => h3 e.symm), Below.heap_alloc _ _ _ (by omega), hb.block b h1]
    have hRow : OwnItems (wa.setCell ⟨ob, 0, none⟩ (.slice (some ⟨g', 0, none⟩) (l.length + 1) cap')) base (.slice (some ⟨g', 0, none⟩) (l.length + 1) cap') (l ++ [itemOf t v c]) := by
      unfold OwnItems; rw [itemC_snoc, List.length_append]; exact ownSet hown' (by simp; omega) _
    go_end0
    exact ⟨rfl, ⟨_, hOa.set1 _, hRow⟩, hFin⟩
end Go.Proofs.YtodgcmakdndbfaaDoor
