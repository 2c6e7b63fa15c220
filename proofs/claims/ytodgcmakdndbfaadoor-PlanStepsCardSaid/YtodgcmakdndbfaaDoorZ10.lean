/-
  Parts of a proof: Bit, Turn2, Of, Tz, Each. Merged by program.
-/
import Derived.Test.YtodgcmakdndbfaaDoorZ9
import Derived.Deep.RegionHeld3
import Derived.Shelf.Spec.TrailingZeros
import Derived.RangeFuncNested
import Derived.RangeFuncBound
import Derived.RangeFuncCalls
import Derived.RangeFuncLeaves
import Derived.RangeFuncBox
import Derived.Shelf.Abstract
import Derived.OwnWalkIn
import Derived.TacticsInMore
import Derived.LoopNIn
import Derived.LoopIn
/-
  Contract: seats.bit of a slot.
-/
namespace Go.Proofs.YtodgcmakdndbfaaDoor
open Go.RowKit Cot
theorem seats_bit (n : Nat) (h : n < 64) (w : World) : Calls Tryd.prog 92 #[.int .i64 n] w fun e w' => e = .returned (.int .u64 ((2 ^ n : Nat) : Int)) ∧ w = w' := by
  have hlt : (n : Int) < 64 := by omega
  have h2 : 2 ^ n < 18446744073709551616 := Nat.lt_of_lt_of_le (Nat.pow_lt_pow_right (by omega) h) (by omega)
  have e : IntKind.u64.wrap ((2 : Int) ^ n) = ((2 ^ n : Nat) : Int) := by
    have e0 : (2 : Int) ^ n = ((2 ^ n : Nat) : Int) := by simp
    rw [IntKind.wrap_u64, e0]; exact Int.emod_eq_of_lt (Int.natCast_nonneg _) (Int.ofNat_lt.2 h2)
  have HE := Lib.hid e
  clear e h2 h
  go_enter Tryd.func92, Tryd.ntmps92
  go_wp2
  go_ret
  exact ⟨by rw [← HE.out] <;> rfl, rfl⟩
end Go.Proofs.YtodgcmakdndbfaaDoor
/-
  Contracts: coterieref10.Turn. Printed by wip/gen/gk.py.
-/
namespace Go.Proofs.YtodgcmakdndbfaaDoor
open Go.RowKit Cot
set_option linter.unusedSimpArgs false
set_option linter.unusedVariables false
set_option maxRecDepth 100000 in
set_option maxHeartbeats 1600000 in
theorem ref10_Turn (k : Nat → Key) (p : Nat → Bool) (fresh : Int) (hk : RightKeys k) (hf : 1 ≤ fresh) (hf2 : fresh ≤ 32768) (hb : ∀ j, j < 21 → (k j).base < fresh) (hst : ∀ j, j < 21 → (k j).step ≤ 254) (w : World) :
    Calls Tryd.prog 63 #[.agg (keysC k), .int .u32 (bitsOf p 21), .int .i64 fresh] w fun e w' => e = .returned (if fresh + (cntOf p 21 : Nat) ≤ 32768 then .tuple #[.agg (keysC (turnK k p fresh)), .int .i64 (fresh + (cntOf p 21 : Nat)), .int .i64 0] else .tuple #[.agg (keysC keys0), .int .i64 0, .int .i64 3]) ∧ Below w.heap.size w w' := by
  have hk1 := checkKeys_of hk
  have hm : bitsOf p 21 < 2097152 := bitsOf_lt p 21
  have hcnt := ref10_count p
  have htb : ∀ v, 21 ≤ v → (bitsOf p 21).testBit v = false := fun v hv => by rw [testBit_bitsOf]; simp; omega
  have hta : ∀ v, v < 21 → (bitsOf p 21).testBit v = p v := fun v hv => by rw [testBit_bitsOf]; simp [hv]
  have hc := cntOf_le p 21
  have HBA := Lib.hid hb
  have hK := Lib.hid hk
  have hST := Lib.hid hst
  generalize hM : bitsOf p 21 = m at *
  generalize hC : cntOf p 21 = c at *
  have HM := Lib.hid hM
  have HC := Lib.hid hC
  have HTB := Lib.hid htb
  have HTA := Lib.hid hta
  have HCN := Lib.hid hcnt
  have HM4 := Lib.hid (show m < 4294967296 by omega)
  clear hb hk hst hM hC htb hta hcnt hm
  go_enter Tryd.func63, Tryd.ntmps63
  go_wp2_with (go_at_call 35; refine (ref10_Check k _).mono ?_; rintro e w1 ⟨rfl, hb⟩; have hB0 : Blk w1 w.heap.size (keysC k) 25 := ((Blk.new w (keysC k) 25).alloc _).kept hb (by simp only [World.size_alloc]; omega); have hB1 : Blk w1 (w.heap.size + 1) (keysC keys0) 25 := (by have h := (Blk.new (w.alloc (.cells (keysC k) 25)) (keysC keys0) 25).kept hb (by simp); rw [World.size_alloc] at h; exact h); simp only [hk1])
  have hbx := bCall (bAlloc (bAlloc (Below.refl w.heap.size w) (.cells (keysC k) 25)) (.cells (keysC keys0) 25)) hb
  go_loopw [9] (fun i wr => ∃ n : Nat, 21 ≤ n ∧ n ≤ 32 ∧ i = .int .i64 n ∧ wr = w1) (fun i _ => 32 - (intOf i).toNat)
  case atStart => exact ⟨21, by omega, by omega, rfl, rfl⟩
  case round =>
    obtain ⟨n, hn0, hn, rfl, rfl⟩ := hrel
    by_cases hlt : n < 32
    · have hlt' : (n : Int) < 32 := by omega
      have ht := HTB.out n hn0
      go_wp2_with (go_at_call 16; refine (ref01_In m n HM4.out (by omega) _).mono ?_; rintro e w' ⟨rfl, rfl⟩; simp only [ht])
      go_roundw
      case rel => exact ⟨n + 1, by omega, by omega, by go_num, by first | rfl | trivial⟩
      case measure => simp [intOf]; omega
    · have hge : (32 : Int) ≤ (n : Int) := by omega
      clear hlt hn
      obtain ⟨wo, rfl⟩ : ∃ wo : World, wo = wr := ⟨_, rfl⟩
      have hr1 := hB1.row
      have hy1 := hB1.lt
      by_cases hbad : fresh + (c : Int) ≤ 32768
      rotate_left
      · have h1 : 0 < (c : Int) := by omega
        have h2 : 32768 - (c : Int) < fresh := by omega
        have hat := (hB1.setRow (keysC keys0)).at 0 42
        rw [cellsIn_keys] at hat
        have HBD := Lib.hid hbad; clear hbad
        go_wp2_with (go_at_call 82; refine (HCN.out _).mono ?_; rintro e w' ⟨rfl, rfl⟩)
        exact bodyPost_ret (v := .tuple #[.agg (keysC keys0), .int .i64 0, .int .i64 3]) (by simp [results, Tryd.results63, Sem.run_bind, asAddr, loadVar_keys, ldV_keys, hat]) rfl ⟨by first | rfl | (rw [if_neg (by have := HBD.out; omega)]), below_setRow hbx (Nat.le_succ _) _⟩
      · have h2 : fresh ≤ 32768 - (c : Int) := by omega
        have HGD := Lib.hid hbad; clear hbad
        by_cases hc0 : c = 0
        · have h0 : ¬ (0 : Int) < (c : Int) := by omega
          have h00 : decide ((0 : Int) < (c : Int)) = false := by simpa using h0
          have HC0 := Lib.hid hc0; clear hc0
          go_wp2_with (go_at_call 82; refine (HCN.out _).mono ?_; rintro e w' ⟨rfl, rfl⟩)
          go_loopw [11] (fun i wr => i = .int .i64 0 ∧ wr = wo) (fun i _ => 0)
          case atStart => exact ⟨rfl, rfl⟩
          case round =>
            obtain ⟨rfl, rfl⟩ := hrel
            go_wp2
            go_loopw [2, 12, 13, 14] (fun fr i _ _ wr => ∃ n : Nat, n ≤ 21 ∧ i = .int .i64 ((n : Int) - 1) ∧ fr = .int .i64 (fresh + (aboveN p n : Nat)) ∧ (∃ kk : Nat → Key, Blk wr w.heap.size (keysC kk) 25 ∧ (∀ v, n ≤ v → v < 21 → kk v = turnK k p fresh v) ∧ ∀ v, v < n → kk v = k v) ∧ Blk wr (w.heap.size + 1) (keysC keys0) 25 ∧ Below w.heap.size w wr) (fun _ i _ _ _ => (intOf i + 1).toNat)
            case atStart => exact ⟨21, by omega, rfl, by simp [aboveN_end], ⟨k, hB0, fun v h1 h2 => by omega, fun v _ => rfl⟩, hB1, hbx⟩
            case round =>
              clear hB0 hB1 hb hbx
              obtain ⟨n, hn, rfl, rfl, ⟨kk, hBq, hk1, hk2⟩, hB1, hbq⟩ := hrel
              have hc1 := hB1.cell
              have hr1 := hB1.row
              have hy1 := hB1.lt
              have hy0 := hBq.lt
              by_cases hlt : n = 0
              rotate_left
              · obtain ⟨m', rfl⟩ : ∃ m', n = m' + 1 := ⟨n - 1, by omega⟩
                have hv : m' < 21 := by omega
                have hv' : (m' : Int) < 21 := by omega
                have e1 : ((m' + 1 : Nat) : Int) - 1 = (m' : Int) := by omega
                have hkv : kk m' = k m' := hk2 _ (by omega)
                have hc0 : wr.cell? ⟨w.heap.size, m' * 2, none⟩ = some (I (k m').base) := by rw [hBq.cell, keysC_get0 _ _ hv, hkv]
                have hc00 : wr.cell? ⟨w.heap.size, m' * 2 + 1, none⟩ = some (I (k m').step) := by rw [hBq.cell, keysC_get1 _ _ hv, hkv]
                have hf0 := fun o => hBq.frozen o
                have hstep := aboveN_step p m' hv
                have hle := aboveN_le_all p m' (by omega)
                rw [aboveN_all, HC.out] at hle
                have hta := HTA.out m' hv
                have hks : (k m').step ≤ 254 := hST.out _ hv
                have hkg := (hK.out _ hv).1.1
                have BQ := Lib.hid hBq; clear hBq
                have K1 := Lib.hid hk1; clear hk1
                have K2 := Lib.hid hk2; clear hk2
                have B1 := Lib.hid hB1; clear hB1
                generalize hA : aboveN p (m' + 1) = A at *
                have HA := Lib.hid hA; clear hA
                rw [e1]
                clear e1 hlt
                cases hp : p m'
                · rw [hp] at hta hstep
                  have hah : aheadS ⟨(k m').base, (k m').step⟩ 1 = (⟨(k m').base, (k m').step + 1⟩, 0) := by
                    unfold aheadS; rw [if_neg (by simpa using hkg), if_neg (by show ¬ ((1 : Int) < 0 ∨ 255 - (k m').step < 1); omega)]
                  have HP := Lib.hid hp
                  have HS := Lib.hid hstep
                  have HKV := Lib.hid hkv
                  clear hkg hp hstep hkv
                  go_wp2_with (first | (go_at_call 16; refine (ref01_In m m' HM4.out (by omega) _).mono ?_; rintro e w' ⟨rfl, rfl⟩; simp only [hta]) | (go_at_call 83; refine (ref02_Ahead1 _ _ _).mono ?_; rintro e w' ⟨rfl, hb⟩; have BQ2 := BQ.out.kept hb hy0; have B12 := B1.out.kept hb hy1; have hfq := fun o => BQ2.frozen o; have hcq0 := (hb.cell (p := ⟨w.heap.size, m' * 2, none⟩) hy0).trans hc0; have hcq1 := (hb.cell (p := ⟨w.heap.size, m' * 2 + 1, none⟩) hy0).trans hc00; have hyq := BQ2.lt; simp only [hah, kE]))
                  go_roundw
                  case rel => exact ⟨m', by omega, by go_num, by rw [HS.out]; simp, ⟨upd kk m' ⟨(k m').base, (k m').step + 1⟩, by first | exact (BQ2.key m' hv _ _).alloc _ | exact (BQ2.alloc _).key m' hv _ _, fun v h1 h2 => by
                        by_cases h : v = m'
                        · subst h; rw [upd_same]; unfold turnK; rw [HP.out]; rfl
                        · rw [upd_other _ _ _ h]; exact K1.out v (by omega) h2, fun v h1 => by rw [upd_other _ _ _ (by omega)]; exact K2.out v (by omega)⟩,
                        by first | exact ((B12.set_other (by simp) _).set_other (by simp) _).alloc _ | exact ((B12.alloc _).set_other (by simp) _).set_other (by simp) _, by
                        have hbw := bCall' hb hbq
                        first | exact bAlloc (bSet (bSet hbw (Nat.le_refl _) _) (Nat.le_refl _) _) _ | exact bSet (bSet (bAlloc hbw _) (Nat.le_refl _) _) (Nat.le_refl _) _⟩
                  case measure => simp [intOf]
                · rw [hp] at hta hstep
                  have HP := Lib.hid hp
                  have hA1 : fresh + (A : Int) + 1 ≤ 32768 := by simp at hstep; omega
                  have HS := Lib.hid hstep
                  clear hkg hp hstep hkv hle
                  go_wp2_with (go_at_call 16; refine (ref01_In m m' HM4.out (by omega) _).mono ?_; rintro e w' ⟨rfl, rfl⟩; simp only [hta])
                  go_roundw
                  case rel => exact ⟨m', by omega, by go_num, by rw [HS.out]; simp; omega, ⟨upd kk m' ⟨fresh + (A : Int), 0⟩, BQ.out.key m' hv _ _, fun v h1 h2 => by
                        by_cases h : v = m'
                        · subst h; rw [upd_same]; unfold turnK; rw [if_pos HP.out, HA.out]
                        · rw [upd_other _ _ _ h]; exact K1.out v (by omega) h2, fun v h1 => by rw [upd_other _ _ _ (by omega)]; exact K2.out v (by omega)⟩,
                        (B1.out.set_other (by simp) _).set_other (by simp) _, bSet (bSet hbq (Nat.le_refl _) _) (Nat.le_refl _) _⟩
                  case measure => simp [intOf]
              · have hfin : keysC kk = keysC (turnK k p fresh) := keysC_congr (fun v hv => hk1 v (by omega) hv)
                have hA : aboveN p n = c := by rw [hlt, ← HC.out]; exact aboveN_all p
                have hneg : (n : Int) - 1 < 0 := by omega
                have HF := Lib.hid hfin
                have HA := Lib.hid hA
                have ha0 := hBq.at
                have hat := (hB1.setRow (keysC kk)).at 0 42
                rw [cellsIn_keys] at hat
                clear hlt hn hk1 hk2 hfin hA hB1
                go_wp2
                exact bodyPost_ret (v := .tuple #[.agg (keysC kk), .int .i64 (fresh + (aboveN p n : Nat)), .int .i64 0]) (by simp [results, Tryd.results63, Sem.run_bind, asAddr, loadVar_keys, ldV_keys, hat]) rfl ⟨by rw [HF.out, HA.out] <;> (try rw [if_pos HGD.out]), below_setRow hbq (Nat.le_succ _) _⟩
        · have h0 : (0 : Int) < (c : Int) := by omega
          have h00 : decide ((0 : Int) < (c : Int)) = true := by simpa using h0
          go_wp2_with (go_at_call 82; refine (HCN.out _).mono ?_; rintro e w' ⟨rfl, rfl⟩)
          go_loopw [11] (fun i wr => ∃ n : Nat, n ≤ 21 ∧ i = .int .i64 n ∧ wr = wo) (fun i _ => 21 - (intOf i).toNat)
          case atStart => exact ⟨0, by omega, rfl, rfl⟩
          case round =>
            obtain ⟨n, hn, rfl, rfl⟩ := hrel
            by_cases hlt : n < 21
            · have hlt' : (n : Int) < 21 := by omega
              have hlb : (k n).base < fresh := HBA.out n hlt
              have hq0 : wr.cell? ⟨w.heap.size, n * 2, none⟩ = some (I (k n).base) := by rw [hB0.cell, keysC_get0 _ _ hlt]
              have HB0 := Lib.hid hB0
              have HB1 := Lib.hid hB1
              clear hB0 hB1
              go_wp2
              go_roundw
              case rel => exact ⟨n + 1, by omega, by go_num, by first | rfl | trivial⟩
              case measure => simp [intOf]; omega
            · have hge : (21 : Int) ≤ (n : Int) := by omega
              clear hlt hn
              go_wp2
              generalize Value.int .i64 (n : Int) = vn
              go_loopw [2, 12, 13, 14] (fun fr i _ _ wr => ∃ n : Nat, n ≤ 21 ∧ i = .int .i64 ((n : Int) - 1) ∧ fr = .int .i64 (fresh + (aboveN p n : Nat)) ∧ (∃ kk : Nat → Key, Blk wr w.heap.size (keysC kk) 25 ∧ (∀ v, n ≤ v → v < 21 → kk v = turnK k p fresh v) ∧ ∀ v, v < n → kk v = k v) ∧ Blk wr (w.heap.size + 1) (keysC keys0) 25 ∧ Below w.heap.size w wr) (fun _ i _ _ _ => (intOf i + 1).toNat)
              case atStart => exact ⟨21, by omega, rfl, by simp [aboveN_end], ⟨k, hB0, fun v h1 h2 => by omega, fun v _ => rfl⟩, hB1, hbx⟩
              case round =>
                clear hB0 hB1 hb hbx
                obtain ⟨n, hn, rfl, rfl, ⟨kk, hBq, hk1, hk2⟩, hB1, hbq⟩ := hrel
                have hc1 := hB1.cell
                have hr1 := hB1.row
                have hy1 := hB1.lt
                have hy0 := hBq.lt
                by_cases hlt : n = 0
                rotate_left
                · obtain ⟨m', rfl⟩ : ∃ m', n = m' + 1 := ⟨n - 1, by omega⟩
                  have hv : m' < 21 := by omega
                  have hv' : (m' : Int) < 21 := by omega
                  have e1 : ((m' + 1 : Nat) : Int) - 1 = (m' : Int) := by omega
                  have hkv : kk m' = k m' := hk2 _ (by omega)
                  have hc0 : wr.cell? ⟨w.heap.size, m' * 2, none⟩ = some (I (k m').base) := by rw [hBq.cell, keysC_get0 _ _ hv, hkv]
                  have hc00 : wr.cell? ⟨w.heap.size, m' * 2 + 1, none⟩ = some (I (k m').step) := by rw [hBq.cell, keysC_get1 _ _ hv, hkv]
                  have hf0 := fun o => hBq.frozen o
                  have hstep := aboveN_step p m' hv
                  have hle := aboveN_le_all p m' (by omega)
                  rw [aboveN_all, HC.out] at hle
                  have hta := HTA.out m' hv
                  have hks : (k m').step ≤ 254 := hST.out _ hv
                  have hkg := (hK.out _ hv).1.1
                  have BQ := Lib.hid hBq; clear hBq
                  have K1 := Lib.hid hk1; clear hk1
                  have K2 := Lib.hid hk2; clear hk2
                  have B1 := Lib.hid hB1; clear hB1
                  generalize hA : aboveN p (m' + 1) = A at *
                  have HA := Lib.hid hA; clear hA
                  rw [e1]
                  clear e1 hlt
                  cases hp : p m'
                  · rw [hp] at hta hstep
                    have hah : aheadS ⟨(k m').base, (k m').step⟩ 1 = (⟨(k m').base, (k m').step + 1⟩, 0) := by
                      unfold aheadS; rw [if_neg (by simpa using hkg), if_neg (by show ¬ ((1 : Int) < 0 ∨ 255 - (k m').step < 1); omega)]
                    have HP := Lib.hid hp
                    have HS := Lib.hid hstep
                    have HKV := Lib.hid hkv
                    clear hkg hp hstep hkv
                    go_wp2_with (first | (go_at_call 16; refine (ref01_In m m' HM4.out (by omega) _).mono ?_; rintro e w' ⟨rfl, rfl⟩; simp only [hta]) | (go_at_call 83; refine (ref02_Ahead1 _ _ _).mono ?_; rintro e w' ⟨rfl, hb⟩; have BQ2 := BQ.out.kept hb hy0; have B12 := B1.out.kept hb hy1; have hfq := fun o => BQ2.frozen o; have hcq0 := (hb.cell (p := ⟨w.heap.size, m' * 2, none⟩) hy0).trans hc0; have hcq1 := (hb.cell (p := ⟨w.heap.size, m' * 2 + 1, none⟩) hy0).trans hc00; have hyq := BQ2.lt; simp only [hah, kE]))
                    go_roundw
                    case rel => exact ⟨m', by omega, by go_num, by rw [HS.out]; simp, ⟨upd kk m' ⟨(k m').base, (k m').step + 1⟩, by first | exact (BQ2.key m' hv _ _).alloc _ | exact (BQ2.alloc _).key m' hv _ _, fun v h1 h2 => by
                          by_cases h : v = m'
                          · subst h; rw [upd_same]; unfold turnK; rw [HP.out]; rfl
                          · rw [upd_other _ _ _ h]; exact K1.out v (by omega) h2, fun v h1 => by rw [upd_other _ _ _ (by omega)]; exact K2.out v (by omega)⟩,
                          by first | exact ((B12.set_other (by simp) _).set_other (by simp) _).alloc _ | exact ((B12.alloc _).set_other (by simp) _).set_other (by simp) _, by
                          have hbw := bCall' hb hbq
                          first | exact bAlloc (bSet (bSet hbw (Nat.le_refl _) _) (Nat.le_refl _) _) _ | exact bSet (bSet (bAlloc hbw _) (Nat.le_refl _) _) (Nat.le_refl _) _⟩
                    case measure => simp [intOf]
                  · rw [hp] at hta hstep
                    have HP := Lib.hid hp
                    have hA1 : fresh + (A : Int) + 1 ≤ 32768 := by simp at hstep; omega
                    have HS := Lib.hid hstep
                    clear hkg hp hstep hkv hle
                    go_wp2_with (go_at_call 16; refine (ref01_In m m' HM4.out (by omega) _).mono ?_; rintro e w' ⟨rfl, rfl⟩; simp only [hta])
                    go_roundw
                    case rel => exact ⟨m', by omega, by go_num, by rw [HS.out]; simp; omega, ⟨upd kk m' ⟨fresh + (A : Int), 0⟩, BQ.out.key m' hv _ _, fun v h1 h2 => by
                          by_cases h : v = m'
                          · subst h; rw [upd_same]; unfold turnK; rw [if_pos HP.out, HA.out]
                          · rw [upd_other _ _ _ h]; exact K1.out v (by omega) h2, fun v h1 => by rw [upd_other _ _ _ (by omega)]; exact K2.out v (by omega)⟩,
                          (B1.out.set_other (by simp) _).set_other (by simp) _, bSet (bSet hbq (Nat.le_refl _) _) (Nat.le_refl _) _⟩
                    case measure => simp [intOf]
                · have hfin : keysC kk = keysC (turnK k p fresh) := keysC_congr (fun v hv => hk1 v (by omega) hv)
                  have hA : aboveN p n = c := by rw [hlt, ← HC.out]; exact aboveN_all p
                  have hneg : (n : Int) - 1 < 0 := by omega
                  have HF := Lib.hid hfin
                  have HA := Lib.hid hA
                  have ha0 := hBq.at
                  have hat := (hB1.setRow (keysC kk)).at 0 42
                  rw [cellsIn_keys] at hat
                  clear hlt hn hk1 hk2 hfin hA hB1
                  go_wp2
                  exact bodyPost_ret (v := .tuple #[.agg (keysC kk), .int .i64 (fresh + (aboveN p n : Nat)), .int .i64 0]) (by simp [results, Tryd.results63, Sem.run_bind, asAddr, loadVar_keys, ldV_keys, hat]) rfl ⟨by rw [HF.out, HA.out] <;> (try rw [if_pos HGD.out]), below_setRow hbq (Nat.le_succ _) _⟩
end Go.Proofs.YtodgcmakdndbfaaDoor
/-
  Contracts: coterieref11.Of, plan.nodeKey. Printed by wip/gen/gk.py.
-/
namespace Cot
open Go.Proofs.YtodgcmakdndbfaaDoor in
/-- A node's key in a right tree, and the error. -/
def nodeKI (t : Tree) (v : Nat) : Key × Int := if v < 21 then (t.keys v, 0) else leafAtS (t.roster (v - 21)) t.epoch
end Cot
namespace Go.Proofs.YtodgcmakdndbfaaDoor
open Go.RowKit Cot
set_option linter.unusedSimpArgs false
set_option linter.unusedVariables false
theorem Blk.tree4 {w : World} {b s : Nat} {ty : TypeId} {t : Tree} (h : Blk w b (treeC t) ty) (hs : s < 64) : w.cell? ⟨b, 0, none⟩ = some (I t.epoch) ∧ w.cell? ⟨b, 44 + s * 3, none⟩ = some (I (t.roster s).who) ∧ w.cell? ⟨b, 44 + s * 3 + 1, none⟩ = some (I (t.roster s).base) ∧ w.cell? ⟨b, 44 + s * 3 + 2, none⟩ = some (I (t.roster s).since) := by
  rw [h.cell, h.cell, h.cell, h.cell, treeC_get0, treeC_ent0 _ _ hs, treeC_ent1 _ _ hs, treeC_ent2 _ _ hs]; exact ⟨rfl, rfl, rfl, rfl⟩
set_option maxRecDepth 100000 in
set_option maxHeartbeats 800000 in
theorem ref11_Of (t : Tree) (v : Nat) (hv : v < 85) (he : t.epoch ≤ 1000000) (w : World) : Calls Tryd.prog 11 #[.agg (treeC t), .int .i64 v] w fun e w' => e = .returned (kE (nodeKI t v)) ∧ Below w.heap.size w w' := by
  by_cases h : v < 21
  · have hv' : (v : Int) < 21 := by omega
    have hk : nodeKI t v = (t.keys v, 0) := by unfold nodeKI; rw [if_pos h]
    have HV := Lib.hid hk; clear hk
    go_enter Tryd.func11, Tryd.ntmps11
    have hd : decide ((0 : Int) ≤ (v : Int) ∧ (v : Int) < 85) = true := decide_eq_true (by omega)
    go_wp2_with (go_at_call 29; refine (ref01_Node _ _).mono ?_; rintro e w' ⟨rfl, rfl⟩; simp only [hd])
    exact bodyPost_ret (v := kE (t.keys v, 0)) (by simp [results, Tryd.results11, go_sem, kE]) rfl ⟨by rw [HV.out], (by repeat' (first | exact Below.refl _ _ | (refine bSet ?_ (by first | omega | (simp; done) | (simp; omega)) _) | (refine bAlloc ?_ _) | (refine bDrew ?_) | (refine bDrewN ?_ _) | (refine bCall' (by assumption) ?_)))⟩
  · obtain ⟨s, rfl⟩ : ∃ s, v = s + 21 := ⟨v - 21, by omega⟩
    have hs : s < 64 := by omega
    have hs' : (s : Int) < 64 := by omega
    have hk : nodeKI t (s + 21) = leafAtS (t.roster s) t.epoch := by unfold nodeKI; rw [if_neg h, show s + 21 - 21 = s by omega]
    have HV := Lib.hid hk; clear hk h hv
    have e1 : ((s + 21 : Nat) : Int) = (s : Int) + 21 := by omega
    have HS : Blk ((w.alloc (.cells (treeC t) 31)).alloc (.cells #[I 0, I 0] 23)) w.heap.size (treeC t) 31 := (Blk.new w _ _).alloc _
    rw [e1]; clear e1
    go_enter Tryd.func11, Tryd.ntmps11
    have hd : decide ((0 : Int) ≤ (s : Int) + 21 ∧ (s : Int) + 21 < 85) = true := decide_eq_true (by omega)
    go_wp2_with (go_at_call 29; refine (ref01_Node _ _).mono ?_; rintro e w' ⟨rfl, rfl⟩; simp only [hd])
    have hw1 : IntKind.i64.wrap ((s : Int) + 21 - 21) = (s : Int) := by rw [show (s : Int) + 21 - 21 = (s : Int) by omega]; exact IntWalk.i64_in _ (by omega)
    have hs0 : (0 : Int) ≤ (s : Int) := by omega
    have hw2 : IntKind.i64.wrap (s : Int) = (s : Int) := IntWalk.i64_in _ (by omega)
    have hq0 := HS.cell 0; have hq1 := HS.cell (44 + s * 3); have hq2 := HS.cell (44 + s * 3 + 1); have hq3 := HS.cell (44 + s * 3 + 2)
    rw [treeC_get0] at hq0; rw [treeC_ent0 _ _ hs] at hq1; rw [treeC_ent1 _ _ hs] at hq2; rw [treeC_ent2 _ _ hs] at hq3
    clear HS
    go_region_held3 (fun w' => w'.cell? ⟨w.heap.size, 0, none⟩ = some (I t.epoch) ∧ w'.cell? ⟨w.heap.size, 44 + s * 3, none⟩ = some (I (t.roster s).who) ∧ w'.cell? ⟨w.heap.size, 44 + s * 3 + 1, none⟩ = some (I (t.roster s).base) ∧ w'.cell? ⟨w.heap.size, 44 + s * 3 + 2, none⟩ = some (I (t.roster s).since))
      (first | exact ⟨hq0, hq1, hq2, hq3⟩ | go_keep)
      ((go_at_call 30; refine (ref10_LeafAt _ _ _ _ he _).mono ?_; rintro e w1 ⟨rfl, hb⟩; obtain ⟨bc, bf, ba, br, bz⟩ := bFacts hb; have hz := bSize hb (n := w.heap.size + 2) (by first | omega | (simp; done) | (simp; omega)); have hc0 := fun o => bc w.heap.size o (by first | omega | (simp; done) | (simp; omega)); have hf0 := fun o => bf w.heap.size o (by first | omega | (simp; done) | (simp; omega)); have hy0 := bz w.heap.size (by first | omega | (simp; done) | (simp; omega)); have hc1 := fun o => bc (w.heap.size + 1) o (by first | omega | (simp; done) | (simp; omega)); have hf1 := fun o => bf (w.heap.size + 1) o (by first | omega | (simp; done) | (simp; omega)); have hy1 := bz (w.heap.size + 1) (by first | omega | (simp; done) | (simp; omega)); clear bc bf ba br bz; simp only [kE]))
    go_wp2
    exact bodyPost_ret (v := kE (leafAtS (t.roster s) t.epoch)) (by simp [results, Tryd.results11, go_sem, kE, *]) rfl ⟨by rw [HV.out], (by repeat' (first | exact Below.refl _ _ | (refine bSet ?_ (by first | omega | (simp; done) | (simp; omega)) _) | (refine bAlloc ?_ _) | (refine bDrew ?_) | (refine bDrewN ?_ _) | (refine bCall' (by assumption) ?_)))⟩
set_option maxRecDepth 100000 in
set_option maxHeartbeats 800000 in
theorem plan_nodeKey (t : Tree) (v : Nat) (hv : v < 85) (he : t.epoch ≤ 1000000) (w : World) : Calls Tryd.prog 52 #[.agg (treeC t), .int .i64 v] w fun e w' => e = .returned (.agg #[I (nodeKI t v).1.base, I (nodeKI t v).1.step]) ∧ Below w.heap.size w w' := by
  by_cases h : v < 21
  · have hv' : (v : Int) < 21 := by omega
    have hk : nodeKI t v = (t.keys v, 0) := by unfold nodeKI; rw [if_pos h]
    have HV := Lib.hid hk; clear hk
    go_enter Tryd.func52, Tryd.ntmps52
    have hd : slotI (v : Int) = -1 := by unfold slotI; rw [if_neg (by omega)]
    go_wp2_with (go_at_call 78; refine (shape_Slot _ _).mono ?_; rintro e w' ⟨rfl, rfl⟩; simp only [hd])
    exact bodyPost_ret (v := .agg #[I (t.keys v).base, I (t.keys v).step]) (by simp [results, Tryd.results52, go_sem]) rfl ⟨by rw [HV.out], (by repeat' (first | exact Below.refl _ _ | (refine bSet ?_ (by first | omega | (simp; done) | (simp; omega)) _) | (refine bAlloc ?_ _) | (refine bDrew ?_) | (refine bDrewN ?_ _) | (refine bCall' (by assumption) ?_)))⟩
  · obtain ⟨s, rfl⟩ : ∃ s, v = s + 21 := ⟨v - 21, by omega⟩
    have hs : s < 64 := by omega
    have hs' : (s : Int) < 64 := by omega
    have hk : nodeKI t (s + 21) = leafAtS (t.roster s) t.epoch := by unfold nodeKI; rw [if_neg h, show s + 21 - 21 = s by omega]
    have HV := Lib.hid hk; clear hk h hv
    have e1 : ((s + 21 : Nat) : Int) = (s : Int) + 21 := by omega
    have HS : Blk ((w.alloc (.cells (treeC t) 31)).alloc (.cells #[I 0, I 0] 23)) w.heap.size (treeC t) 31 := (Blk.new w _ _).alloc _
    rw [e1]; clear e1
    go_enter Tryd.func52, Tryd.ntmps52
    have hd : slotI ((s : Int) + 21) = (s : Int) := by unfold slotI; rw [if_pos (by omega)]; omega
    go_wp2_with (go_at_call 78; refine (shape_Slot _ _).mono ?_; rintro e w' ⟨rfl, rfl⟩; simp only [hd])
    have hs0 : (0 : Int) ≤ (s : Int) := by omega
    go_region_held3 (fun w' => w'.cell? ⟨w.heap.size, 0, none⟩ = some (I t.epoch) ∧ w'.cell? ⟨w.heap.size, 44 + s * 3, none⟩ = some (I (t.roster s).who) ∧ w'.cell? ⟨w.heap.size, 44 + s * 3 + 1, none⟩ = some (I (t.roster s).base) ∧ w'.cell? ⟨w.heap.size, 44 + s * 3 + 2, none⟩ = some (I (t.roster s).since))
      (first | exact HS.drew.tree4 hs | exact (HS.alloc _).drew.tree4 hs | exact HS1.tree4 hs | exact (HS1.alloc _).tree4 hs | exact ((HS1.set_other (by first | omega | (simp; done) | (simp; omega)) _).set_other (by first | omega | (simp; done) | (simp; omega)) _).tree4 hs | exact (((HS1.alloc _).set_other (by first | omega | (simp; done) | (simp; omega)) _).set_other (by first | omega | (simp; done) | (simp; omega)) _).tree4 hs | go_keep)
      ((go_at_call 79; refine (ratchet_LeafAt _ _ _ _ he _).mono ?_; rintro e w1 ⟨rfl, hb⟩; (first | have HS1 := (HS.alloc _).drew.kept hb (by first | omega | (simp; done) | (simp; omega)) | have HS1 := HS.drew.kept hb (by first | omega | (simp; done) | (simp; omega))); (first | (obtain ⟨bc, bf, ba, br, bz⟩ := bFacts hb; have hz := bSize hb (n := w.heap.size + 3) (by first | omega | (simp; done) | (simp; omega)); have hc0 := fun o => bc w.heap.size o (by first | omega | (simp; done) | (simp; omega)); have hf0 := fun o => bf w.heap.size o (by first | omega | (simp; done) | (simp; omega)); have hy0 := bz w.heap.size (by first | omega | (simp; done) | (simp; omega)); have hc1 := fun o => bc (w.heap.size + 1) o (by first | omega | (simp; done) | (simp; omega)); have hf1 := fun o => bf (w.heap.size + 1) o (by first | omega | (simp; done) | (simp; omega)); have hy1 := bz (w.heap.size + 1) (by first | omega | (simp; done) | (simp; omega)); have hc2 := fun o => bc (w.heap.size + 2) o (by first | omega | (simp; done) | (simp; omega)); have hf2 := fun o => bf (w.heap.size + 2) o (by first | omega | (simp; done) | (simp; omega)); have hy2 := bz (w.heap.size + 2) (by first | omega | (simp; done) | (simp; omega)); clear bc bf ba br bz) | (obtain ⟨bc, bf, ba, br, bz⟩ := bFacts hb; have hz := bSize hb (n := w.heap.size + 2) (by first | omega | (simp; done) | (simp; omega)); have hc0 := fun o => bc w.heap.size o (by first | omega | (simp; done) | (simp; omega)); have hf0 := fun o => bf w.heap.size o (by first | omega | (simp; done) | (simp; omega)); have hy0 := bz w.heap.size (by first | omega | (simp; done) | (simp; omega)); have hc1 := fun o => bc (w.heap.size + 1) o (by first | omega | (simp; done) | (simp; omega)); have hf1 := fun o => bf (w.heap.size + 1) o (by first | omega | (simp; done) | (simp; omega)); have hy1 := bz (w.heap.size + 1) (by first | omega | (simp; done) | (simp; omega)); clear bc bf ba br bz)); simp only [kE]))
    all_goals go_wp2
    all_goals exact bodyPost_ret (v := .agg #[I (leafAtS (t.roster s) t.epoch).1.base, I (leafAtS (t.roster s) t.epoch).1.step]) (by simp [results, Tryd.results52, go_sem, *]) rfl ⟨by rw [HV.out], (by repeat' (first | exact Below.refl _ _ | (refine bSet ?_ (by first | omega | (simp; done) | (simp; omega)) _) | (refine bAlloc ?_ _) | (refine bDrew ?_) | (refine bDrewN ?_ _) | (refine bCall' (by assumption) ?_)))⟩
end Go.Proofs.YtodgcmakdndbfaaDoor
/-
  Contracts: math/bits.TrailingZeros64 (the table laid), seats.each; the lowest bit of a set.
-/
namespace Cot
open Go
/-- What lies at the lowest place goes away. -/
theorem filter_range_head (p : Nat → Bool) (k : Nat) (hk : p k = true) (hlt : ∀ i, i < k → p i = false) : ∀ n, k < n → (List.range n).filter p = k :: (List.range n).filter (fun i => p i && decide (i ≠ k))
  | 0, h => by omega
  | n + 1, h => by
    rw [List.range_succ, List.filter_append, List.filter_append]
    by_cases hn : n = k
    · subst hn
      have h0 : (List.range n).filter p = [] := by
        rw [List.filter_eq_nil_iff]; intro a ha; rw [hlt a (List.mem_range.1 ha)]; simp
      have h1 : (List.range n).filter (fun i => p i && decide (i ≠ n)) = [] := by
        rw [List.filter_eq_nil_iff]; intro a ha; rw [hlt a (List.mem_range.1 ha)]; simp
      rw [h0, h1]; simp [hk]
    · rw [filter_range_head p k hk hlt n (by omega)]
      have : ([n] : List Nat).filter p = [n].filter (fun i => p i && decide (i ≠ k)) := by
        apply List.filter_congr; intro a ha; simp at ha; subst ha; simp [hn]
      rw [this]; rfl
theorem clear_low (k m : Nat) (i : Nat) : ((2 ^ k * (2 * m + 1)) &&& (2 ^ k * (2 * m + 1) - 1)).testBit i = ((2 ^ k * (2 * m + 1)).testBit i && decide (i ≠ k)) := by
  have hp : 0 < 2 ^ k := Nat.two_pow_pos k
  have e : 2 ^ k * (2 * m + 1) - 1 = 2 ^ k * (2 * m) + (2 ^ k - 1) := by rw [Nat.mul_add]; omega
  rw [Nat.testBit_and, e, Nat.testBit_two_pow_mul_add _ (by omega)]
  rw [Nat.mul_comm, Nat.testBit_mul_two_pow]
  by_cases hik : i < k
  · simp [hik, show ¬ k ≤ i by omega]
  · rw [if_neg hik]
    by_cases he : i = k
    · subst he; simp [Nat.testBit_zero]
    · obtain ⟨j, rfl⟩ : ∃ j, i = k + (j + 1) := ⟨i - k - 1, by omega⟩
      have e3 : k + (j + 1) - k = j + 1 := by omega
      rw [e3, Nat.testBit_succ, Nat.testBit_succ, show (2 * m + 1) / 2 = m by omega, show 2 * m / 2 = m by omega]
      simp
theorem low_bits (k m i : Nat) (h : i < k) : (2 ^ k * (2 * m + 1)).testBit i = false := by
  rw [Nat.mul_comm, Nat.testBit_mul_two_pow]; simp [show ¬ k ≤ i by omega]
theorem low_bit (k m : Nat) : (2 ^ k * (2 * m + 1)).testBit k = true := by
  rw [Nat.mul_comm, Nat.testBit_mul_two_pow]; simp [Nat.testBit_zero]
/-- The set without its lowest place. -/
theorem bits_next (x : Nat) (h0 : x ≠ 0) (hx : x < 18446744073709551616) : Lib.ctz 64 x < 64 ∧ (x &&& (x - 1)) < 18446744073709551616 ∧ (List.range 64).filter x.testBit = Lib.ctz 64 x :: (List.range 64).filter (x &&& (x - 1)).testBit := by
  obtain ⟨m, hm, hk⟩ := Lib.ctzFrom_spec 64 x (by omega) hx
  have hc : Lib.ctz 64 x = Lib.ctzFrom 64 x := by unfold Lib.ctz; rw [if_neg h0]
  rw [hc]
  refine ⟨hk, Nat.lt_of_le_of_lt Nat.and_le_left hx, ?_⟩
  generalize Lib.ctzFrom 64 x = k at *
  subst hm
  rw [filter_range_head _ k (low_bit k m) (fun i hi => low_bits k m i hi) 64 hk]
  congr 1
  apply List.filter_congr
  intro i _
  rw [clear_low]
end Cot
namespace Go.Proofs.YtodgcmakdndbfaaDoor
open Go.RowKit Cot
set_option linter.unusedSimpArgs false
set_option linter.unusedVariables false
/-- The library's table lies in its variable. -/
def TzAt (w : World) : Prop := 0 < w.heap.size ∧ TabAt 0 Lib.deBruijn64tab w
theorem TzAt.kept {w w' : World} {B : Nat} (h : TzAt w) (hb : Below B w w') (hB : w.heap.size ≤ B) : TzAt w' :=
  ⟨Nat.lt_of_lt_of_le h.1 hb.size, fun j hj => (hb.cell (p := ⟨_, j, none⟩) (Nat.lt_of_lt_of_le h.1 hB)).trans (h.2 j hj)⟩
theorem TzAt.below {w w' : World} {a : World} (h : TzAt a) (hb : Below a.heap.size w w') (hw : Below a.heap.size a w) : TzAt w' := (h.kept hw (Nat.le_refl _)).2 |> fun h2 => ⟨Nat.lt_of_lt_of_le h.1 (Nat.le_trans hw.size hb.size), fun j hj => (hb.cell (p := ⟨_, j, none⟩) h.1).trans (h2 j hj)⟩
set_option maxHeartbeats 1000000 in
theorem tz_core (x k idx : Nat) (w : World) (hx0 : ((x : Int) == 0) = false)
    (key : IntKind.u64.wrap (bits BinOp.and IntKind.u64 (x : Int) (IntKind.u64.wrap (-(x : Int))) * 285870213051353865) / 288230376151711744 = (idx : Int))
    (hi : idx < 64) (hk : k < 64) (hcell : w.cell? ⟨0, idx, none⟩ = some (.int .u8 k)) :
    Calls Tryd.prog 94 #[.int .u64 x] w fun e w' => e = .returned (.int .i64 k) ∧ w = w' := by
  go_enter Tryd.func94, Tryd.ntmps94
  go_wp2_with (simp only [key])
  go_ret
  exact ⟨rfl, rfl⟩
theorem bits_TrailingZeros64 (x : Nat) (h0 : x ≠ 0) (hx : x < 18446744073709551616) (w : World) (hT : TzAt w) : Calls Tryd.prog 94 #[.int .u64 x] w fun e w' => e = .returned (.int .i64 (Lib.ctz 64 x)) ∧ w = w' := by
  obtain ⟨hlow, hk⟩ := Lib.lowest_bit 64 x h0 hx
  obtain ⟨hi, htab⟩ := Lib.deBruijn64_at _ hk
  have hcell := hT.2 _ hi
  rw [htab] at hcell
  exact tz_core x _ _ w (by simp; omega) (tz64_key x _ hx h0 hlow) hi hk hcell
theorem seats_each (x : Nat) (w : World) : Calls Tryd.prog 91 #[.int .u64 x] w fun e w' => e = .returned (.func (.func 93) #[] #[.pointer (some ⟨w.heap.size, 0, none⟩)]) ∧ w.alloc (.cells #[.int .u64 x] 63) = w' := by
  go_enter Tryd.func91, Tryd.ntmps91
  go_wp2
  go_ret
  exact ⟨rfl, rfl⟩
end Go.Proofs.YtodgcmakdndbfaaDoor
/-
  Contract: seats.each's closure, at whatever loop: all places of the set have come, rising; or a part, a round having said 'no more'.
-/
namespace Go.Proofs.YtodgcmakdndbfaaDoor
open Go.RowKit Cot
attribute [local go_sem] Oper.semAt_some
set_option linter.unusedSimpArgs false
set_option linter.unusedVariables false
def slots64 (x : Nat) : List Nat := (List.range 64).filter x.testBit
theorem slots64_zero : slots64 0 = [] := by unfold slots64; rw [List.filter_eq_nil_iff]; simp
theorem slots64_len (x : Nat) : (slots64 x).length ≤ 64 := by unfold slots64; exact Nat.le_trans (List.length_filter_le _ _) (by simp)
set_option maxRecDepth 100000 in
set_option maxHeartbeats 1000000 in
theorem each1_in (n : Nat) (l Bs s : Nat) (hs : s < 18446744073709551616) (J : Nat → List Nat → World → Prop) (Jx : List Nat → World → Prop)
    (hJ : ∀ c pre W, J c pre W → W.cell? ⟨Bs, 0, none⟩ = some (.int .u64 c) ∧ W.frozen? ⟨Bs, 0, none⟩ = false ∧ TzAt W)
    (hJs : ∀ c c' pre W, J c pre W → J c' pre (W.setCell ⟨Bs, 0, none⟩ (.int .u64 c')))
    (hY : ∀ c pre (x : Nat) rest W, J c pre W → slots64 s = pre ++ x :: rest → YieldAt Fence.wide (n - 1) Tryd.prog l #[.int .i64 x] W fun e W' =>
      (e = .returned (.bool true) ∧ J c (pre ++ [x]) W') ∨ (e = .returned (.bool false) ∧ Jx (pre ++ [x]) W'))
    (W : World) (h0 : J s [] W) :
    CallsIn Fence.wide n Tryd.prog 93 #[.func (.yield l) #[] #[], .pointer (some ⟨Bs, 0, none⟩)] W fun e W' => (∃ v, e = .returned v) ∧
      ((∃ c, J c (slots64 s) W') ∨ (∃ pre, pre <+: slots64 s ∧ Jx pre W')) := by
  refine callsIn_of_wp Tryd.func93 rfl trivial ?_ rfl
  simp only [Tryd.ntmps93, List.size_toArray, List.length_cons, List.length_nil, Nat.reduceAdd, Nat.reduceSub, Array.replicate_succ, Array.replicate_zero, List.push_toArray, List.append_toArray, List.nil_append, List.cons_append]
  gi_wp2
  gi_loopw [3] (fun _ wr => ∃ (pre : List Nat) (c : Nat), c < 18446744073709551616 ∧ slots64 s = pre ++ slots64 c ∧ J c pre wr)
    (fun _ wr => match wr.cell? ⟨Bs, 0, none⟩ with | some (.int _ c) => (slots64 c.toNat).length | _ => 0)
  case atStart => exact ⟨[], s, hs, rfl, h0⟩
  case round =>
    obtain ⟨pre, c, hc, hx, hJc⟩ := hrel
    obtain ⟨hq0, hq1, hq2⟩ := hJ c pre wr hJc
    by_cases hz : c = 0
    · subst hz
      gi_wp2
      go_end0
      exact ⟨⟨_, rfl⟩, .inl ⟨0, by rw [hx, slots64_zero]; simpa using hJc⟩⟩
    · obtain ⟨hk, hlt, hf⟩ := bits_next c hz hc
      have hx2 : slots64 s = pre ++ Lib.ctz 64 c :: slots64 (c &&& (c - 1)) := by rw [hx]; unfold slots64; rw [hf]
      have hz0 : ((c : Int) != 0) = true := by simp; omega
      have hlen : (slots64 c).length = (slots64 (c &&& (c - 1))).length + 1 := by unfold slots64; rw [hf]; rfl
      obtain ⟨fn, tmps, assign, body, hy, hR⟩ := hY c pre _ _ wr hJc hx2
      have HX := Lib.hid hx; have HX2 := Lib.hid hx2; have HF := Lib.hid hf; have HLEN := Lib.hid hlen; have HZ := Lib.hid hz
      clear hx hx2 hf hlen hz
      gi_wp2
      refine ⟨trivial, (fun h => by cases h), ?_⟩
      refine (callsIn_wide.2 (bits_TrailingZeros64 c HZ.out hc _ hq2)).mono ?_
      rintro e w' ⟨rfl, rfl⟩
      gi_wp2
      refine ⟨(fun h => by cases h), ?_⟩
      refine hR.mono ?_
      have hand : bits .and .u64 (c : Int) ((c : Int) - 1) = ((c &&& (c - 1) : Nat) : Int) := by
        rw [show (c : Int) - 1 = ((c - 1 : Nat) : Int) by have := HZ.out; omega]; exact u64_and_nat c (c - 1) hc (by omega)
      have hc1 : 1 ≤ c := by have := HZ.out; omega
      rintro e W3 (⟨rfl, hJ3⟩ | ⟨rfl, hJx3⟩)
      · obtain ⟨hr0, hr1, hr2⟩ := hJ c _ W3 hJ3
        have HQ := Lib.hid hq0
        clear hq0 hq1 hq2
        gi_wp2
        go_roundw
        case rel => exact ⟨_, c &&& (c - 1), hlt, by rw [HX2.out]; simp, hJs _ _ _ _ hJ3⟩
        case measure =>
          rw [cell?_setCell_self, hr0, HQ.out]; simp only [Option.map_some, Int.toNat_natCast]; rw [HLEN.out]; omega
      · clear hq0 hq1 hq2
        gi_wp2
        refine bodyPost_ret (results_none rfl _ _ _) rfl ?_
        exact ⟨⟨_, rfl⟩, .inr ⟨_, ⟨_, by rw [HX2.out]; simp; rfl⟩, hJx3⟩⟩
end Go.Proofs.YtodgcmakdndbfaaDoor
