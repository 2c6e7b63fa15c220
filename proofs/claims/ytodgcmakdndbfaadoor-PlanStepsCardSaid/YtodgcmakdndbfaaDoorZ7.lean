/-
  Parts of a proof: Ros1, Ros2, Ros3. Merged by program.
-/
import Derived.Test.YtodgcmakdndbfaaDoorZ6
/-
  Contracts: roster.Taken, coterieref09.Taken (coterieref08.Word), seats.Count, coterieref08.Count.
-/
namespace Go.Proofs.YtodgcmakdndbfaaDoor
open Go.RowKit Cot
set_option linter.unusedSimpArgs false
set_option linter.unusedVariables false
theorem or_step64 (p : Nat → Bool) (k : Nat) (hk : k < 64) (hp : p k = true) : bits .or .u64 (bitsOf p k : Int) ((2 : Int) ^ k % 18446744073709551616) = ((bitsOf p (k + 1) : Nat) : Int) := by
  have h2 : 2 ^ k < 18446744073709551616 := Nat.lt_of_lt_of_le (Nat.pow_lt_pow_right (by omega) hk) (by omega)
  have e : (2 : Int) ^ k % 18446744073709551616 = ((2 ^ k : Nat) : Int) := by
    have : (2 : Int) ^ k = ((2 ^ k : Nat) : Int) := by simp
    rw [this]; exact Int.emod_eq_of_lt (Int.natCast_nonneg _) (Int.ofNat_lt.2 h2)
  have h3 : bitsOf p k < 18446744073709551616 := Nat.lt_of_lt_of_le (bitsOf_lt p k) (Nat.le_trans (Nat.pow_le_pow_right (by omega) (show k ≤ 64 by omega)) (by omega))
  rw [e, u64_or_nat _ _ h3 h2, or_bit, bitsOf_yes hp]
theorem takenP_bne (r : Nat → Entry) (j : Nat) : ((r j).base != 0) = takenP r j := by unfold takenP; by_cases h : (r j).base = 0 <;> simp [h]
set_option maxHeartbeats 800000 in
theorem roster_Taken (r : Nat → Entry) (w : World) : Calls Tryd.prog 53 #[.agg (rosterC r)] w fun e w' => e = .returned (.int .u64 (takenN r)) ∧ Below w.heap.size w w' := by
  go_enter Tryd.func53, Tryd.ntmps53
  go_wp2
  go_loopw [3, 4, 5, 7] (fun s _ _ i wr => ∃ n : Nat, n ≤ 64 ∧ i = .int .i64 n ∧ s = .int .u64 (bitsOf (takenP r) n) ∧ Below w.heap.size w wr) (fun _ _ _ i _ => 64 - (intOf i).toNat)
  case atStart => exact ⟨0, by omega, rfl, rfl, bAlloc (Below.refl _ _) _⟩
  case round =>
    obtain ⟨n, hn, rfl, rfl, hbel⟩ := hrel
    by_cases hlt : n < 64
    · have hlt' : (n : Int) < 64 := by omega
      by_cases h0 : (r n).base = 0
      · have h0' : ((r n).base != 0) = false := by simpa using h0
        have hp : takenP r n = false := by simp [takenP, h0]
        have HP := Lib.hid hp; clear hp h0
        go_wp2
        go_roundw
        case rel => exact ⟨n + 1, by omega, by go_num, by rw [bitsOf_no HP.out], bAlloc hbel _⟩
        case measure => simp [intOf]; omega
      · have h0' : ((r n).base != 0) = true := by simpa using h0
        have hp : takenP r n = true := by simp [takenP, h0]
        have HP := Lib.hid hp; clear hp h0
        go_wp2
        go_roundw
        case rel => exact ⟨n + 1, by omega, by go_num, by rw [show IntKind.u64.wrap ((2 : Int) ^ n) = (2 : Int) ^ n % 18446744073709551616 from IntKind.wrap_u64 _, or_step64 _ n hlt HP.out], bAlloc hbel _⟩
        case measure => simp [intOf]; omega
    · have h64 : n = 64 := by omega
      have hge : (64 : Int) ≤ (n : Int) := by omega
      have HE := Lib.hid h64; clear h64 hlt hn
      go_wp2
      go_ret
      exact ⟨by rw [HE.out]; rfl, hbel⟩
/-- The set of the first n places, from the high end. -/
def hiBits (p : Nat → Bool) (n k : Nat) : Nat := bitsOf (fun i => p (n - k + i)) k
theorem bitsOf_low (p : Nat → Bool) : ∀ n, bitsOf p (n + 1) = 2 * bitsOf (fun i => p (i + 1)) n + (if p 0 then 1 else 0)
  | 0 => by simp [bitsOf]
  | n + 1 => by
    show bitsOf p (n + 1) + _ = 2 * (bitsOf _ n + _) + _
    rw [bitsOf_low p n]
    split <;> rename_i h1 <;> simp only [h1] <;> split <;> simp [Nat.pow_succ] <;> omega
set_option maxHeartbeats 800000 in
theorem ref08_Word (p : Nat → Bool) (w : World) : Calls Tryd.prog 38 #[.agg (boolsC p)] w fun e w' => e = .returned (.int .u64 (bitsOf p 64)) ∧ Below w.heap.size w w' := by
  go_enter Tryd.func38, Tryd.ntmps38
  go_wp2
  go_loopw [3, 4] (fun s i wr => ∃ n : Nat, n ≤ 64 ∧ i = .int .i64 ((n : Int) - 1) ∧ s = .int .u64 (bitsOf (fun i => p (n + i)) (64 - n)) ∧ Below (w.alloc (.cells (boolsC p) 84)).heap.size (w.alloc (.cells (boolsC p) 84)) wr) (fun _ i _ => (intOf i + 1).toNat)
  case atStart => exact ⟨64, by omega, rfl, rfl, Below.refl _ _⟩
  case round =>
    obtain ⟨n, hn, rfl, rfl, hbel⟩ := hrel
    obtain ⟨bc, bf, ba, br, bz⟩ := bFacts hbel
    have hc0 := fun o => bc w.heap.size o (by simp)
    have hf0 := fun o => bf w.heap.size o (by simp)
    clear bc bf ba br bz
    by_cases hlt : n = 0
    · subst hlt
      go_wp2
      go_ret
      exact ⟨by simp, bCall' hbel (bAlloc (Below.refl _ _) _)⟩
    · obtain ⟨m, rfl⟩ : ∃ m, n = m + 1 := ⟨n - 1, by omega⟩
      have hm : m < 64 := by omega
      have hm' : (m : Int) < 64 := by omega
      have e1 : ((m + 1 : Nat) : Int) - 1 = (m : Int) := by omega
      have hs : bitsOf (fun i => p (m + i)) (64 - m) = 2 * bitsOf (fun i => p (m + 1 + i)) (64 - (m + 1)) + (if p m then 1 else 0) := by
        rw [show 64 - m = (64 - (m + 1)) + 1 by omega, bitsOf_low]
        simp only [Nat.add_zero]
        congr 2
        apply bitsOf_congr
        intro i hi
        rw [show m + (i + 1) = m + 1 + i by omega]
      have hlt2 : bitsOf (fun i => p (m + 1 + i)) (64 - (m + 1)) * 2 + 1 < 18446744073709551616 := by
        have h1 := bitsOf_lt (fun i => p (m + 1 + i)) (64 - (m + 1))
        have h2 : 2 ^ (64 - (m + 1)) * 2 ≤ 2 ^ 64 := by rw [← Nat.pow_succ]; exact Nat.pow_le_pow_right (by omega) (by omega)
        omega
      generalize bitsOf (fun i => p (m + 1 + i)) (64 - (m + 1)) = S at *
      have hS : (S : Int) * 2 + 1 < 18446744073709551616 := by omega
      have HS := Lib.hid hs
      rw [e1]
      clear hs hlt2 hlt hn e1
      cases hp : p m
      · have HP := Lib.hid hp
        go_wp2
        go_roundw
        case rel => exact ⟨m, by omega, by go_num, by rw [HS.out, HP.out]; simp; omega, hbel⟩
        case measure => simp [intOf]
      · have HP := Lib.hid hp
        go_wp2
        go_roundw
        case rel => exact ⟨m, by omega, by go_num, by rw [HS.out, HP.out]; simp; omega, hbel⟩
        case measure => simp [intOf]
set_option maxHeartbeats 800000 in
theorem ref09_Taken (r : Nat → Entry) (w : World) : Calls Tryd.prog 21 #[.agg (rosterC r)] w fun e w' => e = .returned (.int .u64 (takenN r)) ∧ Below w.heap.size w w' := by
  go_enter Tryd.func21, Tryd.ntmps21
  go_wp2
  go_loopw [4] (fun i wr => ∃ n : Nat, n ≤ 64 ∧ i = .int .i64 n ∧ (∃ p : Nat → Bool, Blk wr (w.heap.size + 1) (boolsC p) 84 ∧ (∀ j, j < n → p j = takenP r j)) ∧ Below (w.alloc (.cells (rosterC r) 29)).heap.size (w.alloc (.cells (rosterC r) 29)) wr) (fun i _ => 64 - (intOf i).toNat)
  case atStart =>
    have hB := Blk.new (w.alloc (.cells (rosterC r) 29)) (boolsC bools0) 84
    rw [World.size_alloc] at hB
    exact ⟨0, by omega, rfl, ⟨bools0, hB, by omega⟩, bAlloc (Below.refl _ _) _⟩
  case round =>
    obtain ⟨n, hn, rfl, ⟨p, hB, hp⟩, hbel⟩ := hrel
    obtain ⟨bc, bf, ba, br, bz⟩ := bFacts hbel
    have hc0 := fun o => bc w.heap.size o (by simp)
    have hf0 := fun o => bf w.heap.size o (by simp)
    have hc1 := hB.cell
    have hf1 := hB.frozen
    have ha1 := hB.at
    clear bc bf ba br bz
    have HB := Lib.hid hB
    have HP := Lib.hid hp
    clear hB hp
    by_cases hlt : n < 64
    · have hlt' : (n : Int) < 64 := by omega
      go_wp2
      go_roundw
      case rel => exact ⟨n + 1, by omega, by go_num, ⟨_, HB.out.boo n hlt ((r n).base != 0), fun j hj => by
          by_cases h : j = n
          · subst h; rw [upd_same]; exact takenP_bne r j
          · rw [upd_other _ _ _ h]; exact HP.out j (by omega)⟩, bSet hbel (by simp) _⟩
      case measure => simp [intOf]; omega
    · have h64 : n = 64 := by omega
      have hge : (64 : Int) ≤ (n : Int) := by omega
      have hq : bitsOf p 64 = takenN r := bitsOf_congr (fun j hj => HP.out j (by omega))
      have HE := Lib.hid hq; clear h64 hlt hn hq
      go_wp2_with (go_at_call 38; refine (ref08_Word _ _).mono ?_; rintro e w' ⟨rfl, hb⟩)
      go_ret
      exact ⟨by rw [HE.out] <;> rfl, bCall' hb (bCall' hbel (bAlloc (Below.refl _ _) _))⟩
theorem seats_Count (x : Nat) (hx : x < 18446744073709551616) (w : World) : Calls Tryd.prog 72 #[.int .u64 x] w fun e w' => e = .returned (.int .i64 (popN 64 x)) ∧ w = w' := by
  go_enter Tryd.func72, Tryd.ntmps72
  go_wp2_with (go_at_call 88; refine (bits_OnesCount64 x hx _).mono ?_; rintro e w' ⟨rfl, rfl⟩)
  go_ret
  exact ⟨rfl, rfl⟩
/-! the places of a set -/
theorem odd_dec (S : Nat) : ((S : Int) % 2 == 1) = decide (S % 2 = 1) := by
  by_cases h : S % 2 = 1
  · rw [decide_eq_true h, show ((S : Int) % 2) = 1 by omega]; rfl
  · rw [decide_eq_false h]; simp; omega

set_option maxHeartbeats 800000 in
theorem ref08_Places (x : Nat) (hx : x < 18446744073709551616) (w : World) : Calls Tryd.prog 61 #[.int .u64 x] w fun e w' => e = .returned (.agg (boolsC x.testBit)) ∧ Below w.heap.size w w' := by
  go_enter Tryd.func61, Tryd.ntmps61
  go_wp2
  go_loopw [0, 4] (fun s i wr => ∃ n : Nat, n ≤ 64 ∧ i = .int .i64 n ∧ s = .int .u64 ((x / 2 ^ n : Nat) : Int) ∧ (∃ p : Nat → Bool, Blk wr (w.heap.size + 1) (boolsC p) 84 ∧ (∀ j, j < n → p j = x.testBit j)) ∧ Below (w.alloc (.cells (boolsC bools0) 84)).heap.size (w.alloc (.cells (boolsC bools0) 84)) wr) (fun _ i _ => 64 - (intOf i).toNat)
  case atStart =>
    have hB := Blk.new (w.alloc (.cells (boolsC bools0) 84)) (boolsC bools0) 84
    rw [World.size_alloc] at hB
    exact ⟨0, by omega, rfl, by simp, ⟨bools0, hB, by omega⟩, bAlloc (Below.refl _ _) _⟩
  case round =>
    obtain ⟨n, hn, rfl, rfl, ⟨p, hB, hp⟩, hbel⟩ := hrel
    obtain ⟨bc, bf, ba, br, bz⟩ := bFacts hbel
    have hr0 := fun o => br w.heap.size o (by simp)
    have hz0 := bz w.heap.size (by simp)
    have hc1 := hB.cell
    have hf1 := hB.frozen
    have ha1 := hB.at
    clear bc bf ba br bz
    have HB := Lib.hid hB
    have HP := Lib.hid hp
    clear hB hp
    by_cases hlt : n < 64
    · have hlt' : (n : Int) < 64 := by omega
      have hd : x / 2 ^ n ≤ x := Nat.div_le_self _ _
      have hb : x.testBit n = decide (x / 2 ^ n % 2 = 1) := by rw [Nat.testBit_eq_decide_div_mod_eq]
      have hs : x / 2 ^ (n + 1) = x / 2 ^ n / 2 := by rw [Nat.pow_succ, Nat.div_div_eq_div_mul]
      generalize x / 2 ^ n = S at *
      have hS : (S : Int) < 18446744073709551616 := by omega
      have HS := Lib.hid hs
      have HBt := Lib.hid hb
      clear hs hb hd
      go_wp2
      go_roundw
      case rel => exact ⟨n + 1, by omega, by go_num, by rw [HS.out]; simp, ⟨_, HB.out.boo n hlt _, fun j hj => by
          by_cases h : j = n
          · subst h; rw [upd_same, HBt.out]; exact odd_dec S
          · rw [upd_other _ _ _ h]; exact HP.out j (by omega)⟩, bSet hbel (by simp) _⟩
      case measure => simp [intOf]; omega
    · have h64 : n = 64 := by omega
      have hge : (64 : Int) ≤ (n : Int) := by omega
      have hq : boolsC p = boolsC x.testBit := boolsC_congr (fun j hj => HP.out j (by omega))
      have HE := Lib.hid hq; clear h64 hlt hn hq
      have HB0 : Blk wr w.heap.size (boolsC bools0) 84 := (Blk.new w (boolsC bools0) 84).kept hbel (by simp)
      have hat := (HB0.setRow (boolsC p)).at 0 64
      rw [cellsIn_bools] at hat
      clear HB0
      go_wp2
      exact bodyPost_ret (v := .agg (boolsC p)) (by simp [results, Tryd.results61, Sem.run_bind, asAddr, loadVar_bools, ldV_bools, hat]) rfl ⟨by rw [HE.out], below_setRow (bCall' hbel (bAlloc (Below.refl _ _) _)) (Nat.le_refl _) _⟩
end Go.Proofs.YtodgcmakdndbfaaDoor
/-
  Contracts: coterieref08.List, Count. What is appended to slices of the call's own.
-/
namespace Go.Proofs.YtodgcmakdndbfaaDoor
open Go.RowKit Cot
set_option linter.unusedSimpArgs false
set_option linter.unusedVariables false
theorem info_int : (Tryd.prog.info? 3).map (fun i => (i.zero, i.size, i.bytes)) = some (some (.int .i64 0), 1, 8) := by kernel_rfl
theorem ownV {w : World} {base : Nat} {e : TypeId} {size : Nat} {v : Value} {n : Nat} {xs : List Value} (h : w.ownsRow base e size v n xs) : ∃ ao cap, v = .slice ao n cap := by
  rcases h.2 with ⟨rfl, rfl⟩ | ⟨g, cap, cur, rfl, _⟩
  · exact ⟨none, 0, rfl⟩
  · exact ⟨_, cap, rfl⟩
theorem bGrow {B : Nat} {a w w1 : World} {base : Nat} {e : TypeId} {size : Nat} {v : Value} {n : Nat} {xs : List Value} (h : Below B a w) (hown : w.ownsRow base e size v n xs) (hB : B ≤ base) (hs : B ≤ w.heap.size) {o : Obj} (hg : (w.alloc o).grownBy w1 v.ownBlock) : Below B a w1 :=
  (h.alloc hs o).grown hg (by simp; omega) (fun k hk => Nat.le_trans hB (hown.lt k hk).1)
theorem one_cell_at (w : World) (t : TypeId) (x : Value) : ∀ j u, [x][j]? = some u → (w.alloc (.cells #[x] t)).cell? ((⟨w.heap.size, 0, none⟩ : Addr).add j) = some u := by
  intro j u hj
  match j, hj with
  | 0, hj => simp at hj; subst hj; simp [Addr.add, World.cell?_alloc_at]
theorem one_cell (n : Int) : ∀ u ∈ [I n], u.oneCell' = true := by intro u hu; simp at hu; subst hu; rfl
/-- The places in the set, rising. -/
def slotsL (p : Nat → Bool) (n : Nat) : List Nat := (List.range n).filter p
theorem slotsL_yes {p : Nat → Bool} {n : Nat} (h : p n = true) : slotsL p (n + 1) = slotsL p n ++ [n] := by
  unfold slotsL; rw [List.range_succ, List.filter_append]; simp [h]
theorem slotsL_no {p : Nat → Bool} {n : Nat} (h : p n = false) : slotsL p (n + 1) = slotsL p n := by
  unfold slotsL; rw [List.range_succ, List.filter_append]; simp [h]
theorem slotsL_len (p : Nat → Bool) : ∀ n, (slotsL p n).length = cntOf p n
  | 0 => rfl
  | n + 1 => by
    cases h : p n
    · rw [slotsL_no h, slotsL_len p n]; show _ = cntOf p n + _; rw [if_neg (by simp [h])]; rfl
    · rw [slotsL_yes h, List.length_append, slotsL_len p n]
      show _ = cntOf p n + _
      rw [if_pos h]; rfl
set_option maxHeartbeats 800000 in
theorem ref08_List (x : Nat) (hx : x < 18446744073709551616) (w : World) : Calls Tryd.prog 37 #[.int .u64 x] w fun e w' => (∃ ao cap, e = .returned (.slice ao (popN 64 x) cap)) ∧ Below w.heap.size w w' := by
  obtain ⟨i0, hi, hz0, hz1, hz2⟩ := info_parts info_int
  go_enter Tryd.func37, Tryd.ntmps37
  go_wp2_with (go_at_call 61; refine (ref08_Places x hx _).mono ?_; rintro e w1 ⟨rfl, hb⟩)
  go_loopw [4, 5] (fun v i wr => ∃ n : Nat, n ≤ 64 ∧ i = .int .i64 n ∧ wr.ownsRow (w1.heap.size + 1) 3 1 v (slotsL x.testBit n).length ((slotsL x.testBit n).map fun (k : Nat) => I (k : Int)) ∧ Below (w1.alloc (.cells (boolsC x.testBit) 84)).heap.size (w1.alloc (.cells (boolsC x.testBit) 84)) wr) (fun _ i _ => 64 - (intOf i).toNat)
  case atStart => exact ⟨0, by omega, rfl, World.ownsRow_nil _ _ _ _, Below.refl _ _⟩
  case round =>
    obtain ⟨n, hn, rfl, hown, hbel⟩ := hrel
    obtain ⟨bc, bf, ba, br, bz⟩ := bFacts hbel
    have hc0 := fun o => bc w1.heap.size o (by simp)
    have hf0 := fun o => bf w1.heap.size o (by simp)
    have hz := bz w1.heap.size (by simp)
    have hl : (slotsL x.testBit n).length ≤ 64 := by rw [slotsL_len]; have := cntOf_le x.testBit n; omega
    clear bc bf ba br bz
    by_cases hlt : n < 64
    · have hlt' : (n : Int) < 64 := by omega
      cases hp : x.testBit n
      · have HP := Lib.hid hp
        have HO := Lib.hid hown; clear hown
        go_wp2
        go_roundw
        case rel => exact ⟨n + 1, by omega, by go_num, by rw [slotsL_no HP.out]; exact HO.out, hbel⟩
        case measure => simp [intOf]; omega
      · have HP := Lib.hid hp
        have HO := Lib.hid hown; clear hown
        have hsz := hbel.size
        rw [World.size_alloc] at hsz
        go_wp2_with (at_builtin; refine wpList_append_own _ rfl _ _ 32 rfl (w1.heap.size + 1) 3 i0 (.int .i64 0) 1 8 Tryd.underlying32 hi hz0 hz1 hz2 rfl (by decide) _ _ _ rfl (HO.out.alloc _) ⟨wr.heap.size, 0, none⟩ 1 1 [I (n : Int)] rfl rfl (one_cell_at _ _ _) (one_cell _) (by unfold maxLen; omega) (by omega) (by simp; omega) ?_; intro v' w2 hown' hgrow _)
        have hb2 := bGrow hbel HO.out (by simp) hbel.size hgrow
        go_roundw
        case rel => exact ⟨n + 1, by omega, by go_num, by rw [slotsL_yes HP.out, List.length_append, List.map_append]; exact hown', hb2⟩
        case measure => simp [intOf]; omega
    · have h64 : n = 64 := by omega
      have hge : (64 : Int) ≤ (n : Int) := by omega
      obtain ⟨ao, cap, rfl⟩ := ownV hown
      have hq : (slotsL x.testBit n).length = popN 64 x := by rw [slotsL_len, h64]; rfl
      generalize (slotsL x.testBit n).length = q at *
      have HE := Lib.hid hq
      clear h64 hlt hn hown hc0 hf0 hl hq hi hz0 hz1 hz2 hx
      go_wp2
      go_ret
      exact ⟨⟨ao, cap, by rw [HE.out]; rfl⟩, bCall' hbel (bAlloc (bCall' hb (Below.refl _ _)) _)⟩
theorem ref08_Count (x : Nat) (hx : x < 18446744073709551616) (w : World) : Calls Tryd.prog 20 #[.int .u64 x] w fun e w' => e = .returned (.int .i64 (popN 64 x)) ∧ Below w.heap.size w w' := by
  go_enter Tryd.func20, Tryd.ntmps20
  go_wp2_with (go_at_call 37; refine (ref08_List x hx _).mono ?_; rintro e w' ⟨⟨ao, cap, rfl⟩, hb⟩)
  go_ret
  exact ⟨rfl, hb⟩
end Go.Proofs.YtodgcmakdndbfaaDoor
/-
  Contracts: roster.Find, roster.names, coterieref09.Find. Printed by wip/gen/gk.py.
-/
namespace Go.Proofs.YtodgcmakdndbfaaDoor
open Go.RowKit Cot
set_option linter.unusedSimpArgs false
set_option linter.unusedVariables false

/-- The first of 64 places that meets p; -1: none. -/
def firstI (p : Nat → Bool) : Int := match (List.range 64).find? p with | some s => (s : Int) | none => -1
theorem find?_range {p : Nat → Bool} {n : Nat} (hp : p n = true) (hno : ∀ j, j < n → p j = false) : ∀ m, n < m → (List.range m).find? p = some n := by
  intro m hm
  rw [List.find?_eq_some_iff_append]
  refine ⟨hp, List.range n, List.range' (n + 1) (m - n - 1), ?_, fun a ha => by simp [hno a (List.mem_range.1 ha)]⟩
  rw [List.range_eq_range', List.range_eq_range']
  have h1 : List.range' 0 m = List.range' 0 n ++ List.range' n (m - n) := by
    rw [show List.range' n (m - n) = List.range' (0 + 1 * n) (m - n) by simp, List.range'_append]; congr 1; omega
  have h2 : List.range' n (m - n) = n :: List.range' (n + 1) (m - n - 1) := by
    rw [show m - n = (m - n - 1) + 1 by omega, List.range'_succ]; rfl
  rw [h1, h2]
theorem firstI_at {p : Nat → Bool} {n : Nat} (hn : n < 64) (hp : p n = true) (hno : ∀ j, j < n → p j = false) : firstI p = n := by
  unfold firstI; rw [find?_range hp hno 64 hn]
theorem firstI_none {p : Nat → Bool} (hno : ∀ j, j < 64 → p j = false) : firstI p = -1 := by
  unfold firstI
  have : (List.range 64).find? p = none := by
    rw [List.find?_eq_none]; intro x hx; simp [hno x (List.mem_range.1 hx)]
  rw [this]
theorem firstI_cases (p : Nat → Bool) : (∃ n : Nat, n < 64 ∧ firstI p = (n : Int) ∧ p n = true ∧ ∀ j, j < n → p j = false) ∨ (firstI p = -1 ∧ ∀ j, j < 64 → p j = false) := by
  by_cases h : ∃ n : Nat, n < 64 ∧ p n = true
  · obtain ⟨n, hn⟩ := h
    induction n using Nat.strongRecOn with
    | _ n ih =>
      by_cases h2 : ∃ j : Nat, j < n ∧ p j = true
      · obtain ⟨j, hj, hp⟩ := h2; exact ih j hj ⟨by omega, hp⟩
      · refine .inl ⟨n, hn.1, firstI_at hn.1 hn.2 ?_, hn.2, ?_⟩ <;>
        · intro j hj
          cases hp : p j
          · rfl
          · exact absurd ⟨j, hj, hp⟩ h2
  · have h2 : ∀ j, j < 64 → p j = false := fun j hj => by
      cases hp : p j
      · rfl
      · exact absurd ⟨j, hj, hp⟩ h
    exact .inr ⟨firstI_none h2, h2⟩
def whoP (r : Nat → Entry) (who : Int) (s : Nat) : Bool := takenP r s && (r s).who == who
theorem findI_eq (r : Nat → Entry) (who : Int) : findI r who = firstI (whoP r who) := rfl
def whoE (who : Int) (e : Entry) : Bool := e.base != 0 && e.who == who
def nameE (base n : Int) (e : Entry) : Bool := decide (base ≤ e.base) && decide (e.base < base + n)
theorem whoE_eq (r : Nat → Entry) (who : Int) (s : Nat) : whoE who (r s) = whoP r who s := by unfold whoE whoP; rw [takenP_bne]
def namesB (r : Nat → Entry) (base n : Int) : Bool := (List.range 64).any fun s => nameE base n (r s)
set_option maxHeartbeats 800000 in
theorem roster_Find1 (a b c who : Int) (wb : Nat) (w : World) (hw : w.cell? ⟨wb, 0, none⟩ = some (I who)) (hlt : wb < w.heap.size) : Calls Tryd.prog 87 #[.agg #[I a, I b, I c], .pointer (some ⟨wb, 0, none⟩)] w fun e w' => e = .returned (.bool (whoE who ⟨a, b, c⟩)) ∧ Below w.heap.size w w' := by
  by_cases h : b = 0
  · have h' : (b != 0) = false := by simpa using h
    have hv : whoE who ⟨a, b, c⟩ = false := by unfold whoE; rw [h']; rfl
    have HV := Lib.hid hv; clear hv h
    go_enter Tryd.func87, Tryd.ntmps87
    go_wp2
    go_ret
    exact ⟨by rw [HV.out] <;> rfl, bAlloc (Below.refl _ _) _⟩
  · have h' : (b != 0) = true := by simpa using h
    have hv : whoE who ⟨a, b, c⟩ = (a == who) := by unfold whoE; rw [h']; rfl
    have HV := Lib.hid hv; clear hv h
    go_enter Tryd.func87, Tryd.ntmps87
    go_wp2
    go_ret
    exact ⟨by rw [HV.out] <;> rfl, bAlloc (Below.refl _ _) _⟩
set_option maxHeartbeats 800000 in
theorem roster_names1 (a b c base n : Int) (hb1 : 0 ≤ base) (hb2 : base ≤ 65536) (hn1 : 0 ≤ n) (hn2 : n ≤ 65536) (p q : Nat) (w : World) (hp : w.cell? ⟨p, 0, none⟩ = some (I base)) (hq : w.cell? ⟨q, 0, none⟩ = some (I n)) (hlt : p < w.heap.size) (hlt2 : q < w.heap.size) :
    Calls Tryd.prog 90 #[.agg #[I a, I b, I c], .pointer (some ⟨p, 0, none⟩), .pointer (some ⟨q, 0, none⟩)] w fun e w' => e = .returned (.bool (nameE base n ⟨a, b, c⟩)) ∧ Below w.heap.size w w' := by
  by_cases h : base ≤ b
  · have hv : nameE base n ⟨a, b, c⟩ = decide (b < base + n) := by unfold nameE; rw [decide_eq_true (show base ≤ (⟨a, b, c⟩ : Entry).base from h)]; rfl
    have HV := Lib.hid hv; clear hv
    go_enter Tryd.func90, Tryd.ntmps90
    go_wp2
    go_ret
    exact ⟨by rw [HV.out] <;> rfl, bAlloc (Below.refl _ _) _⟩
  · have hv : nameE base n ⟨a, b, c⟩ = false := by unfold nameE; rw [decide_eq_false (show ¬ base ≤ (⟨a, b, c⟩ : Entry).base from h)]; rfl
    have HV := Lib.hid hv; clear hv
    have h' : b < base := by omega
    clear h
    go_enter Tryd.func90, Tryd.ntmps90
    go_wp2
    go_ret
    exact ⟨by rw [HV.out] <;> rfl, bAlloc (Below.refl _ _) _⟩
set_option maxHeartbeats 800000 in
theorem index_Find (r : Nat → Entry) (who : Int) (wb : Nat) (b : Nat) (w : World) (hB : Blk w b (rosterC r) 29) (hw : w.cell? ⟨wb, 0, none⟩ = some (I who)) (hlw : wb < w.heap.size) :
    Calls Tryd.prog 86 #[.slice (some ⟨b, 0, none⟩) 64 64, .func (.func 87) #[] #[.pointer (some ⟨wb, 0, none⟩)]] w fun e w' => e = .returned (.int .i64 (firstI fun s => whoE who (r s))) ∧ Below w.heap.size w w' := by
  go_enter Tryd.func86, Tryd.ntmps86
  go_wp2
  go_loopw [4, 5, 8] (fun _ _ i wr => ∃ n : Nat, n ≤ 64 ∧ i = .int .i64 n ∧ (∀ j, j < n → whoE who (r j) = false) ∧ Below w.heap.size w wr) (fun _ _ i _ => 64 - (intOf i).toNat)
  case atStart => exact ⟨0, by omega, rfl, by omega, Below.refl _ _⟩
  case round =>
    obtain ⟨n, hn, rfl, hno, hbel⟩ := hrel
    have hc0 := fun o => (hB.kept hbel hB.lt).cell o
    have hf0 := fun o => (hB.kept hbel hB.lt).frozen o
    have HNO := Lib.hid hno; clear hno
    by_cases hlt : n < 64
    · have hlt' : (n : Int) < 64 := by omega
      have hlt3 : n * 3 + 3 ≤ 192 := by omega
      cases hp : whoE who (r n)
      · have HP := Lib.hid hp
        have hp2 : whoE who ⟨(r n).who, (r n).base, (r n).since⟩ = false := hp
        clear hp
        go_wp2_with (go_at_call 87; refine (roster_Find1 _ _ _ who wb _ ((hbel.cell (p := ⟨wb, 0, none⟩) hlw).trans hw) (Nat.lt_of_lt_of_le hlw hbel.size)).mono ?_; rintro e w' ⟨rfl, hb⟩; simp only [hp2])
        go_roundw
        case rel => exact ⟨n + 1, by omega, by go_num, fun j hj => by rcases Nat.lt_succ_iff_lt_or_eq.1 hj with h | h; exact HNO.out j h; subst h; exact HP.out, bCall' hb hbel⟩
        case measure => simp [intOf]; omega
      · have hfi := firstI_at hlt (p := fun s => whoE who (r s)) hp HNO.out
        have HF := Lib.hid hfi
        have hp2 : whoE who ⟨(r n).who, (r n).base, (r n).since⟩ = true := hp
        clear hp hfi
        go_wp2_with (go_at_call 87; refine (roster_Find1 _ _ _ who wb _ ((hbel.cell (p := ⟨wb, 0, none⟩) hlw).trans hw) (Nat.lt_of_lt_of_le hlw hbel.size)).mono ?_; rintro e w' ⟨rfl, hb⟩; simp only [hp2])
        go_ret
        exact ⟨by rw [HF.out] <;> rfl, bCall' hb hbel⟩
    · have h64 : n = 64 := by omega
      have hge : (64 : Int) ≤ (n : Int) := by omega
      rw [h64] at HNO
      have hfi := firstI_none (p := fun s => whoE who (r s)) HNO.out
      have HF := Lib.hid hfi
      clear h64 hlt hn hfi
      go_wp2
      go_ret
      exact ⟨by rw [HF.out] <;> rfl, hbel⟩
set_option maxHeartbeats 800000 in
theorem index_names (r : Nat → Entry) (base n' : Int) (hb1 : 0 ≤ base) (hb2 : base ≤ 65536) (hn1 : 0 ≤ n') (hn2 : n' ≤ 65536) (p q : Nat) (b : Nat) (w : World) (hB : Blk w b (rosterC r) 29) (hw : w.cell? ⟨p, 0, none⟩ = some (I base)) (hlw : p < w.heap.size) (hq : w.cell? ⟨q, 0, none⟩ = some (I n')) (hlq : q < w.heap.size) :
    Calls Tryd.prog 86 #[.slice (some ⟨b, 0, none⟩) 64 64, .func (.func 90) #[] #[.pointer (some ⟨p, 0, none⟩), .pointer (some ⟨q, 0, none⟩)]] w fun e w' => e = .returned (.int .i64 (firstI fun s => nameE base n' (r s))) ∧ Below w.heap.size w w' := by
  go_enter Tryd.func86, Tryd.ntmps86
  go_wp2
  go_loopw [4, 5, 8] (fun _ _ i wr => ∃ n : Nat, n ≤ 64 ∧ i = .int .i64 n ∧ (∀ j, j < n → nameE base n' (r j) = false) ∧ Below w.heap.size w wr) (fun _ _ i _ => 64 - (intOf i).toNat)
  case atStart => exact ⟨0, by omega, rfl, by omega, Below.refl _ _⟩
  case round =>
    obtain ⟨n, hn, rfl, hno, hbel⟩ := hrel
    have hc0 := fun o => (hB.kept hbel hB.lt).cell o
    have hf0 := fun o => (hB.kept hbel hB.lt).frozen o
    have HNO := Lib.hid hno; clear hno
    by_cases hlt : n < 64
    · have hlt' : (n : Int) < 64 := by omega
      have hlt3 : n * 3 + 3 ≤ 192 := by omega
      cases hp : nameE base n' (r n)
      · have HP := Lib.hid hp
        have hp2 : nameE base n' ⟨(r n).who, (r n).base, (r n).since⟩ = false := hp
        clear hp
        go_wp2_with (go_at_call 90; refine (roster_names1 _ _ _ base n' hb1 hb2 hn1 hn2 p q _ ((hbel.cell (p := ⟨p, 0, none⟩) hlw).trans hw) ((hbel.cell (p := ⟨q, 0, none⟩) hlq).trans hq) (Nat.lt_of_lt_of_le hlw hbel.size) (Nat.lt_of_lt_of_le hlq hbel.size)).mono ?_; rintro e w' ⟨rfl, hb⟩; simp only [hp2])
        go_roundw
        case rel => exact ⟨n + 1, by omega, by go_num, fun j hj => by rcases Nat.lt_succ_iff_lt_or_eq.1 hj with h | h; exact HNO.out j h; subst h; exact HP.out, bCall' hb hbel⟩
        case measure => simp [intOf]; omega
      · have hfi := firstI_at hlt (p := fun s => nameE base n' (r s)) hp HNO.out
        have HF := Lib.hid hfi
        have hp2 : nameE base n' ⟨(r n).who, (r n).base, (r n).since⟩ = true := hp
        clear hp hfi
        go_wp2_with (go_at_call 90; refine (roster_names1 _ _ _ base n' hb1 hb2 hn1 hn2 p q _ ((hbel.cell (p := ⟨p, 0, none⟩) hlw).trans hw) ((hbel.cell (p := ⟨q, 0, none⟩) hlq).trans hq) (Nat.lt_of_lt_of_le hlw hbel.size) (Nat.lt_of_lt_of_le hlq hbel.size)).mono ?_; rintro e w' ⟨rfl, hb⟩; simp only [hp2])
        go_ret
        exact ⟨by rw [HF.out] <;> rfl, bCall' hb hbel⟩
    · have h64 : n = 64 := by omega
      have hge : (64 : Int) ≤ (n : Int) := by omega
      rw [h64] at HNO
      have hfi := firstI_none (p := fun s => nameE base n' (r s)) HNO.out
      have HF := Lib.hid hfi
      clear h64 hlt hn hfi
      go_wp2
      go_ret
      exact ⟨by rw [HF.out] <;> rfl, hbel⟩
set_option maxHeartbeats 800000 in
theorem roster_Find (r : Nat → Entry) (who : Int) (w : World) : Calls Tryd.prog 71 #[.agg (rosterC r), .int .i64 who] w fun e w' => e = .returned (.int .i64 (findI r who)) ∧ Below w.heap.size w w' := by
  have hv : (firstI fun s => whoE who (r s)) = findI r who := by rw [findI_eq]; congr 1; funext s; exact whoE_eq r who s
  have HV := Lib.hid hv; clear hv
  have hB := (Blk.new w (rosterC r) 29).alloc (.cells #[I who] 3)
  go_enter Tryd.func71, Tryd.ntmps71
  go_wp2_with (go_at_call 86; refine (index_Find r who (w.heap.size + 1) w.heap.size _ hB (by simp) (by simp)).mono ?_; rintro e w' ⟨rfl, hb⟩)
  go_ret
  exact ⟨by rw [HV.out] <;> rfl, bCall' hb (bAlloc (bAlloc (Below.refl _ _) _) _)⟩
set_option maxHeartbeats 800000 in
theorem ref09_Find (r : Nat → Entry) (who : Int) (w : World) : Calls Tryd.prog 19 #[.agg (rosterC r), .int .i64 who] w fun e w' => e = .returned (.int .i64 (findI r who)) ∧ Below w.heap.size w w' := by
  go_enter Tryd.func19, Tryd.ntmps19
  go_wp2
  go_loopw [5] (fun i wr => ∃ n : Nat, n ≤ 64 ∧ i = .int .i64 n ∧ (∀ j, j < n → whoP r who j = false) ∧ wr = w.alloc (.cells (rosterC r) 29)) (fun i _ => 64 - (intOf i).toNat)
  case atStart => exact ⟨0, by omega, rfl, by omega, rfl⟩
  case round =>
    obtain ⟨n, hn, rfl, hno, rfl⟩ := hrel
    have HNO := Lib.hid hno; clear hno
    by_cases hlt : n < 64
    · have hlt' : (n : Int) < 64 := by omega
      by_cases h0 : (r n).base = 0
      · have h0' : ((r n).base != 0) = false := by simpa using h0
        have hp : whoP r who n = false := by unfold whoP; rw [← takenP_bne, h0']; rfl
        have HP := Lib.hid hp; clear hp h0
        go_wp2
        go_roundw
        case rel => exact ⟨n + 1, by omega, by go_num, fun j hj => by rcases Nat.lt_succ_iff_lt_or_eq.1 hj with h | h; exact HNO.out j h; subst h; exact HP.out, by first | rfl | trivial⟩
        case measure => simp [intOf]; omega
      · have h0' : ((r n).base != 0) = true := by simpa using h0
        have hp : whoP r who n = ((r n).who == who) := by unfold whoP; rw [← takenP_bne, h0']; rfl
        by_cases h1 : (r n).who = who
        · have h1' : ((r n).who == who) = true := by simpa using h1
          rw [h1'] at hp
          have hfi := firstI_at hlt hp HNO.out
          have HF := Lib.hid hfi; clear hfi hp h1 h0
          go_wp2
          go_ret
          exact ⟨by rw [findI_eq, HF.out] <;> rfl, bAlloc (Below.refl _ _) _⟩
        · have h1' : ((r n).who == who) = false := by simpa using h1
          rw [h1'] at hp
          have HP := Lib.hid hp; clear hp h1 h0
          go_wp2
          go_roundw
          case rel => exact ⟨n + 1, by omega, by go_num, fun j hj => by rcases Nat.lt_succ_iff_lt_or_eq.1 hj with h | h; exact HNO.out j h; subst h; exact HP.out, by first | rfl | trivial⟩
          case measure => simp [intOf]; omega
    · have h64 : n = 64 := by omega
      have hge : (64 : Int) ≤ (n : Int) := by omega
      rw [h64] at HNO
      have hfi := firstI_none HNO.out
      have HF := Lib.hid hfi
      clear h64 hlt hn hfi
      go_wp2
      go_ret
      exact ⟨by rw [findI_eq, HF.out] <;> rfl, bAlloc (Below.refl _ _) _⟩
end Go.Proofs.YtodgcmakdndbfaaDoor
