/-
  Parts of a proof: Key, Check1, Check2, Key2. Merged by program.
-/
import Derived.Test.YtodgcmakdndbfaaDoorZ3
/-
  Contracts: goodness of keys and entries. Printed by wip/gen/gk.py.
-/
namespace Go.Proofs.YtodgcmakdndbfaaDoor
open Go.RowKit Cot
set_option linter.unusedSimpArgs false
set_option linter.unusedVariables false
set_option maxHeartbeats 800000 in
theorem key_Good (b s : Int) (w : World) : Calls Tryd.prog 77 #[.agg #[I b, I s]] w fun e w' => e = .returned (.bool (decide (goodK ⟨b, s⟩))) ∧ Below w.heap.size w w' := by
  unfold goodK
  by_cases hc0 : 1 ≤ b
  rotate_left
  · go_enter Tryd.func77, Tryd.ntmps77
    go_wp2
    go_ret
    exact ⟨ret_bool (by first | exact (decide_eq_true (by omega)).symm | exact (decide_eq_false (by omega)).symm | exact decide_eq_decide.2 (by omega) | (simp; omega)), bAlloc (Below.refl _ _) _⟩
  by_cases hc1 : b ≤ 65535
  rotate_left
  · go_enter Tryd.func77, Tryd.ntmps77
    go_wp2
    go_ret
    exact ⟨ret_bool (by first | exact (decide_eq_true (by omega)).symm | exact (decide_eq_false (by omega)).symm | exact decide_eq_decide.2 (by omega) | (simp; omega)), bAlloc (Below.refl _ _) _⟩
  by_cases hc2 : 0 ≤ s
  rotate_left
  · go_enter Tryd.func77, Tryd.ntmps77
    go_wp2
    go_ret
    exact ⟨ret_bool (by first | exact (decide_eq_true (by omega)).symm | exact (decide_eq_false (by omega)).symm | exact decide_eq_decide.2 (by omega) | (simp; omega)), bAlloc (Below.refl _ _) _⟩
  by_cases hc3 : s ≤ 255
  rotate_left
  · go_enter Tryd.func77, Tryd.ntmps77
    go_wp2
    go_ret
    exact ⟨ret_bool (by first | exact (decide_eq_true (by omega)).symm | exact (decide_eq_false (by omega)).symm | exact decide_eq_decide.2 (by omega) | (simp; omega)), bAlloc (Below.refl _ _) _⟩
  go_enter Tryd.func77, Tryd.ntmps77
  go_wp2
  go_ret
  exact ⟨ret_bool (by first | exact (decide_eq_true (by omega)).symm | exact (decide_eq_false (by omega)).symm | exact decide_eq_decide.2 (by omega) | (simp; omega)), bAlloc (Below.refl _ _) _⟩
set_option maxHeartbeats 800000 in
theorem ref02_Good (b s : Int) (w : World) : Calls Tryd.prog 59 #[.agg #[I b, I s]] w fun e w' => e = .returned (.bool (decide (goodK ⟨b, s⟩))) ∧ Below w.heap.size w w' := by
  unfold goodK
  by_cases hc0 : 1 ≤ b
  rotate_left
  · go_enter Tryd.func59, Tryd.ntmps59
    go_wp2
    go_ret
    exact ⟨ret_bool (by first | exact (decide_eq_true (by omega)).symm | exact (decide_eq_false (by omega)).symm | exact decide_eq_decide.2 (by omega) | (simp; omega)), bAlloc (Below.refl _ _) _⟩
  by_cases hc1 : b ≤ 65535
  rotate_left
  · go_enter Tryd.func59, Tryd.ntmps59
    go_wp2
    go_ret
    exact ⟨ret_bool (by first | exact (decide_eq_true (by omega)).symm | exact (decide_eq_false (by omega)).symm | exact decide_eq_decide.2 (by omega) | (simp; omega)), bAlloc (Below.refl _ _) _⟩
  by_cases hc2 : 0 ≤ s
  rotate_left
  · go_enter Tryd.func59, Tryd.ntmps59
    go_wp2
    go_ret
    exact ⟨ret_bool (by first | exact (decide_eq_true (by omega)).symm | exact (decide_eq_false (by omega)).symm | exact decide_eq_decide.2 (by omega) | (simp; omega)), bAlloc (Below.refl _ _) _⟩
  by_cases hc3 : s ≤ 255
  rotate_left
  · go_enter Tryd.func59, Tryd.ntmps59
    go_wp2
    go_ret
    exact ⟨ret_bool (by first | exact (decide_eq_true (by omega)).symm | exact (decide_eq_false (by omega)).symm | exact decide_eq_decide.2 (by omega) | (simp; omega)), bAlloc (Below.refl _ _) _⟩
  go_enter Tryd.func59, Tryd.ntmps59
  go_wp2
  go_ret
  exact ⟨ret_bool (by first | exact (decide_eq_true (by omega)).symm | exact (decide_eq_false (by omega)).symm | exact decide_eq_decide.2 (by omega) | (simp; omega)), bAlloc (Below.refl _ _) _⟩
set_option maxHeartbeats 800000 in
theorem roster_right (a b c : Int) (w : World) : Calls Tryd.prog 85 #[.agg #[I a, I b, I c]] w fun e w' => e = .returned (.bool (decide (rightE ⟨a, b, c⟩))) ∧ Below w.heap.size w w' := by
  unfold rightE
  by_cases hc0 : 0 ≤ a
  rotate_left
  · go_enter Tryd.func85, Tryd.ntmps85
    go_wp2
    go_ret
    exact ⟨ret_bool (by first | exact (decide_eq_true (by omega)).symm | exact (decide_eq_false (by omega)).symm | exact decide_eq_decide.2 (by omega) | (simp; omega)), bAlloc (Below.refl _ _) _⟩
  by_cases hc1 : a < 256
  rotate_left
  · go_enter Tryd.func85, Tryd.ntmps85
    go_wp2
    go_ret
    exact ⟨ret_bool (by first | exact (decide_eq_true (by omega)).symm | exact (decide_eq_false (by omega)).symm | exact decide_eq_decide.2 (by omega) | (simp; omega)), bAlloc (Below.refl _ _) _⟩
  by_cases hc2 : 1 ≤ b
  rotate_left
  · go_enter Tryd.func85, Tryd.ntmps85
    go_wp2
    go_ret
    exact ⟨ret_bool (by first | exact (decide_eq_true (by omega)).symm | exact (decide_eq_false (by omega)).symm | exact decide_eq_decide.2 (by omega) | (simp; omega)), bAlloc (Below.refl _ _) _⟩
  by_cases hc3 : b < 32768
  rotate_left
  · go_enter Tryd.func85, Tryd.ntmps85
    go_wp2
    go_ret
    exact ⟨ret_bool (by first | exact (decide_eq_true (by omega)).symm | exact (decide_eq_false (by omega)).symm | exact decide_eq_decide.2 (by omega) | (simp; omega)), bAlloc (Below.refl _ _) _⟩
  by_cases hc4 : 1 ≤ c
  rotate_left
  · go_enter Tryd.func85, Tryd.ntmps85
    go_wp2
    go_ret
    exact ⟨ret_bool (by first | exact (decide_eq_true (by omega)).symm | exact (decide_eq_false (by omega)).symm | exact decide_eq_decide.2 (by omega) | (simp; omega)), bAlloc (Below.refl _ _) _⟩
  by_cases hc5 : c ≤ 200
  rotate_left
  · go_enter Tryd.func85, Tryd.ntmps85
    go_wp2
    go_ret
    exact ⟨ret_bool (by first | exact (decide_eq_true (by omega)).symm | exact (decide_eq_false (by omega)).symm | exact decide_eq_decide.2 (by omega) | (simp; omega)), bAlloc (Below.refl _ _) _⟩
  go_enter Tryd.func85, Tryd.ntmps85
  go_wp2
  go_ret
  exact ⟨ret_bool (by first | exact (decide_eq_true (by omega)).symm | exact (decide_eq_false (by omega)).symm | exact decide_eq_decide.2 (by omega) | (simp; omega)), bAlloc (Below.refl _ _) _⟩
set_option maxHeartbeats 800000 in
theorem ref09_Right (a b c : Int) (w : World) : Calls Tryd.prog 60 #[.agg #[I a, I b, I c]] w fun e w' => e = .returned (.bool (decide (rightE ⟨a, b, c⟩))) ∧ Below w.heap.size w w' := by
  unfold rightE
  by_cases hc0 : 0 ≤ a
  rotate_left
  · go_enter Tryd.func60, Tryd.ntmps60
    go_wp2
    go_ret
    exact ⟨ret_bool (by first | exact (decide_eq_true (by omega)).symm | exact (decide_eq_false (by omega)).symm | exact decide_eq_decide.2 (by omega) | (simp; omega)), bAlloc (Below.refl _ _) _⟩
  by_cases hc1 : a < 256
  rotate_left
  · go_enter Tryd.func60, Tryd.ntmps60
    go_wp2
    go_ret
    exact ⟨ret_bool (by first | exact (decide_eq_true (by omega)).symm | exact (decide_eq_false (by omega)).symm | exact decide_eq_decide.2 (by omega) | (simp; omega)), bAlloc (Below.refl _ _) _⟩
  by_cases hc2 : 1 ≤ b
  rotate_left
  · go_enter Tryd.func60, Tryd.ntmps60
    go_wp2
    go_ret
    exact ⟨ret_bool (by first | exact (decide_eq_true (by omega)).symm | exact (decide_eq_false (by omega)).symm | exact decide_eq_decide.2 (by omega) | (simp; omega)), bAlloc (Below.refl _ _) _⟩
  by_cases hc3 : b < 32768
  rotate_left
  · go_enter Tryd.func60, Tryd.ntmps60
    go_wp2
    go_ret
    exact ⟨ret_bool (by first | exact (decide_eq_true (by omega)).symm | exact (decide_eq_false (by omega)).symm | exact decide_eq_decide.2 (by omega) | (simp; omega)), bAlloc (Below.refl _ _) _⟩
  by_cases hc4 : 1 ≤ c
  rotate_left
  · go_enter Tryd.func60, Tryd.ntmps60
    go_wp2
    go_ret
    exact ⟨ret_bool (by first | exact (decide_eq_true (by omega)).symm | exact (decide_eq_false (by omega)).symm | exact decide_eq_decide.2 (by omega) | (simp; omega)), bAlloc (Below.refl _ _) _⟩
  by_cases hc5 : c ≤ 200
  rotate_left
  · go_enter Tryd.func60, Tryd.ntmps60
    go_wp2
    go_ret
    exact ⟨ret_bool (by first | exact (decide_eq_true (by omega)).symm | exact (decide_eq_false (by omega)).symm | exact decide_eq_decide.2 (by omega) | (simp; omega)), bAlloc (Below.refl _ _) _⟩
  go_enter Tryd.func60, Tryd.ntmps60
  go_wp2
  go_ret
  exact ⟨ret_bool (by first | exact (decide_eq_true (by omega)).symm | exact (decide_eq_false (by omega)).symm | exact decide_eq_decide.2 (by omega) | (simp; omega)), bAlloc (Below.refl _ _) _⟩
end Go.Proofs.YtodgcmakdndbfaaDoor
/-
  Contract: ratchet.Check.
-/
namespace Go.Proofs.YtodgcmakdndbfaaDoor
open Go.RowKit Cot
set_option linter.unusedSimpArgs false
set_option linter.unusedVariables false

def keyOk (k : Nat → Key) (j : Nat) : Prop := (goodK (k j) ∧ (k j).base < 32768) ∧ ∀ i, i < j → (k i).base ≠ (k j).base
def kbase (k : Nat → Key) (j : Nat) : Int := (k j).base
theorem checkKeys_no {k : Nat → Key} {n : Nat} (hn : n < 21) (h : ¬ keyOk k n) : checkKeysI k = 31 := by
  unfold checkKeysI; rw [if_neg (fun hr => h (hr n hn))]
set_option maxHeartbeats 800000 in
theorem ratchet_Check (k : Nat → Key) (hw : ∀ j, I64 (k j).base) (w : World) : Calls Tryd.prog 68 #[.agg (keysC k)] w fun e w' => e = .returned (.int .i64 (checkKeysI k)) ∧ Below w.heap.size w w' := by
  have hmm := @run_makeMap Tryd.prog
  go_enter Tryd.func68, Tryd.ntmps68
  go_wp2
  go_loopw [5, 8] (fun _ i wr => ∃ n : Nat, n ≤ 21 ∧ i = .int .i64 n ∧ (∀ j, j < n → keyOk k j) ∧ isII wr (w.heap.size + 1) n ∧ (∀ x, (mapFn wr (w.heap.size + 1) x).getD 0 = cntV (kbase k) n x) ∧ Below w.heap.size w wr) (fun _ i _ => 21 - (intOf i).toNat)
  case atStart => exact ⟨0, by omega, rfl, by omega, by have h := isII_new (w.alloc (.cells (keysC k) 25)); rw [World.size_alloc] at h; exact h,
    fun x => by have h := mapFn_new (w.alloc (.cells (keysC k) 25)) x; rw [World.size_alloc] at h; rw [h]; rfl, bAlloc (bAlloc (Below.refl _ _) _) _⟩
  case round =>
    obtain ⟨n, hn, rfl, hok, hii, hfn, hbel⟩ := hrel
    by_cases hlt : n < 21
    · have hlt' : (n : Int) < 21 := by omega
      have hm := hii.m (by omega)
      have hlt2 := hii.lt
      have hwn := hw n
      have hcl : cntV (kbase k) n (k n).base ≤ n := cntV_le (kbase k) n (k n).base
      have hOK := Lib.hid hok; clear hok
      have hII := Lib.hid hii; clear hii
      have hFN := Lib.hid hfn
      have hB := Lib.hid hbel
      by_cases hg : goodK (k n)
      · have hd : decide (goodK ⟨(k n).base, (k n).step⟩) = true := decide_eq_true hg
        have hG := Lib.hid hg; clear hg
        by_cases h3 : (k n).base < 32768
        · by_cases h4 : cntV (kbase k) n (k n).base = 0
          · have hyes : keyOk k n := ⟨⟨hG.out, h3⟩, fun i hi e => by have := (cntV_pos (kbase k) (k n).base n).2 ⟨i, hi, e⟩; omega⟩
            have hY := Lib.hid hyes; clear hyes
            have h4' : cntV (kbase k) n (k n).base ≤ 0 := by omega
            have H4 := Lib.hid h4; clear h4
            go_wp2_with (go_at_call 77; refine (key_Good _ _ _).mono ?_; rintro e w' ⟨rfl, hb⟩; obtain ⟨bc, bf, ba, br, bz⟩ := bFacts hb; have hcE := fun o => bc wr.heap.size o (by simp only [World.size_alloc, World.size_setCell, World.size_drew, mapPut_size]; omega); obtain ⟨hi2, hf2⟩ := mapAfter hII.out (by omega) hwn (by unfold I64; omega) (Below.heap_alloc _ _ _ (by simp only [World.size_alloc, World.size_setCell, World.size_drew, mapPut_size]; omega)) hb (by simp only [World.size_alloc, World.size_setCell, World.size_drew, mapPut_size]; omega); have hm2 := hi2.m (by omega); have HI2 := Lib.hid hi2; clear bc bf ba br bz hi2; simp only [hd])
            go_roundw
            case rel => exact ⟨n + 1, by omega, by go_num, fun j hj => by rcases Nat.lt_succ_iff_lt_or_eq.1 hj with h | h; exact hOK.out j h; subst h; exact hY.out, HI2.out, fun x => by
                rw [hf2, cntV_succ]; split
                · rename_i e; subst e; rw [if_pos (show kbase k n = (k n).base from rfl)]; simp
                · rename_i e; rw [hFN.out, if_neg (fun e' => e e'.symm)]; simp, bCall' hb (bAlloc (Below_mapPut hB.out (Nat.le_add_right _ _) _ _) _)⟩
            case measure => simp [intOf]; omega
          · have hno : checkKeysI k = 31 := checkKeys_no hlt (fun h => by
              obtain ⟨i, hi, e⟩ := (cntV_pos (kbase k) (k n).base n).1 (by omega)
              exact h.2 i hi e)
            have HN := Lib.hid hno; clear hno
            have h4' : 1 ≤ cntV (kbase k) n (k n).base := by omega
            clear h4
            go_wp2_with (go_at_call 77; refine (key_Good _ _ _).mono ?_; rintro e w' ⟨rfl, hb⟩; obtain ⟨bc, bf, ba, br, bz⟩ := bFacts hb; have hcE := fun o => bc wr.heap.size o (by simp only [World.size_alloc, World.size_setCell, World.size_drew, mapPut_size]; omega); obtain ⟨hi2, hf2⟩ := mapAfter hII.out (by omega) hwn (by unfold I64; omega) (Below.heap_alloc _ _ _ (by simp only [World.size_alloc, World.size_setCell, World.size_drew, mapPut_size]; omega)) hb (by simp only [World.size_alloc, World.size_setCell, World.size_drew, mapPut_size]; omega); have hm2 := hi2.m (by omega); have HI2 := Lib.hid hi2; clear bc bf ba br bz hi2; simp only [hd])
            go_ret
            exact ⟨by rw [HN.out]; rfl, bCall' hb (bAlloc (Below_mapPut hB.out (Nat.le_add_right _ _) _ _) _)⟩
        · have hno : checkKeysI k = 31 := checkKeys_no hlt (fun h => h3 h.1.2)
          have HN := Lib.hid hno; clear hno
          go_wp2_with (go_at_call 77; refine (key_Good _ _ _).mono ?_; rintro e w' ⟨rfl, hb⟩; obtain ⟨bc, bf, ba, br, bz⟩ := bFacts hb; have hcE := fun o => bc wr.heap.size o (by simp only [World.size_alloc, World.size_setCell, World.size_drew, mapPut_size]; omega); obtain ⟨hi2, hf2⟩ := mapAfter hII.out (by omega) hwn (by unfold I64; omega) (Below.heap_alloc _ _ _ (by simp only [World.size_alloc, World.size_setCell, World.size_drew, mapPut_size]; omega)) hb (by simp only [World.size_alloc, World.size_setCell, World.size_drew, mapPut_size]; omega); have hm2 := hi2.m (by omega); have HI2 := Lib.hid hi2; clear bc bf ba br bz hi2; simp only [hd])
          go_ret
          exact ⟨by rw [HN.out]; rfl, bCall' hb (bAlloc (Below_mapPut hB.out (Nat.le_add_right _ _) _ _) _)⟩
      · have hd : decide (goodK ⟨(k n).base, (k n).step⟩) = false := decide_eq_false hg
        have hno : checkKeysI k = 31 := checkKeys_no hlt (fun h => hg h.1.1)
        have HN := Lib.hid hno; clear hno hg
        go_wp2_with (go_at_call 77; refine (key_Good _ _ _).mono ?_; rintro e w' ⟨rfl, hb⟩; obtain ⟨bc, bf, ba, br, bz⟩ := bFacts hb; have hcE := fun o => bc wr.heap.size o (by simp only [World.size_alloc, World.size_setCell, World.size_drew, mapPut_size]; omega); obtain ⟨hi2, hf2⟩ := mapAfter hII.out (by omega) hwn (by unfold I64; omega) (Below.heap_alloc _ _ _ (by simp only [World.size_alloc, World.size_setCell, World.size_drew, mapPut_size]; omega)) hb (by simp only [World.size_alloc, World.size_setCell, World.size_drew, mapPut_size]; omega); have hm2 := hi2.m (by omega); have HI2 := Lib.hid hi2; clear bc bf ba br bz hi2; simp only [hd])
        go_ret
        exact ⟨by rw [HN.out]; rfl, bCall' hb (bAlloc (Below_mapPut hB.out (Nat.le_add_right _ _) _ _) _)⟩
    · obtain rfl : n = 21 := by omega
      have hyes : checkKeysI k = 0 := by unfold checkKeysI; rw [if_pos (show RightKeys k from fun j hj => hok j hj)]
      have HY := Lib.hid hyes; clear hyes hok hii hfn
      go_wp2
      go_ret
      exact ⟨by rw [HY.out]; rfl, hbel⟩
end Go.Proofs.YtodgcmakdndbfaaDoor
/-
  Contracts: the reference's Check of keys. Printed by wip/gen/gk.py.
-/
namespace Go.Proofs.YtodgcmakdndbfaaDoor
open Go.RowKit Cot
set_option linter.unusedSimpArgs false
set_option linter.unusedVariables false
set_option maxHeartbeats 1600000 in
theorem ref10_Check (k : Nat → Key) (w : World) : Calls Tryd.prog 35 #[.agg (keysC k)] w fun e w' => e = .returned (.int .i64 (checkKeysI k)) ∧ Below w.heap.size w w' := by
  go_enter Tryd.func35, Tryd.ntmps35
  go_wp2
  go_loopw [3, 4] (fun i _ wr => ∃ n : Nat, n ≤ 21 ∧ i = .int .i64 n ∧ (∀ j, j < n → keyOk k j) ∧ Below (w.alloc (.cells (keysC k) 25)).heap.size (w.alloc (.cells (keysC k) 25)) wr) (fun i _ _ => 21 - (intOf i).toNat)
  case atStart => exact ⟨0, by omega, rfl, by omega, Below.refl _ _⟩
  case round =>
    obtain ⟨n, hn, rfl, hok, hbel⟩ := hrel
    by_cases hlt : n < 21
    · have hlt' : (n : Int) < 21 := by omega
      have hOK := Lib.hid hok; clear hok
      obtain ⟨bc, bf, ba, br, bz⟩ := bFacts hbel; have hz := bSize hbel (n := w.heap.size + 1) (by first | omega | (simp; done) | (simp; omega)); have hc0 := fun o => bc w.heap.size o (by first | omega | (simp; done) | (simp; omega)); have hf0 := fun o => bf w.heap.size o (by first | omega | (simp; done) | (simp; omega)); clear bc bf ba br bz
      by_cases hg : goodK (k n)
      · have hd : decide (goodK ⟨(k n).base, (k n).step⟩) = true := decide_eq_true hg
        have hG := Lib.hid hg; clear hg
        by_cases h3 : (k n).base < 32768
        · go_wp2_with (first | (go_at_call 59; refine (ref02_Good _ _ _).mono ?_; rintro e w' ⟨rfl, hb⟩; obtain ⟨bc, bf, ba, br, bz⟩ := bFacts hb; have hz := bSize hb (n := w.heap.size + 1) (by first | omega | (simp; done) | (simp; omega)); have hc0 := fun o => bc w.heap.size o (by first | omega | (simp; done) | (simp; omega)); have hf0 := fun o => bf w.heap.size o (by first | omega | (simp; done) | (simp; omega)); clear bc bf ba br bz; simp only [hd]))
          go_loopw [4] (fun i wq => ∃ m : Nat, m ≤ n ∧ i = .int .i64 m ∧ (∀ j, j < m → (k j).base ≠ (k n).base) ∧ Below (w.alloc (.cells (keysC k) 25)).heap.size (w.alloc (.cells (keysC k) 25)) wq) (fun i _ => n - (intOf i).toNat)
          case atStart => exact ⟨0, by omega, rfl, by omega, bCall hbel hb⟩
          case round =>
            clear hc0 hf0 hz hb hbel
            obtain ⟨m, hm, rfl, hne, hbq⟩ := hrel
            obtain ⟨bc, bf, ba, br, bz⟩ := bFacts hbq; have hz := bSize hbq (n := w.heap.size + 1) (by first | omega | (simp; done) | (simp; omega)); have hc0 := fun o => bc w.heap.size o (by first | omega | (simp; done) | (simp; omega)); have hf0 := fun o => bf w.heap.size o (by first | omega | (simp; done) | (simp; omega)); clear bc bf ba br bz
            by_cases hml : m < n
            · have hml' : (m : Int) < (n : Int) := by omega
              have hml2 : (m : Int) < 21 := by omega
              have hml3 : m < 21 := by omega
              by_cases he : (k m).base = (k n).base
              · have hno : checkKeysI k = 31 := checkKeys_no hlt (fun h => h.2 m hml he)
                have HN := Lib.hid hno; clear hno
                have he' : ((k m).base == (k n).base) = true := by simpa using he
                clear he
                go_wp2
                go_quiet (fail)
                go_wp2
                go_ret
                exact ⟨by rw [HN.out]; rfl, bDrewN (bCall' hbq (bAlloc (Below.refl _ _) _)) _⟩
              · have he' : ((k m).base == (k n).base) = false := by simpa using he
                have HE := Lib.hid he; clear he
                have HNE := Lib.hid hne; clear hne
                go_wp2
                go_quiet (fail)
                go_wp2
                go_roundw
                case rel => exact ⟨m + 1, by omega, by go_num, fun j hj => by rcases Nat.lt_succ_iff_lt_or_eq.1 hj with h | h; exact HNE.out j h; subst h; exact HE.out, bDrewN hbq _⟩
                case measure => simp [intOf]; omega
            · obtain rfl : m = n := by omega
              have HNE := Lib.hid hne; clear hne
              go_wp2
              go_roundw
              case rel => exact ⟨m + 1, by omega, by go_num, fun j hj => by rcases Nat.lt_succ_iff_lt_or_eq.1 hj with h | h; exact hOK.out j h; subst h; exact ⟨⟨hG.out, h3⟩, HNE.out⟩, hbq⟩
              case measure => simp [intOf]; omega
        · have hno : checkKeysI k = 31 := checkKeys_no hlt (fun h => h3 h.1.2)
          have HN := Lib.hid hno; clear hno
          go_wp2_with (first | (go_at_call 59; refine (ref02_Good _ _ _).mono ?_; rintro e w' ⟨rfl, hb⟩; obtain ⟨bc, bf, ba, br, bz⟩ := bFacts hb; have hz := bSize hb (n := w.heap.size + 1) (by first | omega | (simp; done) | (simp; omega)); have hc0 := fun o => bc w.heap.size o (by first | omega | (simp; done) | (simp; omega)); have hf0 := fun o => bf w.heap.size o (by first | omega | (simp; done) | (simp; omega)); clear bc bf ba br bz; simp only [hd]))
          go_ret
          exact ⟨by rw [HN.out]; rfl, bCall' hb (bCall' hbel (bAlloc (Below.refl _ _) _))⟩
      · have hd : decide (goodK ⟨(k n).base, (k n).step⟩) = false := decide_eq_false hg
        have hno : checkKeysI k = 31 := checkKeys_no hlt (fun h => hg h.1.1)
        have HN := Lib.hid hno; clear hno hg
        go_wp2_with (first | (go_at_call 59; refine (ref02_Good _ _ _).mono ?_; rintro e w' ⟨rfl, hb⟩; obtain ⟨bc, bf, ba, br, bz⟩ := bFacts hb; have hz := bSize hb (n := w.heap.size + 1) (by first | omega | (simp; done) | (simp; omega)); have hc0 := fun o => bc w.heap.size o (by first | omega | (simp; done) | (simp; omega)); have hf0 := fun o => bf w.heap.size o (by first | omega | (simp; done) | (simp; omega)); clear bc bf ba br bz; simp only [hd]))
        go_ret
        exact ⟨by rw [HN.out]; rfl, bCall' hb (bCall' hbel (bAlloc (Below.refl _ _) _))⟩
    · obtain rfl : n = 21 := by omega
      have hyes : checkKeysI k = 0 := by unfold checkKeysI; rw [if_pos (show RightKeys k from fun j hj => hok j hj)]
      have HY := Lib.hid hyes; clear hyes hok
      go_wp2
      go_ret
      exact ⟨by rw [HY.out]; rfl, bCall' hbel (bAlloc (Below.refl _ _) _)⟩
end Go.Proofs.YtodgcmakdndbfaaDoor
/-
  Contracts: keys advanced, leaf keys. Printed by wip/gen/gk.py.
-/
namespace Go.Proofs.YtodgcmakdndbfaaDoor
open Go.RowKit Cot
set_option linter.unusedSimpArgs false
set_option linter.unusedVariables false

def aheadS (k : Key) (n : Int) : Key × Int := if ¬ goodK k then (⟨0, 0⟩, 3) else if n < 0 ∨ 255 - k.step < n then (⟨0, 0⟩, 4) else (⟨k.base, k.step + n⟩, 0)
def leafAtS (e : Entry) (ep : Int) : Key × Int :=
  if e.base = 0 then (⟨0, 0⟩, 16) else if e.base < 0 ∨ 32768 ≤ e.base ∨ e.since < 1 ∨ 200 < e.since then (⟨0, 0⟩, 31) else if ep < e.since then (⟨0, 0⟩, 21)
  else if 255 < ep - e.since then (⟨0, 0⟩, 4) else (⟨e.base, ep - e.since⟩, 0)
/-- A key and an error, as two results. -/
def kE (r : Key × Int) : Value := .tuple #[.agg #[I r.1.base, I r.1.step], .int .i64 r.2]
set_option maxHeartbeats 800000 in
theorem key_Ahead (b s n : Int) (hn : I64 n) (w : World) : Calls Tryd.prog 74 #[.agg #[I b, I s], .int .i64 n] w fun e w' => e = .returned (kE (aheadS ⟨b, s⟩ n)) ∧ Below w.heap.size w w' := by
  by_cases hg : goodK ⟨b, s⟩
  · have hd : decide (goodK ⟨b, s⟩) = true := decide_eq_true hg
    obtain ⟨hs0, hs1⟩ : 0 ≤ s ∧ s ≤ 255 := hg.2
    by_cases h1 : n < 0
    · have hv : aheadS ⟨b, s⟩ n = (⟨0, 0⟩, 4) := by unfold aheadS; rw [if_neg (by simpa using hg), if_pos (Or.inl h1)]
      have HV := Lib.hid hv; clear hv hg
      go_enter Tryd.func74, Tryd.ntmps74
      go_wp2_with (first | (go_at_call 77; refine (key_Good _ _ _).mono ?_; rintro e w' ⟨rfl, hb⟩; obtain ⟨bc, bf, ba, br, bz⟩ := bFacts hb; have hz := bSize hb (n := w.heap.size + 2) (by simp; try omega); have hc0 := fun o => bc w.heap.size o (by simp; try omega); have hf0 := fun o => bf w.heap.size o (by simp; try omega); have hc1 := fun o => bc (w.heap.size + 1) o (by simp; try omega); have hf1 := fun o => bf (w.heap.size + 1) o (by simp; try omega); clear bc bf ba br bz))
      exact bodyPost_ret (v := kE (⟨0, 0⟩, 4)) (by simp [results, Tryd.results74, go_sem, kE, *]) rfl ⟨by rw [HV.out], (by repeat' (first | exact Below.refl _ _ | (refine bSet ?_ (by simp) _) | (refine bAlloc ?_ _) | (refine bDrew ?_) | (refine bDrewN ?_ _) | (refine bCall' (by assumption) ?_)))⟩
    by_cases h2 : 255 - s < n
    · have hv : aheadS ⟨b, s⟩ n = (⟨0, 0⟩, 4) := by unfold aheadS; rw [if_neg (by simpa using hg), if_pos (Or.inr h2)]
      have HV := Lib.hid hv; clear hv hg
      go_enter Tryd.func74, Tryd.ntmps74
      go_wp2_with (first | (go_at_call 77; refine (key_Good _ _ _).mono ?_; rintro e w' ⟨rfl, hb⟩; obtain ⟨bc, bf, ba, br, bz⟩ := bFacts hb; have hz := bSize hb (n := w.heap.size + 2) (by simp; try omega); have hc0 := fun o => bc w.heap.size o (by simp; try omega); have hf0 := fun o => bf w.heap.size o (by simp; try omega); have hc1 := fun o => bc (w.heap.size + 1) o (by simp; try omega); have hf1 := fun o => bf (w.heap.size + 1) o (by simp; try omega); clear bc bf ba br bz))
      exact bodyPost_ret (v := kE (⟨0, 0⟩, 4)) (by simp [results, Tryd.results74, go_sem, kE, *]) rfl ⟨by rw [HV.out], (by repeat' (first | exact Below.refl _ _ | (refine bSet ?_ (by simp) _) | (refine bAlloc ?_ _) | (refine bDrew ?_) | (refine bDrewN ?_ _) | (refine bCall' (by assumption) ?_)))⟩
    · have hv : aheadS ⟨b, s⟩ n = (⟨b, s + n⟩, 0) := by unfold aheadS; rw [if_neg (by simpa using hg), if_neg (by show ¬ (n < 0 ∨ 255 - s < n); omega)]
      have HV := Lib.hid hv; clear hv hg
      go_enter Tryd.func74, Tryd.ntmps74
      go_wp2_with (first | (go_at_call 77; refine (key_Good _ _ _).mono ?_; rintro e w' ⟨rfl, hb⟩; obtain ⟨bc, bf, ba, br, bz⟩ := bFacts hb; have hz := bSize hb (n := w.heap.size + 2) (by simp; try omega); have hc0 := fun o => bc w.heap.size o (by simp; try omega); have hf0 := fun o => bf w.heap.size o (by simp; try omega); have hc1 := fun o => bc (w.heap.size + 1) o (by simp; try omega); have hf1 := fun o => bf (w.heap.size + 1) o (by simp; try omega); clear bc bf ba br bz))
      exact bodyPost_ret (v := kE (⟨b, s + n⟩, 0)) (by simp [results, Tryd.results74, go_sem, kE, *]) rfl ⟨by rw [HV.out], (by repeat' (first | exact Below.refl _ _ | (refine bSet ?_ (by simp) _) | (refine bAlloc ?_ _) | (refine bDrew ?_) | (refine bDrewN ?_ _) | (refine bCall' (by assumption) ?_)))⟩
  · have hd : decide (goodK ⟨b, s⟩) = false := decide_eq_false hg
    have hv : aheadS ⟨b, s⟩ n = (⟨0, 0⟩, 3) := by unfold aheadS; rw [if_pos hg]
    have HV := Lib.hid hv; clear hv hg
    go_enter Tryd.func74, Tryd.ntmps74
    go_wp2_with (first | (go_at_call 77; refine (key_Good _ _ _).mono ?_; rintro e w' ⟨rfl, hb⟩; obtain ⟨bc, bf, ba, br, bz⟩ := bFacts hb; have hz := bSize hb (n := w.heap.size + 2) (by simp; try omega); have hc0 := fun o => bc w.heap.size o (by simp; try omega); have hf0 := fun o => bf w.heap.size o (by simp; try omega); have hc1 := fun o => bc (w.heap.size + 1) o (by simp; try omega); have hf1 := fun o => bf (w.heap.size + 1) o (by simp; try omega); clear bc bf ba br bz))
    exact bodyPost_ret (v := kE (⟨0, 0⟩, 3)) (by simp [results, Tryd.results74, go_sem, kE, *]) rfl ⟨by rw [HV.out], (by repeat' (first | exact Below.refl _ _ | (refine bSet ?_ (by simp) _) | (refine bAlloc ?_ _) | (refine bDrew ?_) | (refine bDrewN ?_ _) | (refine bCall' (by assumption) ?_)))⟩
set_option maxHeartbeats 800000 in
theorem ref02_Ahead1 (b s : Int) (w : World) : Calls Tryd.prog 83 #[.agg #[I b, I s], .int .i64 1] w fun e w' => e = .returned (kE (aheadS ⟨b, s⟩ 1)) ∧ Below w.heap.size w w' := by
  by_cases hg : goodK ⟨b, s⟩
  · have hd : decide (goodK ⟨b, s⟩) = true := decide_eq_true hg
    obtain ⟨hs0, hs1⟩ : 0 ≤ s ∧ s ≤ 255 := hg.2
    by_cases h2 : 255 - s < 1
    · have hv : aheadS ⟨b, s⟩ 1 = (⟨0, 0⟩, 4) := by unfold aheadS; rw [if_neg (by simpa using hg), if_pos (Or.inr h2)]
      have hd2 : decide (goodK ⟨b, s + 1⟩) = false := decide_eq_false (by show ¬ ((1 ≤ b ∧ b ≤ 65535) ∧ 0 ≤ s + 1 ∧ s + 1 ≤ 255); omega)
      have HV := Lib.hid hv; clear hv hg
      go_enter Tryd.func83, Tryd.ntmps83
      go_wp2_with (first | (go_at_call 59; refine (ref02_Good _ _ _).mono ?_; rintro e w' ⟨rfl, hb⟩; obtain ⟨bc, bf, ba, br, bz⟩ := bFacts hb; have hz := bSize hb (n := w.heap.size + 2) (by simp; try omega); have hc0 := fun o => bc w.heap.size o (by simp; try omega); have hf0 := fun o => bf w.heap.size o (by simp; try omega); have hc1 := fun o => bc (w.heap.size + 1) o (by simp; try omega); have hf1 := fun o => bf (w.heap.size + 1) o (by simp; try omega); clear bc bf ba br bz))
      refine wp_loop_rounds 2 ?_
      rw [rounds_succ]
      go_wp2
      rw [rounds_succ]
      go_wp2_with (first | (go_at_call 59; refine (ref02_Good _ _ _).mono ?_; rintro e w' ⟨rfl, hb⟩; obtain ⟨bc, bf, ba, br, bz⟩ := bFacts hb; have hz := bSize hb (n := w.heap.size + 2) (by simp; try omega); have hc0 := fun o => bc w.heap.size o (by simp; try omega); have hf0 := fun o => bf w.heap.size o (by simp; try omega); have hc1 := fun o => bc (w.heap.size + 1) o (by simp; try omega); have hf1 := fun o => bf (w.heap.size + 1) o (by simp; try omega); clear bc bf ba br bz))
      exact bodyPost_ret (v := kE (⟨0, 0⟩, 4)) (by simp [results, Tryd.results83, go_sem, kE, *]) rfl ⟨by rw [HV.out], (by repeat' (first | exact Below.refl _ _ | (refine bSet ?_ (by simp) _) | (refine bAlloc ?_ _) | (refine bDrew ?_) | (refine bDrewN ?_ _) | (refine bCall' (by assumption) ?_)))⟩
    · have hv : aheadS ⟨b, s⟩ 1 = (⟨b, s + 1⟩, 0) := by unfold aheadS; rw [if_neg (by simpa using hg), if_neg (by show ¬ ((1 : Int) < 0 ∨ 255 - s < 1); omega)]
      have hd2 : decide (goodK ⟨b, s + 1⟩) = true := decide_eq_true (by have hb := hg.1; unfold goodK; exact ⟨hb, by show 0 ≤ s + 1 ∧ s + 1 ≤ 255; omega⟩)
      have HV := Lib.hid hv; clear hv hg
      go_enter Tryd.func83, Tryd.ntmps83
      go_wp2_with (first | (go_at_call 59; refine (ref02_Good _ _ _).mono ?_; rintro e w' ⟨rfl, hb⟩; obtain ⟨bc, bf, ba, br, bz⟩ := bFacts hb; have hz := bSize hb (n := w.heap.size + 2) (by simp; try omega); have hc0 := fun o => bc w.heap.size o (by simp; try omega); have hf0 := fun o => bf w.heap.size o (by simp; try omega); have hc1 := fun o => bc (w.heap.size + 1) o (by simp; try omega); have hf1 := fun o => bf (w.heap.size + 1) o (by simp; try omega); clear bc bf ba br bz))
      refine wp_loop_rounds 2 ?_
      rw [rounds_succ]
      go_wp2
      rw [rounds_succ]
      go_wp2_with (first | (go_at_call 59; refine (ref02_Good _ _ _).mono ?_; rintro e w' ⟨rfl, hb⟩; obtain ⟨bc, bf, ba, br, bz⟩ := bFacts hb; have hz := bSize hb (n := w.heap.size + 2) (by simp; try omega); have hc0 := fun o => bc w.heap.size o (by simp; try omega); have hf0 := fun o => bf w.heap.size o (by simp; try omega); have hc1 := fun o => bc (w.heap.size + 1) o (by simp; try omega); have hf1 := fun o => bf (w.heap.size + 1) o (by simp; try omega); clear bc bf ba br bz))
      exact bodyPost_ret (v := kE (⟨b, s + 1⟩, 0)) (by simp [results, Tryd.results83, go_sem, kE, *]) rfl ⟨by rw [HV.out], (by repeat' (first | exact Below.refl _ _ | (refine bSet ?_ (by simp) _) | (refine bAlloc ?_ _) | (refine bDrew ?_) | (refine bDrewN ?_ _) | (refine bCall' (by assumption) ?_)))⟩
  · have hd : decide (goodK ⟨b, s⟩) = false := decide_eq_false hg
    have hv : aheadS ⟨b, s⟩ 1 = (⟨0, 0⟩, 3) := by unfold aheadS; rw [if_pos hg]
    have HV := Lib.hid hv; clear hv hg
    go_enter Tryd.func83, Tryd.ntmps83
    go_wp2_with (first | (go_at_call 59; refine (ref02_Good _ _ _).mono ?_; rintro e w' ⟨rfl, hb⟩; obtain ⟨bc, bf, ba, br, bz⟩ := bFacts hb; have hz := bSize hb (n := w.heap.size + 2) (by simp; try omega); have hc0 := fun o => bc w.heap.size o (by simp; try omega); have hf0 := fun o => bf w.heap.size o (by simp; try omega); have hc1 := fun o => bc (w.heap.size + 1) o (by simp; try omega); have hf1 := fun o => bf (w.heap.size + 1) o (by simp; try omega); clear bc bf ba br bz))
    exact bodyPost_ret (v := kE (⟨0, 0⟩, 3)) (by simp [results, Tryd.results83, go_sem, kE, *]) rfl ⟨by rw [HV.out], (by repeat' (first | exact Below.refl _ _ | (refine bSet ?_ (by simp) _) | (refine bAlloc ?_ _) | (refine bDrew ?_) | (refine bDrewN ?_ _) | (refine bCall' (by assumption) ?_)))⟩
set_option maxHeartbeats 800000 in
theorem ratchet_LeafAt (a b c ep : Int) (he : ep ≤ 1000000) (w : World) : Calls Tryd.prog 79 #[.agg #[I a, I b, I c], .int .i64 ep] w fun e w' => e = .returned (kE (leafAtS ⟨a, b, c⟩ ep)) ∧ Below w.heap.size w w' := by
  by_cases h0 : b = 0
  · subst h0
    have hv : leafAtS ⟨a, 0, c⟩ ep = (⟨0, 0⟩, 16) := by unfold leafAtS; rw [if_pos rfl]
    have HV := Lib.hid hv; clear hv
    go_enter Tryd.func79, Tryd.ntmps79
    go_wp2
    exact bodyPost_ret (v := kE (⟨0, 0⟩, 16)) (by simp [results, Tryd.results79, go_sem, kE]) rfl ⟨by rw [HV.out], (by repeat' (first | exact Below.refl _ _ | (refine bSet ?_ (by simp) _) | (refine bAlloc ?_ _) | (refine bDrew ?_) | (refine bDrewN ?_ _) | (refine bCall' (by assumption) ?_)))⟩
  by_cases h1 : b < 0
  · have hv : leafAtS ⟨a, b, c⟩ ep = (⟨0, 0⟩, 31) := by unfold leafAtS; rw [if_neg h0, if_pos (by show b < 0 ∨ 32768 ≤ b ∨ c < 1 ∨ 200 < c; omega)]
    have HV := Lib.hid hv; clear hv
    go_enter Tryd.func79, Tryd.ntmps79
    go_wp2
    exact bodyPost_ret (v := kE (⟨0, 0⟩, 31)) (by simp [results, Tryd.results79, go_sem, kE]) rfl ⟨by rw [HV.out], (by repeat' (first | exact Below.refl _ _ | (refine bSet ?_ (by simp) _) | (refine bAlloc ?_ _) | (refine bDrew ?_) | (refine bDrewN ?_ _) | (refine bCall' (by assumption) ?_)))⟩
  by_cases h2 : 32768 ≤ b
  · have hv : leafAtS ⟨a, b, c⟩ ep = (⟨0, 0⟩, 31) := by unfold leafAtS; rw [if_neg h0, if_pos (by show b < 0 ∨ 32768 ≤ b ∨ c < 1 ∨ 200 < c; omega)]
    have HV := Lib.hid hv; clear hv
    go_enter Tryd.func79, Tryd.ntmps79
    go_wp2
    exact bodyPost_ret (v := kE (⟨0, 0⟩, 31)) (by simp [results, Tryd.results79, go_sem, kE]) rfl ⟨by rw [HV.out], (by repeat' (first | exact Below.refl _ _ | (refine bSet ?_ (by simp) _) | (refine bAlloc ?_ _) | (refine bDrew ?_) | (refine bDrewN ?_ _) | (refine bCall' (by assumption) ?_)))⟩
  by_cases h3 : c < 1
  · have hv : leafAtS ⟨a, b, c⟩ ep = (⟨0, 0⟩, 31) := by unfold leafAtS; rw [if_neg h0, if_pos (by show b < 0 ∨ 32768 ≤ b ∨ c < 1 ∨ 200 < c; omega)]
    have HV := Lib.hid hv; clear hv
    go_enter Tryd.func79, Tryd.ntmps79
    go_wp2
    exact bodyPost_ret (v := kE (⟨0, 0⟩, 31)) (by simp [results, Tryd.results79, go_sem, kE]) rfl ⟨by rw [HV.out], (by repeat' (first | exact Below.refl _ _ | (refine bSet ?_ (by simp) _) | (refine bAlloc ?_ _) | (refine bDrew ?_) | (refine bDrewN ?_ _) | (refine bCall' (by assumption) ?_)))⟩
  by_cases h4 : 200 < c
  · have hv : leafAtS ⟨a, b, c⟩ ep = (⟨0, 0⟩, 31) := by unfold leafAtS; rw [if_neg h0, if_pos (by show b < 0 ∨ 32768 ≤ b ∨ c < 1 ∨ 200 < c; omega)]
    have HV := Lib.hid hv; clear hv
    go_enter Tryd.func79, Tryd.ntmps79
    go_wp2
    exact bodyPost_ret (v := kE (⟨0, 0⟩, 31)) (by simp [results, Tryd.results79, go_sem, kE]) rfl ⟨by rw [HV.out], (by repeat' (first | exact Below.refl _ _ | (refine bSet ?_ (by simp) _) | (refine bAlloc ?_ _) | (refine bDrew ?_) | (refine bDrewN ?_ _) | (refine bCall' (by assumption) ?_)))⟩
  by_cases h5 : ep < c
  · have hv : leafAtS ⟨a, b, c⟩ ep = (⟨0, 0⟩, 21) := by unfold leafAtS; rw [if_neg h0, if_neg (by show ¬ (b < 0 ∨ 32768 ≤ b ∨ c < 1 ∨ 200 < c); omega), if_pos h5]
    have HV := Lib.hid hv; clear hv
    go_enter Tryd.func79, Tryd.ntmps79
    go_wp2
    exact bodyPost_ret (v := kE (⟨0, 0⟩, 21)) (by simp [results, Tryd.results79, go_sem, kE]) rfl ⟨by rw [HV.out], (by repeat' (first | exact Below.refl _ _ | (refine bSet ?_ (by simp) _) | (refine bAlloc ?_ _) | (refine bDrew ?_) | (refine bDrewN ?_ _) | (refine bCall' (by assumption) ?_)))⟩
  by_cases h6 : 255 < ep - c
  · have hv : leafAtS ⟨a, b, c⟩ ep = (⟨0, 0⟩, 4) := by unfold leafAtS; rw [if_neg h0, if_neg (by show ¬ (b < 0 ∨ 32768 ≤ b ∨ c < 1 ∨ 200 < c); omega), if_neg h5, if_pos h6]
    have ha : aheadS ⟨b, 0⟩ (ep - c) = (⟨0, 0⟩, 4) := by unfold aheadS; rw [if_neg (by unfold goodK; show ¬ ¬ ((1 ≤ b ∧ b ≤ 65535) ∧ (0 : Int) ≤ 0 ∧ (0 : Int) ≤ 255); omega), if_pos (by show ep - c < 0 ∨ 255 - 0 < ep - c; omega)]
    have HV := Lib.hid hv; clear hv
    go_enter Tryd.func79, Tryd.ntmps79
    go_wp2_with (first | (go_at_call 74; refine (key_Ahead _ _ _ (by unfold I64; omega) _).mono ?_; rintro e w' ⟨rfl, hb⟩; obtain ⟨bc, bf, ba, br, bz⟩ := bFacts hb; have hz := bSize hb (n := w.heap.size + 2) (by simp; try omega); have hc0 := fun o => bc w.heap.size o (by simp; try omega); have hf0 := fun o => bf w.heap.size o (by simp; try omega); have hc1 := fun o => bc (w.heap.size + 1) o (by simp; try omega); have hf1 := fun o => bf (w.heap.size + 1) o (by simp; try omega); clear bc bf ba br bz; simp only [ha, kE]))
    exact bodyPost_ret (v := kE (⟨0, 0⟩, 4)) (by simp [results, Tryd.results79, go_sem, kE, *]) rfl ⟨by rw [HV.out], (by repeat' (first | exact Below.refl _ _ | (refine bSet ?_ (by simp) _) | (refine bAlloc ?_ _) | (refine bDrew ?_) | (refine bDrewN ?_ _) | (refine bCall' (by assumption) ?_)))⟩
  · have hv : leafAtS ⟨a, b, c⟩ ep = (⟨b, ep - c⟩, 0) := by unfold leafAtS; rw [if_neg h0, if_neg (by show ¬ (b < 0 ∨ 32768 ≤ b ∨ c < 1 ∨ 200 < c); omega), if_neg h5, if_neg h6]
    have ha : aheadS ⟨b, 0⟩ (ep - c) = (⟨b, ep - c⟩, 0) := by unfold aheadS; rw [if_neg (by unfold goodK; show ¬ ¬ ((1 ≤ b ∧ b ≤ 65535) ∧ (0 : Int) ≤ 0 ∧ (0 : Int) ≤ 255); omega), if_neg (by show ¬ (ep - c < 0 ∨ 255 - 0 < ep - c); omega)]; simp
    have HV := Lib.hid hv; clear hv
    go_enter Tryd.func79, Tryd.ntmps79
    go_wp2_with (first | (go_at_call 74; refine (key_Ahead _ _ _ (by unfold I64; omega) _).mono ?_; rintro e w' ⟨rfl, hb⟩; obtain ⟨bc, bf, ba, br, bz⟩ := bFacts hb; have hz := bSize hb (n := w.heap.size + 2) (by simp; try omega); have hc0 := fun o => bc w.heap.size o (by simp; try omega); have hf0 := fun o => bf w.heap.size o (by simp; try omega); have hc1 := fun o => bc (w.heap.size + 1) o (by simp; try omega); have hf1 := fun o => bf (w.heap.size + 1) o (by simp; try omega); clear bc bf ba br bz; simp only [ha, kE]))
    exact bodyPost_ret (v := kE (⟨b, ep - c⟩, 0)) (by simp [results, Tryd.results79, go_sem, kE, *]) rfl ⟨by rw [HV.out], (by repeat' (first | exact Below.refl _ _ | (refine bSet ?_ (by simp) _) | (refine bAlloc ?_ _) | (refine bDrew ?_) | (refine bDrewN ?_ _) | (refine bCall' (by assumption) ?_)))⟩
set_option maxHeartbeats 800000 in
theorem ref10_LeafAt (a b c ep : Int) (he : ep ≤ 1000000) (w : World) : Calls Tryd.prog 30 #[.agg #[I a, I b, I c], .int .i64 ep] w fun e w' => e = .returned (kE (leafAtS ⟨a, b, c⟩ ep)) ∧ Below w.heap.size w w' := by
  by_cases h0 : b = 0
  · subst h0
    have hv : leafAtS ⟨a, 0, c⟩ ep = (⟨0, 0⟩, 16) := by unfold leafAtS; rw [if_pos rfl]
    have HV := Lib.hid hv; clear hv
    go_enter Tryd.func30, Tryd.ntmps30
    go_wp2
    exact bodyPost_ret (v := kE (⟨0, 0⟩, 16)) (by simp [results, Tryd.results30, go_sem, kE]) rfl ⟨by rw [HV.out], (by repeat' (first | exact Below.refl _ _ | (refine bSet ?_ (by simp) _) | (refine bAlloc ?_ _) | (refine bDrew ?_) | (refine bDrewN ?_ _) | (refine bCall' (by assumption) ?_)))⟩
  by_cases h1 : b < 0
  · have hv : leafAtS ⟨a, b, c⟩ ep = (⟨0, 0⟩, 31) := by unfold leafAtS; rw [if_neg h0, if_pos (by show b < 0 ∨ 32768 ≤ b ∨ c < 1 ∨ 200 < c; omega)]
    have HV := Lib.hid hv; clear hv
    go_enter Tryd.func30, Tryd.ntmps30
    go_wp2
    exact bodyPost_ret (v := kE (⟨0, 0⟩, 31)) (by simp [results, Tryd.results30, go_sem, kE]) rfl ⟨by rw [HV.out], (by repeat' (first | exact Below.refl _ _ | (refine bSet ?_ (by simp) _) | (refine bAlloc ?_ _) | (refine bDrew ?_) | (refine bDrewN ?_ _) | (refine bCall' (by assumption) ?_)))⟩
  by_cases h2 : 32768 ≤ b
  · have hv : leafAtS ⟨a, b, c⟩ ep = (⟨0, 0⟩, 31) := by unfold leafAtS; rw [if_neg h0, if_pos (by show b < 0 ∨ 32768 ≤ b ∨ c < 1 ∨ 200 < c; omega)]
    have HV := Lib.hid hv; clear hv
    go_enter Tryd.func30, Tryd.ntmps30
    go_wp2
    exact bodyPost_ret (v := kE (⟨0, 0⟩, 31)) (by simp [results, Tryd.results30, go_sem, kE]) rfl ⟨by rw [HV.out], (by repeat' (first | exact Below.refl _ _ | (refine bSet ?_ (by simp) _) | (refine bAlloc ?_ _) | (refine bDrew ?_) | (refine bDrewN ?_ _) | (refine bCall' (by assumption) ?_)))⟩
  by_cases h3 : c < 1
  · have hv : leafAtS ⟨a, b, c⟩ ep = (⟨0, 0⟩, 31) := by unfold leafAtS; rw [if_neg h0, if_pos (by show b < 0 ∨ 32768 ≤ b ∨ c < 1 ∨ 200 < c; omega)]
    have HV := Lib.hid hv; clear hv
    go_enter Tryd.func30, Tryd.ntmps30
    go_wp2
    exact bodyPost_ret (v := kE (⟨0, 0⟩, 31)) (by simp [results, Tryd.results30, go_sem, kE]) rfl ⟨by rw [HV.out], (by repeat' (first | exact Below.refl _ _ | (refine bSet ?_ (by simp) _) | (refine bAlloc ?_ _) | (refine bDrew ?_) | (refine bDrewN ?_ _) | (refine bCall' (by assumption) ?_)))⟩
  by_cases h4 : 200 < c
  · have hv : leafAtS ⟨a, b, c⟩ ep = (⟨0, 0⟩, 31) := by unfold leafAtS; rw [if_neg h0, if_pos (by show b < 0 ∨ 32768 ≤ b ∨ c < 1 ∨ 200 < c; omega)]
    have HV := Lib.hid hv; clear hv
    go_enter Tryd.func30, Tryd.ntmps30
    go_wp2
    exact bodyPost_ret (v := kE (⟨0, 0⟩, 31)) (by simp [results, Tryd.results30, go_sem, kE]) rfl ⟨by rw [HV.out], (by repeat' (first | exact Below.refl _ _ | (refine bSet ?_ (by simp) _) | (refine bAlloc ?_ _) | (refine bDrew ?_) | (refine bDrewN ?_ _) | (refine bCall' (by assumption) ?_)))⟩
  by_cases h5 : ep < c
  · have hv : leafAtS ⟨a, b, c⟩ ep = (⟨0, 0⟩, 21) := by unfold leafAtS; rw [if_neg h0, if_neg (by show ¬ (b < 0 ∨ 32768 ≤ b ∨ c < 1 ∨ 200 < c); omega), if_pos h5]
    have HV := Lib.hid hv; clear hv
    go_enter Tryd.func30, Tryd.ntmps30
    go_wp2
    exact bodyPost_ret (v := kE (⟨0, 0⟩, 21)) (by simp [results, Tryd.results30, go_sem, kE]) rfl ⟨by rw [HV.out], (by repeat' (first | exact Below.refl _ _ | (refine bSet ?_ (by simp) _) | (refine bAlloc ?_ _) | (refine bDrew ?_) | (refine bDrewN ?_ _) | (refine bCall' (by assumption) ?_)))⟩
  by_cases h6 : 255 < ep - c
  · have hv : leafAtS ⟨a, b, c⟩ ep = (⟨0, 0⟩, 4) := by unfold leafAtS; rw [if_neg h0, if_neg (by show ¬ (b < 0 ∨ 32768 ≤ b ∨ c < 1 ∨ 200 < c); omega), if_neg h5, if_pos h6]
    have ha : aheadS ⟨b, 0⟩ (ep - c) = (⟨0, 0⟩, 4) := by unfold aheadS; rw [if_neg (by unfold goodK; show ¬ ¬ ((1 ≤ b ∧ b ≤ 65535) ∧ (0 : Int) ≤ 0 ∧ (0 : Int) ≤ 255); omega), if_pos (by show ep - c < 0 ∨ 255 - 0 < ep - c; omega)]
    have HV := Lib.hid hv; clear hv
    go_enter Tryd.func30, Tryd.ntmps30
    go_wp2
    exact bodyPost_ret (v := kE (⟨0, 0⟩, 4)) (by simp [results, Tryd.results30, go_sem, kE]) rfl ⟨by rw [HV.out], (by repeat' (first | exact Below.refl _ _ | (refine bSet ?_ (by simp) _) | (refine bAlloc ?_ _) | (refine bDrew ?_) | (refine bDrewN ?_ _) | (refine bCall' (by assumption) ?_)))⟩
  · have hv : leafAtS ⟨a, b, c⟩ ep = (⟨b, ep - c⟩, 0) := by unfold leafAtS; rw [if_neg h0, if_neg (by show ¬ (b < 0 ∨ 32768 ≤ b ∨ c < 1 ∨ 200 < c); omega), if_neg h5, if_neg h6]
    have ha : aheadS ⟨b, 0⟩ (ep - c) = (⟨b, ep - c⟩, 0) := by unfold aheadS; rw [if_neg (by unfold goodK; show ¬ ¬ ((1 ≤ b ∧ b ≤ 65535) ∧ (0 : Int) ≤ 0 ∧ (0 : Int) ≤ 255); omega), if_neg (by show ¬ (ep - c < 0 ∨ 255 - 0 < ep - c); omega)]; simp
    have HV := Lib.hid hv; clear hv
    go_enter Tryd.func30, Tryd.ntmps30
    go_wp2
    exact bodyPost_ret (v := kE (⟨b, ep - c⟩, 0)) (by simp [results, Tryd.results30, go_sem, kE]) rfl ⟨by rw [HV.out], (by repeat' (first | exact Below.refl _ _ | (refine bSet ?_ (by simp) _) | (refine bAlloc ?_ _) | (refine bDrew ?_) | (refine bDrewN ?_ _) | (refine bCall' (by assumption) ?_)))⟩
end Go.Proofs.YtodgcmakdndbfaaDoor
