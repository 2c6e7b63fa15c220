/-
  Parts of a proof: Check6, Plan1, Plan2, Blk. Merged by program.
-/
import Derived.Test.YtodgcmakdndbfaaDoorZ5
import Derived.Laws.CopyOwn
/-
  Contracts: coterieref11.Check. Printed by wip/gen/gk.py.
-/
namespace Go.Proofs.YtodgcmakdndbfaaDoor
open Go.RowKit Cot
set_option linter.unusedSimpArgs false
set_option linter.unusedVariables false
set_option maxHeartbeats 1600000 in
theorem ref11_Check (t : Tree) (w : World) : Calls Tryd.prog 18 #[.agg (treeC t)] w fun e w' => e = .returned (.int .i64 (checkTreeI t)) ∧ Below w.heap.size w w' := by
  by_cases e0 : 0 ≤ t.epoch
  rotate_left
  · have hno : checkTreeI t = 31 := checkTree_no (fun h => by have := h.epoch0; omega)
    have HN := Lib.hid hno; clear hno
    go_enter Tryd.func18, Tryd.ntmps18
    go_wp2
    go_ret
    exact ⟨by rw [HN.out]; rfl, bAlloc (Below.refl _ _) _⟩
  by_cases e1 : t.epoch ≤ 200
  rotate_left
  · have hno : checkTreeI t = 31 := checkTree_no (fun h => by have := h.epoch1; omega)
    have HN := Lib.hid hno; clear hno
    go_enter Tryd.func18, Tryd.ntmps18
    go_wp2
    go_ret
    exact ⟨by rw [HN.out]; rfl, bAlloc (Below.refl _ _) _⟩
  by_cases e2 : 21 < t.fresh
  rotate_left
  · have hno : checkTreeI t = 31 := checkTree_no (fun h => by have := h.fresh0; omega)
    have HN := Lib.hid hno; clear hno
    go_enter Tryd.func18, Tryd.ntmps18
    go_wp2
    go_ret
    exact ⟨by rw [HN.out]; rfl, bAlloc (Below.refl _ _) _⟩
  by_cases e3 : t.fresh ≤ 32768
  rotate_left
  · have hno : checkTreeI t = 31 := checkTree_no (fun h => by have := h.fresh1; omega)
    have HN := Lib.hid hno; clear hno
    go_enter Tryd.func18, Tryd.ntmps18
    go_wp2
    go_ret
    exact ⟨by rw [HN.out]; rfl, bAlloc (Below.refl _ _) _⟩
  by_cases hk : RightKeys t.keys
  rotate_left
  · have hno : checkTreeI t = 31 := checkTree_no (fun h => hk h.keys)
    have HN := Lib.hid hno; clear hno
    have hk1 := checkKeys_not hk
    clear hk
    go_enter Tryd.func18, Tryd.ntmps18
    go_wp2_with (first | (go_at_call 35; refine (ref10_Check _ _).mono ?_; rintro e w' ⟨rfl, hb⟩; obtain ⟨bc, bf, ba, br, bz⟩ := bFacts hb; have hz := bSize hb (n := w.heap.size + 1) (by first | omega | (simp; done) | (simp; omega)); have hc0 := fun o => bc w.heap.size o (by first | omega | (simp; done) | (simp; omega)); have hf0 := fun o => bf w.heap.size o (by first | omega | (simp; done) | (simp; omega)); have ha0 := fun o k => ba w.heap.size o k (by first | omega | (simp; done) | (simp; omega)); have hr0 := fun k => br w.heap.size k (by first | omega | (simp; done) | (simp; omega)); have hy0 := bz w.heap.size (by first | omega | (simp; done) | (simp; omega)); clear bc bf ba br bz; simp only [hk1]) | (go_at_call 36; refine (ref09_Check _ _).mono ?_; rintro e w2 ⟨rfl, hb2⟩; obtain ⟨bc, bf, ba, br, bz⟩ := bFacts hb2; have hz := bSize hb2 (n := w.heap.size + 1) (by first | omega | (simp; done) | (simp; omega)); have hc0 := fun o => bc w.heap.size o (by first | omega | (simp; done) | (simp; omega)); have hf0 := fun o => bf w.heap.size o (by first | omega | (simp; done) | (simp; omega)); have ha0 := fun o k => ba w.heap.size o k (by first | omega | (simp; done) | (simp; omega)); have hr0 := fun k => br w.heap.size k (by first | omega | (simp; done) | (simp; omega)); have hy0 := bz w.heap.size (by first | omega | (simp; done) | (simp; omega)); clear bc bf ba br bz; simp only [hr1]))
    go_ret
    exact ⟨by rw [HN.out]; rfl, bCall' hb (bAlloc (Below.refl _ _) _)⟩
  have hk1 := checkKeys_of hk
  have HK := Lib.hid hk; clear hk
  by_cases hq : RightRoster t.roster
  rotate_left
  · have hno : checkTreeI t = 31 := checkTree_no (fun h => hq h.roster)
    have HN := Lib.hid hno; clear hno
    have hr1 := checkRoster_not hq
    clear hq
    go_enter Tryd.func18, Tryd.ntmps18
    go_wp2_with (first | (go_at_call 35; refine (ref10_Check _ _).mono ?_; rintro e w' ⟨rfl, hb⟩; obtain ⟨bc, bf, ba, br, bz⟩ := bFacts hb; have hz := bSize hb (n := w.heap.size + 1) (by first | omega | (simp; done) | (simp; omega)); have hc0 := fun o => bc w.heap.size o (by first | omega | (simp; done) | (simp; omega)); have hf0 := fun o => bf w.heap.size o (by first | omega | (simp; done) | (simp; omega)); have ha0 := fun o k => ba w.heap.size o k (by first | omega | (simp; done) | (simp; omega)); have hr0 := fun k => br w.heap.size k (by first | omega | (simp; done) | (simp; omega)); have hy0 := bz w.heap.size (by first | omega | (simp; done) | (simp; omega)); clear bc bf ba br bz; simp only [hk1]) | (go_at_call 36; refine (ref09_Check _ _).mono ?_; rintro e w2 ⟨rfl, hb2⟩; obtain ⟨bc, bf, ba, br, bz⟩ := bFacts hb2; have hz := bSize hb2 (n := w.heap.size + 1) (by first | omega | (simp; done) | (simp; omega)); have hc0 := fun o => bc w.heap.size o (by first | omega | (simp; done) | (simp; omega)); have hf0 := fun o => bf w.heap.size o (by first | omega | (simp; done) | (simp; omega)); have ha0 := fun o k => ba w.heap.size o k (by first | omega | (simp; done) | (simp; omega)); have hr0 := fun k => br w.heap.size k (by first | omega | (simp; done) | (simp; omega)); have hy0 := bz w.heap.size (by first | omega | (simp; done) | (simp; omega)); clear bc bf ba br bz; simp only [hr1]))
    go_ret
    exact ⟨by rw [HN.out]; rfl, bCall' hb2 (bCall' hb (bAlloc (Below.refl _ _) _))⟩
  have hr1 := checkRoster_of hq
  have HQ := Lib.hid hq; clear hq
  go_enter Tryd.func18, Tryd.ntmps18
  go_wp2_with (first | (go_at_call 35; refine (ref10_Check _ _).mono ?_; rintro e w' ⟨rfl, hb⟩; obtain ⟨bc, bf, ba, br, bz⟩ := bFacts hb; have hz := bSize hb (n := w.heap.size + 1) (by first | omega | (simp; done) | (simp; omega)); have hc0 := fun o => bc w.heap.size o (by first | omega | (simp; done) | (simp; omega)); have hf0 := fun o => bf w.heap.size o (by first | omega | (simp; done) | (simp; omega)); have ha0 := fun o k => ba w.heap.size o k (by first | omega | (simp; done) | (simp; omega)); have hr0 := fun k => br w.heap.size k (by first | omega | (simp; done) | (simp; omega)); have hy0 := bz w.heap.size (by first | omega | (simp; done) | (simp; omega)); clear bc bf ba br bz; simp only [hk1]) | (go_at_call 36; refine (ref09_Check _ _).mono ?_; rintro e w2 ⟨rfl, hb2⟩; obtain ⟨bc, bf, ba, br, bz⟩ := bFacts hb2; have hz := bSize hb2 (n := w.heap.size + 1) (by first | omega | (simp; done) | (simp; omega)); have hc0 := fun o => bc w.heap.size o (by first | omega | (simp; done) | (simp; omega)); have hf0 := fun o => bf w.heap.size o (by first | omega | (simp; done) | (simp; omega)); have ha0 := fun o k => ba w.heap.size o k (by first | omega | (simp; done) | (simp; omega)); have hr0 := fun k => br w.heap.size k (by first | omega | (simp; done) | (simp; omega)); have hy0 := bz w.heap.size (by first | omega | (simp; done) | (simp; omega)); clear bc bf ba br bz; simp only [hr1]))
  have HB2 := Lib.hid (bCall' hb2 (bCall' hb (Below.refl (w.alloc (.cells (treeC t) 31)).heap.size (w.alloc (.cells (treeC t) 31)))))
  clear hc0 hf0 ha0 hr0 hy0 hz hk1 hr1
  go_loopw [3] (fun i wr => ∃ n : Nat, n ≤ 21 ∧ i = .int .i64 n ∧ (∀ j, j < n → (t.keys j).base < t.fresh ∧ (t.keys j).step ≤ t.epoch) ∧ Below (w.alloc (.cells (treeC t) 31)).heap.size (w.alloc (.cells (treeC t) 31)) wr) (fun i _ => 21 - (intOf i).toNat)
  case atStart => exact ⟨0, by omega, rfl, by omega, HB2.out⟩
  case round =>
    obtain ⟨n, hn, rfl, hok, hbx⟩ := hrel
    obtain ⟨bc, bf, ba, br, bz⟩ := bFacts hbx; have hz := bSize hbx (n := w.heap.size + 1) (by first | omega | (simp; done) | (simp; omega)); have hc0 := fun o => bc w.heap.size o (by first | omega | (simp; done) | (simp; omega)); have hf0 := fun o => bf w.heap.size o (by first | omega | (simp; done) | (simp; omega)); have ha0 := fun o k => ba w.heap.size o k (by first | omega | (simp; done) | (simp; omega)); have hr0 := fun k => br w.heap.size k (by first | omega | (simp; done) | (simp; omega)); have hy0 := bz w.heap.size (by first | omega | (simp; done) | (simp; omega)); clear bc bf ba br bz
    have OK := Lib.hid hok; clear hok
    by_cases hlt : n < 21
    · have hlt' : (n : Int) < 21 := by omega
      by_cases h1 : (t.keys n).base < t.fresh
      · by_cases h2 : (t.keys n).step ≤ t.epoch
        · have G := Lib.hid (And.intro h1 h2)
          go_wp2
          go_quiet (fail)
          go_wp2
          go_roundw
          case rel => exact ⟨n + 1, by omega, by go_num, fun j hj => by rcases Nat.lt_succ_iff_lt_or_eq.1 hj with h | h; exact OK.out j h; subst h; exact G.out, bDrewN hbx _⟩
          case measure => simp [intOf]; omega
        · have hno : checkTreeI t = 31 := checkTree_no (fun h => h2 (h.kb n hlt).2)
          have HN := Lib.hid hno; clear hno
          have h2' : t.epoch < (t.keys n).step := by omega
          clear h2
          go_wp2
          go_quiet (fail)
          go_wp2
          go_ret
          exact ⟨by rw [HN.out]; rfl, bDrewN (bCall' hbx (bAlloc (Below.refl _ _) _)) _⟩
      · have hno : checkTreeI t = 31 := checkTree_no (fun h => h1 (h.kb n hlt).1)
        have HN := Lib.hid hno; clear hno
        have h1' : t.fresh ≤ (t.keys n).base := by omega
        clear h1
        go_wp2
        go_quiet (fail)
        go_wp2
        go_ret
        exact ⟨by rw [HN.out]; rfl, bDrewN (bCall' hbx (bAlloc (Below.refl _ _) _)) _⟩
    · have h21 : n = 21 := by omega
      have hge : (21 : Int) ≤ (n : Int) := by omega
      rw [h21] at OK
      clear h21 hlt hn
      go_wp2
      clear hc0 hf0 ha0 hr0 hy0 hz
      go_loopw [4, 5] (fun i _ wr => ∃ n : Nat, n ≤ 64 ∧ i = .int .i64 n ∧ (∀ s, s < n → ((t.roster s).base < t.fresh ∧ (t.roster s).since ≤ t.epoch) ∧ ∀ j, j < 21 → (t.keys j).base ≠ (t.roster s).base) ∧ Below (w.alloc (.cells (treeC t) 31)).heap.size (w.alloc (.cells (treeC t) 31)) wr) (fun i _ _ => 64 - (intOf i).toNat)
      case atStart => exact ⟨0, by omega, rfl, by omega, hbx⟩
      case round =>
        clear hbx
        obtain ⟨n, hn, rfl, hok2, hbx⟩ := hrel
        obtain ⟨bc, bf, ba, br, bz⟩ := bFacts hbx; have hz := bSize hbx (n := w.heap.size + 1) (by first | omega | (simp; done) | (simp; omega)); have hc0 := fun o => bc w.heap.size o (by first | omega | (simp; done) | (simp; omega)); have hf0 := fun o => bf w.heap.size o (by first | omega | (simp; done) | (simp; omega)); have ha0 := fun o k => ba w.heap.size o k (by first | omega | (simp; done) | (simp; omega)); have hr0 := fun k => br w.heap.size k (by first | omega | (simp; done) | (simp; omega)); have hy0 := bz w.heap.size (by first | omega | (simp; done) | (simp; omega)); clear bc bf ba br bz
        have OK2 := Lib.hid hok2; clear hok2
        by_cases hlt : n < 64
        · have hlt' : (n : Int) < 64 := by omega
          by_cases h1 : (t.roster n).base < t.fresh
          · by_cases h2 : (t.roster n).since ≤ t.epoch
            · have G := Lib.hid (And.intro h1 h2)
              go_wp2
              go_quiet (fail)
              go_wp2
              clear hc0 hf0 ha0 hr0 hy0 hz
              go_loopw [5] (fun i wr => ∃ m : Nat, m ≤ 21 ∧ i = .int .i64 m ∧ (∀ j, j < m → (t.keys j).base ≠ (t.roster n).base) ∧ Below (w.alloc (.cells (treeC t) 31)).heap.size (w.alloc (.cells (treeC t) 31)) wr) (fun i _ => 21 - (intOf i).toNat)
              case atStart => exact ⟨0, by omega, rfl, by omega, bDrewN hbx _⟩
              case round =>
                clear hbx h1 h2
                obtain ⟨m, hm, rfl, hne, hbx⟩ := hrel
                obtain ⟨bc, bf, ba, br, bz⟩ := bFacts hbx; have hz := bSize hbx (n := w.heap.size + 1) (by first | omega | (simp; done) | (simp; omega)); have hc0 := fun o => bc w.heap.size o (by first | omega | (simp; done) | (simp; omega)); have hf0 := fun o => bf w.heap.size o (by first | omega | (simp; done) | (simp; omega)); have ha0 := fun o k => ba w.heap.size o k (by first | omega | (simp; done) | (simp; omega)); have hr0 := fun k => br w.heap.size k (by first | omega | (simp; done) | (simp; omega)); have hy0 := bz w.heap.size (by first | omega | (simp; done) | (simp; omega)); clear bc bf ba br bz
                have NE := Lib.hid hne; clear hne
                by_cases hml : m < 21
                · have hml' : (m : Int) < 21 := by omega
                  by_cases he : (t.keys m).base = (t.roster n).base
                  · have he' : ((t.keys m).base == (t.roster n).base) = true := by simpa using he
                    have hno : checkTreeI t = 31 := checkTree_no (fun h => (h.eb n hlt).2 m hml he)
                    have HN := Lib.hid hno; clear hno he
                    go_wp2
                    go_quiet (fail)
                    go_wp2
                    go_ret
                    exact ⟨by rw [HN.out]; rfl, bDrewN (bCall' hbx (bAlloc (Below.refl _ _) _)) _⟩
                  · have he' : ((t.keys m).base == (t.roster n).base) = false := by simpa using he
                    have HE := Lib.hid he; clear he
                    go_wp2
                    go_quiet (fail)
                    go_wp2
                    go_roundw
                    case rel => exact ⟨m + 1, by omega, by go_num, fun j hj => by rcases Nat.lt_succ_iff_lt_or_eq.1 hj with h | h; exact NE.out j h; subst h; exact HE.out, bDrewN hbx _⟩
                    case measure => simp [intOf]; omega
                · have hm21 : m = 21 := by omega
                  have hge2 : (21 : Int) ≤ (m : Int) := by omega
                  rw [hm21] at NE
                  clear hm21 hml hm
                  go_wp2
                  go_roundw
                  case rel => exact ⟨n + 1, by omega, by go_num, fun j hj => by rcases Nat.lt_succ_iff_lt_or_eq.1 hj with h | h; exact OK2.out j h; subst h; exact ⟨G.out, NE.out⟩, hbx⟩
                  case measure => simp [intOf]; omega
            · have hno : checkTreeI t = 31 := checkTree_no (fun h => h2 (h.eb n hlt).1.2)
              have HN := Lib.hid hno; clear hno
              have h2' : t.epoch < (t.roster n).since := by omega
              clear h2
              go_wp2
              go_quiet (fail)
              go_wp2
              go_ret
              exact ⟨by rw [HN.out]; rfl, bDrewN (bCall' hbx (bAlloc (Below.refl _ _) _)) _⟩
          · have hno : checkTreeI t = 31 := checkTree_no (fun h => h1 (h.eb n hlt).1.1)
            have HN := Lib.hid hno; clear hno
            have h1' : t.fresh ≤ (t.roster n).base := by omega
            clear h1
            go_wp2
            go_quiet (fail)
            go_wp2
            go_ret
            exact ⟨by rw [HN.out]; rfl, bDrewN (bCall' hbx (bAlloc (Below.refl _ _) _)) _⟩
        · have h64 : n = 64 := by omega
          have hge : (64 : Int) ≤ (n : Int) := by omega
          rw [h64] at OK2
          have hyes : checkTreeI t = 0 := checkTree_yes ⟨e0, e1, e2, e3, HK.out, HQ.out, OK.out, OK2.out⟩
          have HY := Lib.hid hyes; clear hyes h64
          go_wp2
          go_ret
          exact ⟨by rw [HY.out]; rfl, bCall' hbx (bAlloc (Below.refl _ _) _)⟩
end Go.Proofs.YtodgcmakdndbfaaDoor
/-
  Contracts: plan.Replaced, and the reference's Replaced and count.
-/
namespace Go.Proofs.YtodgcmakdndbfaaDoor
open Go.RowKit Cot

def okSlots (l : List Seat) : Prop := ∀ x ∈ l, 0 ≤ x.slot ∧ x.slot < 64
def replP (l : List Seat) (v : Nat) : Bool := l.any fun x => up v x.slot.toNat
def slotP (l : List Seat) (s : Nat) : Bool := l.any fun x => x.slot.toNat == s
theorem bitsOf64_lt (p : Nat → Bool) : bitsOf p 64 < 18446744073709551616 := bitsOf_lt p 64
theorem above_slots (l : List Seat) (h : okSlots l) (v : Nat) (hv : v < 85) : aboveP (bitsOf (slotP l) 64) v = replP l v := by
  have hb : ∀ i, (maskN v &&& bitsOf (slotP l) 64).testBit i = (decide (i < 64) && (slotP l i && up v i)) := by
    intro i
    rw [Nat.testBit_and, testBit_bitsOf]
    by_cases hi : i < 64
    · rw [maskN_bits v hv i hi]; simp [hi, Bool.and_comm]
    · simp [hi]
  rw [Bool.eq_iff_iff]
  unfold aboveP
  rw [decide_eq_true_eq]
  constructor
  · intro h0
    obtain ⟨i, hi⟩ := Nat.exists_testBit_of_ne_zero h0
    rw [hb] at hi
    simp only [Bool.and_eq_true, decide_eq_true_eq] at hi
    unfold slotP at hi
    rw [List.any_eq_true] at hi
    obtain ⟨_, ⟨x, hx, hxs⟩, hu⟩ := hi
    unfold replP; rw [List.any_eq_true]
    exact ⟨x, hx, by rw [beq_iff_eq] at hxs; rw [hxs]; exact hu⟩
  · intro h1 e
    unfold replP at h1; rw [List.any_eq_true] at h1
    obtain ⟨x, hx, hu⟩ := h1
    have := hb x.slot.toNat
    rw [e, hu] at this
    have hs := h x hx
    have h2 : slotP l x.slot.toNat = true := by unfold slotP; rw [List.any_eq_true]; exact ⟨x, hx, by simp⟩
    rw [h2] at this
    simp at this; omega
theorem mask_leaf (s : Nat) (h : s < 64) : maskN (21 + s) = 2 ^ s := by
  unfold maskN; rw [if_neg (by omega), if_neg (by omega), if_neg (by omega), if_pos (by omega)]; congr 1; omega
theorem slot_step (l : List Seat) (x : Seat) (hx : 0 ≤ x.slot ∧ x.slot < 64) : bitsOf (slotP l) 64 ||| maskN (21 + x.slot.toNat) = bitsOf (slotP (l ++ [x])) 64 := by
  apply Nat.eq_of_testBit_eq
  intro i
  rw [Nat.testBit_or, testBit_bitsOf, testBit_bitsOf, mask_leaf _ (by omega), Nat.testBit_two_pow]
  unfold slotP
  rw [List.any_append]
  by_cases hi : i < 64
  · simp [hi]; rfl
  · simp [hi]; omega
theorem shape_Mask' (v : Int) (n : Nat) (hn : v = n) (hv : n < 85) (w : World) : Calls Tryd.prog 32 #[.int .i64 v] w fun e w' => e = .returned (.int .u64 (maskN n)) ∧ ∃ n, w' = w.drewN n := by
  subst hn; exact shape_Mask n hv w
set_option maxHeartbeats 800000 in
theorem plan_Replaced (ao : Option Addr) (l : List Seat) (cap : Nat) (hs : okSlots l) (hlen : l.length ≤ 1099511627776) (w : World) (hat : SeatsAt w ao l) :
    Calls Tryd.prog 17 #[.slice ao l.length cap] w fun e w' => e = .returned (.int .u32 (bitsOf (replP l) 21)) ∧ Below w.heap.size w w' := by
  go_enter Tryd.func17, Tryd.ntmps17
  go_wp2
  go_loopw [3, 5, 8] (fun m _ i wr => ∃ k : Nat, k ≤ l.length ∧ i = .int .i64 k ∧ m = .int .u64 (bitsOf (slotP (l.take k)) 64) ∧ Below w.heap.size w wr) (fun _ _ i _ => l.length - (intOf i).toNat)
  case atStart => exact ⟨0, by omega, rfl, by simp [slotP, bitsOf], Below.refl _ _⟩
  case round =>
    obtain ⟨k, hk, rfl, rfl, hbel⟩ := hrel
    by_cases hlt : k < l.length
    · obtain ⟨x, hx⟩ := some_of_lt hlt
      have hxs := hs x (List.mem_of_getElem? hx)
      obtain ⟨b, off, rfl, hb, c0, c1⟩ := hat.kept hbel k x hx
      have hlf : leafI x.slot = 21 + x.slot := by unfold leafI; rw [if_pos hxs]
      have hst := slot_step (l.take k) x hxs
      have hor : bits .or .u64 (bitsOf (slotP (l.take k)) 64 : Int) (maskN (21 + x.slot.toNat) : Int) = ((bitsOf (slotP (l.take k)) 64 ||| maskN (21 + x.slot.toNat) : Nat) : Int) := u64_or_nat _ _ (bitsOf64_lt _) (maskN_lt _)
      rw [hst, ← take_snoc' hx] at hor
      clear hst
      have H := Lib.hid hx; clear hx
      obtain ⟨h0, h1⟩ := hxs
      go_wp2_with (first | (go_at_call 33; refine (shape_Leaf _ _).mono ?_; rintro e w' ⟨rfl, rfl⟩) | (go_at_call 32; refine (shape_Mask' _ (21 + x.slot.toNat) (by omega) (by omega) _).mono ?_; rintro e w' ⟨rfl, ⟨nd, rfl⟩⟩))
      go_roundw
      case rel => exact ⟨k + 1, by omega, by go_num, rfl, bDrewN (bAlloc hbel _) nd⟩
      case measure => simp [intOf]; omega
    · obtain rfl : k = l.length := by omega
      have ht : l.take l.length = l := List.take_length
      have hlt2 := bitsOf64_lt (slotP l)
      have hcg : bitsOf (aboveP (bitsOf (slotP l) 64)) 21 = bitsOf (replP l) 21 := bitsOf_congr fun v hv => above_slots l hs v (by omega)
      have H := Lib.hid hcg; clear hcg
      go_wp2_with (first | (go_at_call 34; refine (shape_Above _ hlt2 _).mono ?_; rintro e w' ⟨rfl, hb1⟩))
      go_ret
      exact ⟨by show Ending.returned (.int .u32 _) = _; rw [H.out], bCall hbel hb1⟩
end Go.Proofs.YtodgcmakdndbfaaDoor
/-
  Contracts: the reference's Replaced (layer 11) and count (layer 10).
-/
namespace Go.Proofs.YtodgcmakdndbfaaDoor
open Go.RowKit Cot

theorem add_bit (p : Nat → Bool) (k : Nat) (hk : k < 21) : bitsOf p k + 2 ^ k < 4294967296 := by
  have := bitsOf_lt p k
  have h2 : 2 ^ (k + 1) ≤ 4294967296 := Nat.le_trans (Nat.pow_le_pow_right (by omega) (show k + 1 ≤ 21 by omega)) (by omega)
  rw [Nat.pow_succ] at h2
  omega
theorem ref01_Below' (v : Int) (x : Int) (n s : Nat) (hv : v = n) (hx : x = 21 + (s : Int)) (hn : n < 85) (hs : s < 64) (w : World) : Calls Tryd.prog 84 #[.int .i64 v, .int .i64 x] w fun e w' => e = .returned (.bool (up n s)) ∧ w = w' := by
  subst hv hx
  rw [← bel_leaf n hn s hs]
  exact ref01_Below n (21 + s) hn (by omega) w
set_option maxHeartbeats 1600000 in
theorem ref11_Replaced (ao : Option Addr) (l : List Seat) (cap : Nat) (hs : okSlots l) (hlen : l.length ≤ 1099511627776) (w : World) (hat : SeatsAt w ao l) :
    Calls Tryd.prog 64 #[.slice ao l.length cap] w fun e w' => e = .returned (.int .u32 (bitsOf (replP l) 21)) ∧ Below w.heap.size w w' := by
  go_enter Tryd.func64, Tryd.ntmps64
  go_wp2
  go_loopw [3, 4, 5, 7, 14] (fun m u i _ _ wr => ∃ k : Nat, k ≤ 21 ∧ i = .int .i64 k ∧ m = .int .u32 (bitsOf (replP l) k) ∧ u = .int .u32 ((2 ^ k : Nat) : Int) ∧ Below w.heap.size w wr) (fun _ _ i _ _ _ => 21 - (intOf i).toNat)
  case atStart => exact ⟨0, by omega, rfl, rfl, rfl, Below.refl _ _⟩
  case round =>
    obtain ⟨k, hk, rfl, rfl, rfl, hbel⟩ := hrel
    by_cases hlt : k < 21
    · have hadd := add_bit (replP l) k hlt
      have hpow : 2 ^ k * 2 ≤ 4294967295 := by
        have : 2 ^ (k + 1) ≤ 2 ^ 21 := Nat.pow_le_pow_right (by omega) (by omega)
        rw [Nat.pow_succ] at this; omega
      generalize hU : 2 ^ k = U at *
      have HU := Lib.hid hU; clear hU
      generalize hM : bitsOf (replP l) k = M at *
      have HM := Lib.hid hM; clear hM
      have hU0 : (0 : Int) ≤ (U : Int) := by omega
      have hU1 : (U : Int) * 2 ≤ 4294967295 := by omega
      have hM1 : (M : Int) + (U : Int) ≤ 4294967295 := by omega
      clear hadd hpow
      have hlt' : (k : Int) < 21 := by omega
      go_wp2
      go_loopw [3, 7, 14] (fun m _ i wq => ∃ j : Nat, j ≤ l.length ∧ i = .int .i64 j ∧ m = .int .u32 (M : Int) ∧ replP (l.take j) k = false ∧ Below w.heap.size w wq) (fun _ _ i _ => l.length - (intOf i).toNat)
      case atStart => exact ⟨0, by omega, rfl, rfl, by simp [replP], hbel⟩
      case round =>
        obtain ⟨j, hj, rfl, rfl, hno, hbq⟩ := hrel
        by_cases hjl : j < l.length
        · have hjl' : (j : Int) < (l.length : Int) := by omega
          obtain ⟨x, hx⟩ := some_of_lt hjl
          have hxs := hs x (List.mem_of_getElem? hx)
          obtain ⟨b, off, rfl, hb, c0, c1⟩ := hat.kept hbq j x hx
          have hlf : leafI x.slot = 21 + x.slot := by unfold leafI; rw [if_pos hxs]
          have HX := Lib.hid hx
          have hmem := List.mem_of_getElem? hx
          clear hx
          obtain ⟨h0, h1⟩ := hxs
          have HN := Lib.hid hno; clear hno
          by_cases hup : up k x.slot.toNat = true
          · have hyes : replP l k = true := by unfold replP; rw [List.any_eq_true]; exact ⟨x, hmem, hup⟩
            have HY := Lib.hid hyes; clear hyes
            go_wp2_with (first | (go_at_call 12; refine (ref01_Leaf _ _).mono ?_; rintro e w' ⟨rfl, rfl⟩) | (go_at_call 84; refine (ref01_Below' _ _ k x.slot.toNat rfl (by omega) (by omega) (by omega) _).mono ?_; rintro e w' ⟨rfl, rfl⟩))
            go_roundw
            case rel => exact ⟨k + 1, by omega, by go_num, by rw [bitsOf_yes HY.out, HM.out, HU.out]; rfl, by rw [Nat.pow_succ, HU.out]; rfl, bAlloc hbq _⟩
            case measure => simp [intOf]; omega
          · have hupf : up k x.slot.toNat = false := by simpa using hup
            clear hup
            go_wp2_with (first | (go_at_call 12; refine (ref01_Leaf _ _).mono ?_; rintro e w' ⟨rfl, rfl⟩) | (go_at_call 84; refine (ref01_Below' _ _ k x.slot.toNat rfl (by omega) (by omega) (by omega) _).mono ?_; rintro e w' ⟨rfl, rfl⟩))
            go_roundw
            case rel => exact ⟨j + 1, by omega, by go_num, rfl, by rw [take_snoc' HX.out]; unfold replP at HN ⊢; rw [List.any_append, HN.out]; simp [hupf], bAlloc hbq _⟩
            case measure => simp [intOf]; omega
        · obtain rfl : j = l.length := by omega
          have hno' : replP l k = false := by rw [List.take_length] at hno; exact hno
          have HY := Lib.hid hno'; clear hno' hno
          go_wp2
          go_roundw
          case rel => exact ⟨k + 1, by omega, by go_num, by rw [bitsOf_no HY.out, HM.out], by rw [Nat.pow_succ, HU.out]; rfl, hbq⟩
          case measure => simp [intOf]; omega
    · obtain rfl : k = 21 := by omega
      go_wp2
      go_ret
      exact ⟨rfl, hbel⟩
set_option maxHeartbeats 800000 in
theorem ref10_count (p : Nat → Bool) (w : World) : Calls Tryd.prog 82 #[.int .u32 (bitsOf p 21)] w fun e w' => e = .returned (.int .i64 (cntOf p 21)) ∧ w = w' := by
  have hm : bitsOf p 21 < 4294967296 := bitsOf21_lt p (Nat.le_refl _)
  have htb : ∀ k, k < 21 → (bitsOf p 21).testBit k = p k := fun k hk => by rw [testBit_bitsOf]; simp [hk]
  generalize bitsOf p 21 = m at *
  go_enter Tryd.func82, Tryd.ntmps82
  go_wp2
  go_loop [3, 4] (fun n i => ∃ k : Nat, k ≤ 21 ∧ i = .int .i64 k ∧ n = .int .i64 (cntOf p k)) (fun _ i => 21 - (intOf i).toNat)
  case atStart => exact ⟨0, by omega, rfl, rfl⟩
  case round =>
    obtain ⟨k, hk, rfl, rfl⟩ := hrel
    have hc := cntOf_le p k
    by_cases hlt : k < 21
    · have hb := htb k hlt
      have HT := Lib.hid htb; clear htb
      have hs : cntOf p (k + 1) = cntOf p k + if p k then 1 else 0 := rfl
      have HS := Lib.hid hs; clear hs
      cases hp : p k
      · rw [hp] at hb
        have HP := Lib.hid hp; clear hp
        go_wp2_with (go_at_call 16; refine (ref01_In m k hm (by omega) _).mono ?_; rintro e w' ⟨rfl, rfl⟩)
        go_round
        case rel => exact ⟨k + 1, by omega, by go_num, by rw [HS.out, HP.out]; rfl⟩
        case measure => simp [intOf]; omega
      · rw [hp] at hb
        have HP := Lib.hid hp; clear hp
        go_wp2_with (go_at_call 16; refine (ref01_In m k hm (by omega) _).mono ?_; rintro e w' ⟨rfl, rfl⟩)
        go_round
        case rel => exact ⟨k + 1, by omega, by go_num, by rw [HS.out, HP.out]; rfl⟩
        case measure => simp [intOf]; omega
    · obtain rfl : k = 21 := by omega
      clear htb
      go_wp2
      go_ret
      exact ⟨rfl, rfl⟩
end Go.Proofs.YtodgcmakdndbfaaDoor
/-
  Blocks that are written: what a block of cells holds, behind stores; rows of 64 truth values.
-/
namespace Cot
open Go
@[irreducible] def boolsC (p : Nat → Bool) : Array Value := tab 64 (fun i => .bool (p i))
theorem boolsC_size (p : Nat → Bool) : (boolsC p).size = 64 := by unfold boolsC; exact tab_size _ _
theorem boolsC_get (p : Nat → Bool) (j : Nat) (h : j < 64) : (boolsC p)[j]? = some (.bool (p j)) := by unfold boolsC; rw [tab_get_lt h]
theorem boolsC_congr {p q : Nat → Bool} (h : ∀ j, j < 64 → p j = q j) : boolsC p = boolsC q := by
  unfold boolsC; exact tab_congr fun i hi => by rw [h i hi]
theorem arr_set_get {α : Type} (c : Array α) (o i : Nat) (v : α) : (c.setIfInBounds o v)[i]? = if o = i then (if i < c.size then some v else none) else c[i]? := by
  rw [Array.getElem?_setIfInBounds]
  split
  · rename_i h; subst h; rfl
  · rfl
theorem boolsC_set (p : Nat → Bool) (j : Nat) (h : j < 64) (b : Bool) : (boolsC p).setIfInBounds j (.bool b) = boolsC (upd p j b) := by
  apply Array.ext_getElem?
  intro i
  rw [arr_set_get, boolsC_size]
  by_cases hi : i < 64
  · rw [boolsC_get _ i hi, boolsC_get _ i hi]
    by_cases hj : j = i
    · subst hj; rw [if_pos rfl, if_pos h, upd_same]
    · rw [if_neg hj, upd_other _ _ _ (Ne.symm hj)]
  · rw [Array.getElem?_eq_none (by rw [boolsC_size]; omega), Array.getElem?_eq_none (by rw [boolsC_size]; omega)]
    split
    · rfl
    · rfl
theorem rosterC_cell (r : Nat → Entry) (p : Nat) (h : p < 192) : (rosterC r)[p]? = some (entCell r p) := by unfold rosterC; rw [tab_get_lt h]
theorem keysC_cell (k : Nat → Key) (p : Nat) (h : p < 42) : (keysC k)[p]? = some (keyCell k p) := by unfold keysC; rw [tab_get_lt h]
theorem rosterC_set3 (r : Nat → Entry) (j : Nat) (_h : j < 64) (a b c : Int) : (((rosterC r).setIfInBounds (j * 3) (I a)).setIfInBounds (j * 3 + 1) (I b)).setIfInBounds (j * 3 + 2) (I c) = rosterC (upd r j ⟨a, b, c⟩) := by
  apply Array.ext_getElem?
  intro i
  rw [arr_set_get, arr_set_get, arr_set_get]
  simp only [Array.size_setIfInBounds, rosterC_size]
  by_cases hi : i < 192
  · rw [rosterC_cell _ i hi, rosterC_cell _ i hi]
    by_cases h2 : j * 3 + 2 = i
    · subst h2; rw [if_pos rfl, if_pos hi]; unfold entCell; rw [if_neg (by omega), if_neg (by omega), show (j * 3 + 2) / 3 = j by omega, upd_same]
    · rw [if_neg h2]
      by_cases h1 : j * 3 + 1 = i
      · subst h1; rw [if_pos rfl, if_pos hi]; unfold entCell; rw [if_neg (by omega), if_pos (by omega), show (j * 3 + 1) / 3 = j by omega, upd_same]
      · rw [if_neg h1]
        by_cases h0 : j * 3 = i
        · subst h0; rw [if_pos rfl, if_pos hi]; unfold entCell; rw [if_pos (by omega), show (j * 3) / 3 = j by omega, upd_same]
        · rw [if_neg h0]
          congr 1
          apply entCell_eq
          rw [upd_other _ _ _ (by omega)]
  · rw [Array.getElem?_eq_none (by rw [rosterC_size]; omega), Array.getElem?_eq_none (by rw [rosterC_size]; omega)]
    simp [hi]
theorem keysC_set2 (k : Nat → Key) (j : Nat) (_h : j < 21) (a b : Int) : ((keysC k).setIfInBounds (j * 2) (I a)).setIfInBounds (j * 2 + 1) (I b) = keysC (upd k j ⟨a, b⟩) := by
  apply Array.ext_getElem?
  intro i
  rw [arr_set_get, arr_set_get]
  simp only [Array.size_setIfInBounds, keysC_size]
  by_cases hi : i < 42
  · rw [keysC_cell _ i hi, keysC_cell _ i hi]
    by_cases h1 : j * 2 + 1 = i
    · subst h1; rw [if_pos rfl, if_pos hi]; unfold keyCell; rw [if_neg (by omega), show (j * 2 + 1) / 2 = j by omega, upd_same]
    · rw [if_neg h1]
      by_cases h0 : j * 2 = i
      · subst h0; rw [if_pos rfl, if_pos hi]; unfold keyCell; rw [if_pos (by omega), show (j * 2) / 2 = j by omega, upd_same]
      · rw [if_neg h0]
        congr 1
        apply keyCell_eq
        rw [upd_other _ _ _ (by omega)]
  · rw [Array.getElem?_eq_none (by rw [keysC_size]; omega), Array.getElem?_eq_none (by rw [keysC_size]; omega)]
    simp [hi]
end Cot
namespace Go.Proofs.YtodgcmakdndbfaaDoor
open Go.RowKit Cot
@[go_sem] theorem boolsC_getS (p : Nat → Bool) (j : Nat) (h : j < 64) : (boolsC p)[j]? = some (.bool (p j)) := boolsC_get p j h
@[go_sem] theorem cellsIn_bools (k : Nat → Bool) : cellsIn (boolsC k) 0 64 = some (boolsC k) := by
  have h := boolsC_size k
  simp only [cellsIn, h]
  rw [if_pos (by omega)]
  congr 1
  rw [show (0 + 64 : Nat) = (boolsC k).size by rw [h]]
  simp
@[go_sem] theorem boolsC_size_b (k : Nat → Bool) : ((boolsC k).size == 64) = true := by rw [boolsC_size]; rfl
@[go_sem ↓] theorem loadAt_bools (x : Value) : Instr.loadAt 84 x = ldBig 84 x := rfl
@[go_sem] theorem load_bools (w : World) (b off : Nat) : (ldBig 84 (.pointer (some ⟨b, off, none⟩))).run Tryd.prog w = match cellsAt w ⟨b, off, none⟩ 64 with | some cs => .ok (.agg cs) w | none => (ldBig' 84 (.pointer (some ⟨b, off, none⟩))).run Tryd.prog w := by
  split
  · rename_i cs h; exact (run_loadVar_big _ 64 _ Tryd.underlying84 rfl (by kernel_rfl) w b off (by rw [h]; rfl)).trans (by rw [h]; rfl)
  · rfl
@[go_sem ↓] theorem storeAt_bools (x v : Value) : Instr.storeAt 84 x v = stBig 84 x v := rfl
theorem oneCell_bools (k : Nat → Bool) : ∀ v ∈ (boolsC k).toList, v.oneCell' = true := by unfold boolsC; exact oneCell_tab _ _ fun p => rfl
@[go_sem] theorem store_bools (w : World) (b : Nat) (k : Nat → Bool) : (stBig 84 (.pointer (some ⟨b, 0, none⟩)) (.agg (boolsC k))).run Tryd.prog w = if rowOf w b 64 = true then .ok () (w.setRow b (boolsC k)) else (stBig' 84 (.pointer (some ⟨b, 0, none⟩)) (.agg (boolsC k))).run Tryd.prog w := by
  split
  · rename_i h; exact run_stBig _ 64 (by kernel_rfl) _ (boolsC_size k) (oneCell_bools k) w b h
  · rfl
@[go_sem ↓] theorem alloc_at_bools (v : Value) : Instr.alloc 84 true v = alBig 84 v := rfl
def bools0 : Nat → Bool := fun _ => false
@[go_sem] theorem alloc_bools (w : World) : (alBig 84 (.tuple #[])).run Tryd.prog w = .ok (.pointer (some ⟨w.heap.size, 0, none⟩)) (w.alloc (.cells (boolsC bools0) 84)) := by kernel_rfl

/-- Block b holds these cells, and may be written. -/
def Blk (w : World) (b : Nat) (c : Array Value) (t : TypeId) : Prop := w.heap[b]? = some (.cells c t (0, 0))
section
variable {w : World} {b : Nat} {c : Array Value} {t : TypeId}
theorem Blk.lt (h : Blk w b c t) : b < w.heap.size := (Array.getElem?_eq_some_iff.1 h).1
theorem Blk.cell (h : Blk w b c t) (o : Nat) : w.cell? ⟨b, o, none⟩ = c[o]? := by unfold Blk at h; simp [World.cell?, h]
theorem Blk.frozen (h : Blk w b c t) (o : Nat) : w.frozen? ⟨b, o, none⟩ = false := by unfold Blk at h; simp [World.frozen?, h]
theorem Blk.at (h : Blk w b c t) (o n : Nat) : cellsAt w ⟨b, o, none⟩ n = cellsIn c o n := by unfold Blk at h; simp [cellsAt, h]
theorem Blk.row (h : Blk w b c t) (n : Nat) : rowOf w b n = (c.size == n) := by unfold Blk at h; simp [rowOf, h]
theorem Blk.kept {w' : World} {B : Nat} (h : Blk w b c t) (k : Below B w w') (hB : b < B) : Blk w' b c t := (k.block b hB).trans h
theorem Blk.alloc (h : Blk w b c t) (o : Obj) : Blk (w.alloc o) b c t := (Below.heap_alloc w o b h.lt).trans h
theorem Blk.drew (h : Blk w b c t) : Blk w.drew b c t := h
theorem Blk.drewN (h : Blk w b c t) (n : Nat) : Blk (w.drewN n) b c t := h
theorem Blk.set (h : Blk w b c t) (o : Nat) (v : Value) : Blk (w.setCell ⟨b, o, none⟩ v) b (c.setIfInBounds o v) t := by
  unfold Blk at *
  simp only [World.setCell, Array.getElem?_modify, if_true, h, Option.map_some, Option.isSome_none, Bool.false_eq_true, if_false]
theorem Blk.set_other (h : Blk w b c t) {a : Addr} (ha : b ≠ a.block) (v : Value) : Blk (w.setCell a v) b c t := (Below.heap_setCell w a v b ha).trans h
theorem Blk.put_other (h : Blk w b c t) {m : Nat} (hm : b ≠ m) (k v : Int) : Blk (mapPut w m k v) b c t := (mapPut_other w m k v hm).trans h
theorem Blk.new (w : World) (c : Array Value) (t : TypeId) : Blk (w.alloc (.cells c t)) w.heap.size c t := Go.heap_alloc_new _ _
theorem Blk.cast {d : Array Value} (h : Blk w b c t) (e : c = d) : Blk w b d t := e ▸ h
end
theorem Blk.ent {w : World} {b : Nat} {t : TypeId} {r : Nat → Entry} (h : Blk w b (rosterC r) t) (j : Nat) (hj : j < 64) (x y z : Int) :
    Blk (((w.setCell ⟨b, j * 3, none⟩ (I x)).setCell ⟨b, j * 3 + 1, none⟩ (I y)).setCell ⟨b, j * 3 + 2, none⟩ (I z)) b (rosterC (upd r j ⟨x, y, z⟩)) t :=
  (((h.set _ _).set _ _).set _ _).cast (rosterC_set3 r j hj x y z)
theorem Blk.key {w : World} {b : Nat} {t : TypeId} {k : Nat → Key} (h : Blk w b (keysC k) t) (j : Nat) (hj : j < 21) (x y : Int) :
    Blk ((w.setCell ⟨b, j * 2, none⟩ (I x)).setCell ⟨b, j * 2 + 1, none⟩ (I y)) b (keysC (upd k j ⟨x, y⟩)) t :=
  ((h.set _ _).set _ _).cast (keysC_set2 k j hj x y)
theorem Blk.boo {w : World} {b : Nat} {t : TypeId} {p : Nat → Bool} (h : Blk w b (boolsC p) t) (j : Nat) (hj : j < 64) (x : Bool) :
    Blk (w.setCell ⟨b, j, none⟩ (.bool x)) b (boolsC (upd p j x)) t := (h.set _ _).cast (boolsC_set p j hj x)
/-! the same loads, where a function's results are read -/
def ldV (t : TypeId) (a : Addr) : Sem Value := loadVar t a
def ldV' (t : TypeId) (a : Addr) : Sem Value := loadVar t a
@[go_sem ↓] theorem loadVar_bools (a : Addr) : loadVar 84 a = ldV 84 a := rfl
@[go_sem] theorem ldV_bools (w : World) (b off : Nat) : (ldV 84 ⟨b, off, none⟩).run Tryd.prog w = match cellsAt w ⟨b, off, none⟩ 64 with | some cs => .ok (.agg cs) w | none => (ldV' 84 ⟨b, off, none⟩).run Tryd.prog w := by
  split
  · rename_i cs h; exact (run_loadVar_big _ 64 _ Tryd.underlying84 rfl (by kernel_rfl) w b off (by rw [h]; rfl)).trans (by rw [h]; rfl)
  · rfl
@[go_sem ↓] theorem loadVar_keys (a : Addr) : loadVar 25 a = ldV 25 a := rfl
@[go_sem] theorem ldV_keys (w : World) (b off : Nat) : (ldV 25 ⟨b, off, none⟩).run Tryd.prog w = match cellsAt w ⟨b, off, none⟩ 42 with | some cs => .ok (.agg cs) w | none => (ldV' 25 ⟨b, off, none⟩).run Tryd.prog w := by
  split
  · rename_i cs h; exact (run_loadVar_big _ 42 _ Tryd.underlying25 rfl (by kernel_rfl) w b off (by rw [h]; rfl)).trans (by rw [h]; rfl)
  · rfl
@[go_sem ↓] theorem loadVar_roster (a : Addr) : loadVar 29 a = ldV 29 a := rfl
@[go_sem] theorem ldV_roster (w : World) (b off : Nat) : (ldV 29 ⟨b, off, none⟩).run Tryd.prog w = match cellsAt w ⟨b, off, none⟩ 192 with | some cs => .ok (.agg cs) w | none => (ldV' 29 ⟨b, off, none⟩).run Tryd.prog w := by
  split
  · rename_i cs h; exact (run_loadVar_big _ 192 _ Tryd.underlying29 rfl (by kernel_rfl) w b off (by rw [h]; rfl)).trans (by rw [h]; rfl)
  · rfl
@[go_sem ↓] theorem loadVar_tree (a : Addr) : loadVar 31 a = ldV 31 a := rfl
@[go_sem] theorem ldV_tree (w : World) (b off : Nat) : (ldV 31 ⟨b, off, none⟩).run Tryd.prog w = match cellsAt w ⟨b, off, none⟩ 236 with | some cs => .ok (.agg cs) w | none => (ldV' 31 ⟨b, off, none⟩).run Tryd.prog w := by
  split
  · rename_i cs h; exact (run_loadVar_big _ 236 _ Tryd.underlying31 rfl (by kernel_rfl) w b off (by rw [h]; rfl)).trans (by rw [h]; rfl)
  · rfl
theorem Blk.setRow {w : World} {b : Nat} {c : Array Value} {t : TypeId} (h : Blk w b c t) (cs : Array Value) : Blk (w.setRow b cs) b cs t := setRow_heap w b c cs t _ h
end Go.Proofs.YtodgcmakdndbfaaDoor
