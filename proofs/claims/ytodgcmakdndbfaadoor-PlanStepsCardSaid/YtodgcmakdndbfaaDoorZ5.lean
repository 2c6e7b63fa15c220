/-
  Parts of a proof: Check3, Check4, Check5. Merged by program.
-/
import Derived.Test.YtodgcmakdndbfaaDoorZ4
/-
  Contracts: roster.Check. Printed by wip/gen/gk.py.
-/
namespace Go.Proofs.YtodgcmakdndbfaaDoor
open Go.RowKit Cot
set_option linter.unusedSimpArgs false
set_option linter.unusedVariables false

/-- Is the entry none? -/
def entNz (r : Nat → Entry) (i : Nat) : Bool := !((r i).who == 0 && ((r i).base == 0 && (r i).since == 0))
theorem entNz_iff (r : Nat → Entry) (i : Nat) : entNz r i = true ↔ r i ≠ Entry.zero := by
  unfold entNz Entry.zero
  cases h : r i
  simp
  constructor
  · rintro (a | b | c) h1 h2 h3 <;> contradiction
  · intro h
    by_cases a : (r i).who = 0 <;> by_cases b : (r i).base = 0 <;> simp_all
def cntE (r : Nat → Entry) (f : Entry → Int) (n : Nat) (x : Int) : Nat := cntOf (fun i => entNz r i && f (r i) == x) n
theorem cntE_zero {r : Nat → Entry} {f : Entry → Int} {n : Nat} {x : Int} (h : entNz r n = false) : cntE r f (n + 1) x = cntE r f n x := by
  show cntOf _ _ + _ = _
  simp [h, cntE]
theorem cntE_one {r : Nat → Entry} {f : Entry → Int} {n : Nat} {x : Int} (h : entNz r n = true) : cntE r f (n + 1) x = cntE r f n x + if f (r n) = x then 1 else 0 := by
  show cntOf _ _ + _ = _
  simp [h, cntE]
theorem cntOf_pos (p : Nat → Bool) : ∀ n, 0 < cntOf p n ↔ ∃ i, i < n ∧ p i = true
  | 0 => by simp [cntOf]
  | j + 1 => by
    have ih := cntOf_pos p j
    unfold cntOf
    constructor
    · intro h
      by_cases hj : p j = true
      · exact ⟨j, by omega, hj⟩
      · rw [if_neg hj] at h
        obtain ⟨i, hi, e⟩ := ih.1 (by omega)
        exact ⟨i, by omega, e⟩
    · rintro ⟨i, hi, e⟩
      by_cases hij : i = j
      · subst hij; rw [if_pos e]; omega
      · have := ih.2 ⟨i, by omega, e⟩; omega
def entOk (r : Nat → Entry) (j : Nat) : Prop := r j = Entry.zero ∨ (rightE (r j) ∧ ∀ i, i < j → r i = Entry.zero ∨ ((r i).who ≠ (r j).who ∧ (r i).base ≠ (r j).base))
theorem checkRoster_no {r : Nat → Entry} {n : Nat} (hn : n < 64) (h : ¬ entOk r n) : checkRosterI r = 31 := by
  unfold checkRosterI; rw [if_neg (fun hr => h (hr n hn))]
theorem cntE_none {r : Nat → Entry} {f : Entry → Int} {n : Nat} {x : Int} (h : cntE r f n x = 0) : ∀ i, i < n → r i = Entry.zero ∨ f (r i) ≠ x := by
  intro i hi
  by_cases hz : r i = Entry.zero
  · exact Or.inl hz
  · refine Or.inr fun e => ?_
    have := (cntOf_pos (fun i => entNz r i && f (r i) == x) n).2 ⟨i, hi, by rw [(entNz_iff r i).2 hz, e]; simp⟩
    unfold cntE at h; omega
theorem cntE_some {r : Nat → Entry} {f : Entry → Int} {n : Nat} {x : Int} (h : cntE r f n x ≠ 0) : ∃ i, i < n ∧ r i ≠ Entry.zero ∧ f (r i) = x := by
  obtain ⟨i, hi, e⟩ := (cntOf_pos (fun i => entNz r i && f (r i) == x) n).1 (by unfold cntE at h; omega)
  simp only [Bool.and_eq_true, beq_iff_eq] at e
  exact ⟨i, hi, (entNz_iff r i).1 e.1, e.2⟩
/-- Two maps behind stores into both, a new block and a call that leaves them. -/
theorem mapAfter2 {w w' W : World} {b c n m : Nat} {k v k2 v2 : Int} (h : isII w b n) (g : isII w c m) (hne : b ≠ c) (hn : n < 4611686018427387904) (hm : m < 4611686018427387904) (hk : I64 k) (hv : I64 v) (hk2 : I64 k2) (hv2 : I64 v2)
    (hW : ∀ i, i = b ∨ i = c → W.heap[i]? = (mapPut (mapPut w b k v) c k2 v2).heap[i]?) (hb : Below W.heap.size W w') (hlt : b < W.heap.size) (hlt2 : c < W.heap.size) :
    (isII w' b (n + 1) ∧ ∀ x, mapFn w' b x = if x = k then some v else mapFn w b x) ∧ isII w' c (m + 1) ∧ ∀ x, mapFn w' c x = if x = k2 then some v2 else mapFn w c x := by
  refine ⟨mapAfter h hn hk hv ((hW b (Or.inl rfl)).trans (mapPut_other _ c k2 v2 hne)) hb hlt, ?_⟩
  have g' : isII (mapPut w b k v) c m := (isII_of_block (mapPut_other w b k v hne.symm)).2 g
  obtain ⟨a1, a2⟩ := mapAfter g' hm hk2 hv2 (hW c (Or.inr rfl)) hb hlt2
  exact ⟨a1, fun x => by rw [a2, mapFn_of_block (mapPut_other w b k v hne.symm)]⟩
set_option maxHeartbeats 800000 in
theorem roster_Check (r : Nat → Entry) (hw : ∀ j, I64 (r j).base) (hw2 : ∀ j, I64 (r j).who) (w : World) : Calls Tryd.prog 69 #[.agg (rosterC r)] w fun e w' => e = .returned (.int .i64 (checkRosterI r)) ∧ Below w.heap.size w w' := by
  have hmm := @run_makeMap Tryd.prog
  go_enter Tryd.func69, Tryd.ntmps69
  go_wp2
  go_loopw [6, 10] (fun _ i wr => ∃ n : Nat, n ≤ 64 ∧ i = .int .i64 n ∧ (∀ j, j < n → entOk r j) ∧ isII wr (w.heap.size + 1) n ∧ isII wr (w.heap.size + 1 + 1) n ∧
    (∀ x, (mapFn wr (w.heap.size + 1) x).getD 0 = cntE r Entry.who n x) ∧ (∀ x, (mapFn wr (w.heap.size + 1 + 1) x).getD 0 = cntE r Entry.base n x) ∧ Below w.heap.size w wr) (fun _ i _ => 64 - (intOf i).toNat)
  case atStart =>
    have hA := isII_new (w.alloc (.cells (rosterC r) 29))
    have hB := isII_new ((w.alloc (.cells (rosterC r) 29)).alloc (.map #[] 0))
    have fA := mapFn_new (w.alloc (.cells (rosterC r) 29))
    have fB := mapFn_new ((w.alloc (.cells (rosterC r) 29)).alloc (.map #[] 0))
    simp only [World.size_alloc] at hA hB fA fB
    refine ⟨0, by omega, rfl, by omega, hA.alloc _, hB, fun x => ?_, fun x => ?_, bAlloc (bAlloc (bAlloc (Below.refl _ _) _) _) _⟩
    · rw [mapFn_of_block (Below.heap_alloc _ _ _ hA.lt), fA]; rfl
    · rw [fB]; rfl
  case round =>
    obtain ⟨n, hn, rfl, hok, i1, i2, f1, f2, hbel⟩ := hrel
    by_cases hlt : n < 64
    · have hlt' : (n : Int) < 64 := by omega
      have m1 := i1.m (by omega)
      have m2 := i2.m (by omega)
      have l1 := i1.lt
      have l2 := i2.lt
      have c1 : cntE r Entry.who n (r n).who ≤ n := cntOf_le _ _
      have c2 : cntE r Entry.base n (r n).base ≤ n := cntOf_le _ _
      have w1 := hw n
      have w2 := hw2 n
      have g1 := f1 (r n).who
      have g2 := f2 (r n).base
      have I1 := Lib.hid i1; clear i1
      have I2 := Lib.hid i2; clear i2
      have F1 := Lib.hid f1; clear f1
      have F2 := Lib.hid f2; clear f2
      have OK := Lib.hid hok; clear hok
      by_cases hzz : entNz r n = true
      · have hz : ((r n).who == 0 && ((r n).base == 0 && (r n).since == 0)) = false := by unfold entNz at hzz; revert hzz; generalize ((r n).who == 0 && ((r n).base == 0 && (r n).since == 0)) = q; intro hq; simpa using hq
        have hnz := (entNz_iff r n).1 hzz
        have HZ := Lib.hid hzz; clear hzz
        have HNZ := Lib.hid hnz; clear hnz
        by_cases hg : rightE (r n)
        · have hd : decide (rightE ⟨(r n).who, (r n).base, (r n).since⟩) = true := decide_eq_true hg
          have HG := Lib.hid hg; clear hg
          by_cases h1 : cntE r Entry.who n (r n).who = 0
          · by_cases h2 : cntE r Entry.base n (r n).base = 0
            · have hyes : entOk r n := Or.inr ⟨HG.out, fun i hi => by
                rcases cntE_none h1 i hi with h | h
                · exact Or.inl h
                · rcases cntE_none h2 i hi with h' | h'
                  · exact Or.inl h'
                  · exact Or.inr ⟨h, h'⟩⟩
              have HY := Lib.hid hyes; clear hyes
              go_wp2_with (go_at_call 85; refine (roster_right _ _ _ _).mono ?_; rintro e w' ⟨rfl, hb⟩; obtain ⟨bc, bf, ba, br, bz⟩ := bFacts hb; have hcE := fun o => bc wr.heap.size o (by simp only [World.size_alloc, World.size_setCell, World.size_drew, mapPut_size]; omega); obtain ⟨⟨hi2, hf2⟩, hi3, hf3⟩ := mapAfter2 I1.out I2.out (by omega) (by omega) (by omega) w2 (by unfold I64; omega) w1 (by unfold I64; omega) (fun i hi => Below.heap_alloc _ _ _ (by simp only [World.size_alloc, World.size_setCell, World.size_drew, mapPut_size]; rcases hi with rfl | rfl <;> omega)) hb (by simp only [World.size_alloc, World.size_setCell, World.size_drew, mapPut_size]; omega) (by simp only [World.size_alloc, World.size_setCell, World.size_drew, mapPut_size]; omega); have hm2 := hi2.m (by omega); have hm3 := hi3.m (by omega); have hq2 := hf2 (r n).who; have hq3 := hf3 (r n).base; rw [if_pos rfl] at hq2 hq3; have HI2 := Lib.hid hi2; have HI3 := Lib.hid hi3; have HF2 := Lib.hid hf2; have HF3 := Lib.hid hf3; clear bc bf ba br bz hi2 hi3 hf2 hf3; simp only [hd])
              go_roundw
              case rel => exact ⟨n + 1, by omega, by go_num, fun j hj => by rcases Nat.lt_succ_iff_lt_or_eq.1 hj with h | h; exact OK.out j h; subst h; exact HY.out, HI2.out, HI3.out, fun x => by
                  rw [HF2.out, cntE_one HZ.out]; split
                  · rename_i e; subst e; rw [if_pos rfl]; simp; omega
                  · rename_i e; rw [F1.out, if_neg (fun e' => e e'.symm)]; simp, fun x => by
                  rw [HF3.out, cntE_one HZ.out]; split
                  · rename_i e; subst e; rw [if_pos rfl]; simp; omega
                  · rename_i e; rw [F2.out, if_neg (fun e' => e e'.symm)]; simp, bCall' hb (bAlloc (Below_mapPut (Below_mapPut hbel (Nat.le_add_right _ _) _ _) (by omega) _ _) _)⟩
              case measure => simp [intOf]; omega
            · have hno : checkRosterI r = 31 := checkRoster_no hlt (fun h => by
                obtain ⟨i, hi, e1, e2⟩ := cntE_some h2
                rcases h with h | h
                · exact HNZ.out h
                · rcases h.2 i hi with h' | h'
                  · exact e1 h'
                  · exact h'.2 e2)
              have h2' : 1 ≤ cntE r Entry.base n (r n).base := by omega
              clear h2
              have HN := Lib.hid hno; clear hno
              go_wp2_with (go_at_call 85; refine (roster_right _ _ _ _).mono ?_; rintro e w' ⟨rfl, hb⟩; obtain ⟨bc, bf, ba, br, bz⟩ := bFacts hb; have hcE := fun o => bc wr.heap.size o (by simp only [World.size_alloc, World.size_setCell, World.size_drew, mapPut_size]; omega); obtain ⟨⟨hi2, hf2⟩, hi3, hf3⟩ := mapAfter2 I1.out I2.out (by omega) (by omega) (by omega) w2 (by unfold I64; omega) w1 (by unfold I64; omega) (fun i hi => Below.heap_alloc _ _ _ (by simp only [World.size_alloc, World.size_setCell, World.size_drew, mapPut_size]; rcases hi with rfl | rfl <;> omega)) hb (by simp only [World.size_alloc, World.size_setCell, World.size_drew, mapPut_size]; omega) (by simp only [World.size_alloc, World.size_setCell, World.size_drew, mapPut_size]; omega); have hm2 := hi2.m (by omega); have hm3 := hi3.m (by omega); have hq2 := hf2 (r n).who; have hq3 := hf3 (r n).base; rw [if_pos rfl] at hq2 hq3; have HI2 := Lib.hid hi2; have HI3 := Lib.hid hi3; have HF2 := Lib.hid hf2; have HF3 := Lib.hid hf3; clear bc bf ba br bz hi2 hi3 hf2 hf3; simp only [hd])
              go_ret
              exact ⟨by rw [HN.out]; rfl, bCall' hb (bAlloc (Below_mapPut (Below_mapPut hbel (Nat.le_add_right _ _) _ _) (by omega) _ _) _)⟩
          · have hno : checkRosterI r = 31 := checkRoster_no hlt (fun h => by
              obtain ⟨i, hi, e1, e2⟩ := cntE_some h1
              rcases h with h | h
              · exact HNZ.out h
              · rcases h.2 i hi with h' | h'
                · exact e1 h'
                · exact h'.1 e2)
            have h1' : 1 ≤ cntE r Entry.who n (r n).who := by omega
            clear h1
            have HN := Lib.hid hno; clear hno
            go_wp2_with (go_at_call 85; refine (roster_right _ _ _ _).mono ?_; rintro e w' ⟨rfl, hb⟩; obtain ⟨bc, bf, ba, br, bz⟩ := bFacts hb; have hcE := fun o => bc wr.heap.size o (by simp only [World.size_alloc, World.size_setCell, World.size_drew, mapPut_size]; omega); obtain ⟨⟨hi2, hf2⟩, hi3, hf3⟩ := mapAfter2 I1.out I2.out (by omega) (by omega) (by omega) w2 (by unfold I64; omega) w1 (by unfold I64; omega) (fun i hi => Below.heap_alloc _ _ _ (by simp only [World.size_alloc, World.size_setCell, World.size_drew, mapPut_size]; rcases hi with rfl | rfl <;> omega)) hb (by simp only [World.size_alloc, World.size_setCell, World.size_drew, mapPut_size]; omega) (by simp only [World.size_alloc, World.size_setCell, World.size_drew, mapPut_size]; omega); have hm2 := hi2.m (by omega); have hm3 := hi3.m (by omega); have hq2 := hf2 (r n).who; have hq3 := hf3 (r n).base; rw [if_pos rfl] at hq2 hq3; have HI2 := Lib.hid hi2; have HI3 := Lib.hid hi3; have HF2 := Lib.hid hf2; have HF3 := Lib.hid hf3; clear bc bf ba br bz hi2 hi3 hf2 hf3; simp only [hd])
            go_ret
            exact ⟨by rw [HN.out]; rfl, bCall' hb (bAlloc (Below_mapPut (Below_mapPut hbel (Nat.le_add_right _ _) _ _) (by omega) _ _) _)⟩
        · have hd : decide (rightE ⟨(r n).who, (r n).base, (r n).since⟩) = false := decide_eq_false hg
          have hno : checkRosterI r = 31 := checkRoster_no hlt (fun h => by
            rcases h with h | h
            · exact HNZ.out h
            · exact hg h.1)
          clear hg
          have HN := Lib.hid hno; clear hno
          go_wp2_with (go_at_call 85; refine (roster_right _ _ _ _).mono ?_; rintro e w' ⟨rfl, hb⟩; obtain ⟨bc, bf, ba, br, bz⟩ := bFacts hb; have hcE := fun o => bc wr.heap.size o (by simp only [World.size_alloc, World.size_setCell, World.size_drew, mapPut_size]; omega); obtain ⟨⟨hi2, hf2⟩, hi3, hf3⟩ := mapAfter2 I1.out I2.out (by omega) (by omega) (by omega) w2 (by unfold I64; omega) w1 (by unfold I64; omega) (fun i hi => Below.heap_alloc _ _ _ (by simp only [World.size_alloc, World.size_setCell, World.size_drew, mapPut_size]; rcases hi with rfl | rfl <;> omega)) hb (by simp only [World.size_alloc, World.size_setCell, World.size_drew, mapPut_size]; omega) (by simp only [World.size_alloc, World.size_setCell, World.size_drew, mapPut_size]; omega); have hm2 := hi2.m (by omega); have hm3 := hi3.m (by omega); have hq2 := hf2 (r n).who; have hq3 := hf3 (r n).base; rw [if_pos rfl] at hq2 hq3; have HI2 := Lib.hid hi2; have HI3 := Lib.hid hi3; have HF2 := Lib.hid hf2; have HF3 := Lib.hid hf3; clear bc bf ba br bz hi2 hi3 hf2 hf3; simp only [hd])
          go_ret
          exact ⟨by rw [HN.out]; rfl, bCall' hb (bAlloc (Below_mapPut (Below_mapPut hbel (Nat.le_add_right _ _) _ _) (by omega) _ _) _)⟩
      · have hzf : entNz r n = false := by simpa using hzz
        have hz : ((r n).who == 0 && ((r n).base == 0 && (r n).since == 0)) = true := by unfold entNz at hzf; simpa using hzf
        have hyes : entOk r n := Or.inl (by
          by_cases h : r n = Entry.zero
          · exact h
          · exact absurd ((entNz_iff r n).2 h) hzz)
        have HY := Lib.hid hyes; clear hyes hzz
        have HZ := Lib.hid hzf; clear hzf
        go_wp2
        go_roundw
        case rel => exact ⟨n + 1, by omega, by go_num, fun j hj => by rcases Nat.lt_succ_iff_lt_or_eq.1 hj with h | h; exact OK.out j h; subst h; exact HY.out, (I1.out.alloc _).mono (by omega), (I2.out.alloc _).mono (by omega),
            fun x => by rw [mapFn_of_block (Below.heap_alloc _ _ _ I1.out.lt), F1.out, cntE_zero HZ.out], fun x => by rw [mapFn_of_block (Below.heap_alloc _ _ _ I2.out.lt), F2.out, cntE_zero HZ.out], bAlloc hbel _⟩
        case measure => simp [intOf]; omega
    · obtain rfl : n = 64 := by omega
      have hyes : checkRosterI r = 0 := by unfold checkRosterI; rw [if_pos (show RightRoster r from fun j hj => hok j hj)]
      have HY := Lib.hid hyes; clear hyes hok i1 i2 f1 f2
      go_wp2
      go_ret
      exact ⟨by rw [HY.out]; rfl, hbel⟩
end Go.Proofs.YtodgcmakdndbfaaDoor
/-
  Contracts: coterieref09.Check. Printed by wip/gen/gk.py.
-/
namespace Go.Proofs.YtodgcmakdndbfaaDoor
open Go.RowKit Cot
set_option linter.unusedSimpArgs false
set_option linter.unusedVariables false
set_option maxHeartbeats 1600000 in
theorem ref09_Check (r : Nat → Entry) (w : World) : Calls Tryd.prog 36 #[.agg (rosterC r)] w fun e w' => e = .returned (.int .i64 (checkRosterI r)) ∧ Below w.heap.size w w' := by
  go_enter Tryd.func36, Tryd.ntmps36
  go_wp2
  go_loopw [3, 4] (fun i _ wr => ∃ n : Nat, n ≤ 64 ∧ i = .int .i64 n ∧ (∀ j, j < n → entOk r j) ∧ Below (w.alloc (.cells (rosterC r) 29)).heap.size (w.alloc (.cells (rosterC r) 29)) wr) (fun i _ _ => 64 - (intOf i).toNat)
  case atStart => exact ⟨0, by omega, rfl, by omega, Below.refl _ _⟩
  case round =>
    obtain ⟨n, hn, rfl, hok, hbel⟩ := hrel
    by_cases hlt : n < 64
    · have hlt' : (n : Int) < 64 := by omega
      have OK := Lib.hid hok; clear hok
      obtain ⟨bc, bf, ba, br, bz⟩ := bFacts hbel; have hz := bSize hbel (n := w.heap.size + 1) (by first | omega | (simp; done) | (simp; omega)); have hc0 := fun o => bc w.heap.size o (by first | omega | (simp; done) | (simp; omega)); have hf0 := fun o => bf w.heap.size o (by first | omega | (simp; done) | (simp; omega)); clear bc bf ba br bz
      by_cases hzz : entNz r n = true
      · have hz : ((r n).who == 0 && ((r n).base == 0 && (r n).since == 0)) = false := by unfold entNz at hzz; revert hzz; generalize ((r n).who == 0 && ((r n).base == 0 && (r n).since == 0)) = q; intro hq; simpa using hq
        have hnz := (entNz_iff r n).1 hzz
        have HNZ := Lib.hid hnz; clear hnz hzz
        by_cases hg : rightE (r n)
        · have hd : decide (rightE ⟨(r n).who, (r n).base, (r n).since⟩) = true := decide_eq_true hg
          have HG := Lib.hid hg; clear hg
          go_wp2_with (first | (go_at_call 60; refine (ref09_Right _ _ _ _).mono ?_; rintro e w' ⟨rfl, hb⟩; obtain ⟨bc, bf, ba, br, bz⟩ := bFacts hb; have hz := bSize hb (n := w.heap.size + 1) (by first | omega | (simp; done) | (simp; omega)); have hc0 := fun o => bc w.heap.size o (by first | omega | (simp; done) | (simp; omega)); have hf0 := fun o => bf w.heap.size o (by first | omega | (simp; done) | (simp; omega)); clear bc bf ba br bz; simp only [hd]))
          go_loopw [4] (fun i wq => ∃ m : Nat, m ≤ n ∧ i = .int .i64 m ∧ (∀ j, j < m → r j = Entry.zero ∨ ((r j).who ≠ (r n).who ∧ (r j).base ≠ (r n).base)) ∧ Below (w.alloc (.cells (rosterC r) 29)).heap.size (w.alloc (.cells (rosterC r) 29)) wq) (fun i _ => n - (intOf i).toNat)
          case atStart => exact ⟨0, by omega, rfl, by omega, bCall hbel hb⟩
          case round =>
            clear hc0 hf0 hz hb hbel
            obtain ⟨m, hm, rfl, hne, hbq⟩ := hrel
            obtain ⟨bc, bf, ba, br, bz⟩ := bFacts hbq; have hz := bSize hbq (n := w.heap.size + 1) (by first | omega | (simp; done) | (simp; omega)); have hc0 := fun o => bc w.heap.size o (by first | omega | (simp; done) | (simp; omega)); have hf0 := fun o => bf w.heap.size o (by first | omega | (simp; done) | (simp; omega)); clear bc bf ba br bz
            have HNE := Lib.hid hne; clear hne
            by_cases hml : m < n
            · have hml' : (m : Int) < (n : Int) := by omega
              have hml2 : (m : Int) < 64 := by omega
              have hml3 : m < 64 := by omega
              by_cases h0 : (r m).base = 0
              · have hbad : r m = Entry.zero := by
                  rcases OK.out m hml with h | h
                  · exact h
                  · have := h.1.2.1.1; omega
                have HB := Lib.hid hbad; clear hbad
                have h0' : ((r m).base != 0) = false := by simpa using h0
                clear h0
                go_wp2
                go_quiet (fail)
                go_wp2
                go_roundw
                case rel => exact ⟨m + 1, by omega, by go_num, fun j hj => by rcases Nat.lt_succ_iff_lt_or_eq.1 hj with h | h; exact HNE.out j h; subst h; exact Or.inl HB.out, bDrewN hbq _⟩
                case measure => simp [intOf]; omega
              · have h0' : ((r m).base != 0) = true := by simpa using h0
                by_cases he : (r m).who = (r n).who
                · have he' : ((r m).who == (r n).who) = true := by simpa using he
                  have hno : checkRosterI r = 31 := checkRoster_no hlt (fun h => by
                    rcases h with h | h
                    · exact HNZ.out h
                    · rcases h.2 m hml with h' | h'
                      · rw [h'] at h0; exact absurd rfl h0
                      · exact h'.1 he)
                  have HN := Lib.hid hno; clear hno he h0
                  go_wp2
                  go_quiet (fail)
                  go_wp2
                  go_ret
                  exact ⟨by rw [HN.out]; rfl, bDrewN (bCall' hbq (bAlloc (Below.refl _ _) _)) _⟩
                · have he' : ((r m).who == (r n).who) = false := by simpa using he
                  by_cases he2 : (r m).base = (r n).base
                  · have he2' : ((r m).base == (r n).base) = true := by simpa using he2
                    have hno : checkRosterI r = 31 := checkRoster_no hlt (fun h => by
                      rcases h with h | h
                      · exact HNZ.out h
                      · rcases h.2 m hml with h' | h'
                        · rw [h'] at h0; exact absurd rfl h0
                        · exact h'.2 he2)
                    have HN := Lib.hid hno; clear hno he he2 h0
                    go_wp2
                    go_quiet (fail)
                    go_wp2
                    go_ret
                    exact ⟨by rw [HN.out]; rfl, bDrewN (bCall' hbq (bAlloc (Below.refl _ _) _)) _⟩
                  · have he2' : ((r m).base == (r n).base) = false := by simpa using he2
                    have HE := Lib.hid he; clear he
                    have HE2 := Lib.hid he2; clear he2 h0
                    go_wp2
                    go_quiet (fail)
                    go_wp2
                    go_roundw
                    case rel => exact ⟨m + 1, by omega, by go_num, fun j hj => by rcases Nat.lt_succ_iff_lt_or_eq.1 hj with h | h; exact HNE.out j h; subst h; exact Or.inr ⟨HE.out, HE2.out⟩, bDrewN hbq _⟩
                    case measure => simp [intOf]; omega
            · obtain rfl : m = n := by omega
              go_wp2
              go_roundw
              case rel => exact ⟨m + 1, by omega, by go_num, fun j hj => by rcases Nat.lt_succ_iff_lt_or_eq.1 hj with h | h; exact OK.out j h; subst h; exact Or.inr ⟨HG.out, HNE.out⟩, hbq⟩
              case measure => simp [intOf]; omega
        · have hd : decide (rightE ⟨(r n).who, (r n).base, (r n).since⟩) = false := decide_eq_false hg
          have hno : checkRosterI r = 31 := checkRoster_no hlt (fun h => by
            rcases h with h | h
            · exact HNZ.out h
            · exact hg h.1)
          have HN := Lib.hid hno; clear hno hg
          go_wp2_with (first | (go_at_call 60; refine (ref09_Right _ _ _ _).mono ?_; rintro e w' ⟨rfl, hb⟩; obtain ⟨bc, bf, ba, br, bz⟩ := bFacts hb; have hz := bSize hb (n := w.heap.size + 1) (by first | omega | (simp; done) | (simp; omega)); have hc0 := fun o => bc w.heap.size o (by first | omega | (simp; done) | (simp; omega)); have hf0 := fun o => bf w.heap.size o (by first | omega | (simp; done) | (simp; omega)); clear bc bf ba br bz; simp only [hd]))
          go_ret
          exact ⟨by rw [HN.out]; rfl, bCall' hb (bCall' hbel (bAlloc (Below.refl _ _) _))⟩
      · have hzf : entNz r n = false := by simpa using hzz
        have hz : ((r n).who == 0 && ((r n).base == 0 && (r n).since == 0)) = true := by unfold entNz at hzf; simpa using hzf
        have hyes : entOk r n := Or.inl (by
          by_cases h : r n = Entry.zero
          · exact h
          · exact absurd ((entNz_iff r n).2 h) hzz)
        have HY := Lib.hid hyes; clear hyes hzz hzf
        go_wp2
        go_roundw
        case rel => exact ⟨n + 1, by omega, by go_num, fun j hj => by rcases Nat.lt_succ_iff_lt_or_eq.1 hj with h | h; exact OK.out j h; subst h; exact HY.out, hbel⟩
        case measure => simp [intOf]; omega
    · obtain rfl : n = 64 := by omega
      have hyes : checkRosterI r = 0 := by unfold checkRosterI; rw [if_pos (show RightRoster r from fun j hj => hok j hj)]
      have HY := Lib.hid hyes; clear hyes hok
      go_wp2
      go_ret
      exact ⟨by rw [HY.out]; rfl, bCall' hbel (bAlloc (Below.refl _ _) _)⟩
end Go.Proofs.YtodgcmakdndbfaaDoor
/-
  Contracts: keytree.Check. Printed by wip/gen/gk.py.
-/
namespace Go.Proofs.YtodgcmakdndbfaaDoor
open Go.RowKit Cot
set_option linter.unusedSimpArgs false
set_option linter.unusedVariables false

theorem checkTree_no {t : Tree} (h : ¬ RightTree t) : checkTreeI t = 31 := by unfold checkTreeI; rw [if_neg h]
theorem checkTree_yes {t : Tree} (h : RightTree t) : checkTreeI t = 0 := by unfold checkTreeI; rw [if_pos h]
theorem checkKeys_of {k : Nat → Key} (h : RightKeys k) : checkKeysI k = 0 := by unfold checkKeysI; rw [if_pos h]
theorem checkKeys_not {k : Nat → Key} (h : ¬ RightKeys k) : checkKeysI k = 31 := by unfold checkKeysI; rw [if_neg h]
theorem checkRoster_of {k : Nat → Entry} (h : RightRoster k) : checkRosterI k = 0 := by unfold checkRosterI; rw [if_pos h]
theorem checkRoster_not {k : Nat → Entry} (h : ¬ RightRoster k) : checkRosterI k = 31 := by unfold checkRosterI; rw [if_neg h]
set_option maxHeartbeats 1600000 in
theorem keytree_Check (t : Tree) (hw : ∀ j, I64 (t.keys j).base) (hr : ∀ j, I64 (t.roster j).base) (hr2 : ∀ j, I64 (t.roster j).who) (w : World) : Calls Tryd.prog 44 #[.agg (treeC t)] w fun e w' => e = .returned (.int .i64 (checkTreeI t)) ∧ Below w.heap.size w w' := by
  have hmm := @run_makeMap Tryd.prog
  by_cases e0 : 0 ≤ t.epoch
  rotate_left
  · have hno : checkTreeI t = 31 := checkTree_no (fun h => by have := h.epoch0; omega)
    have HN := Lib.hid hno; clear hno
    go_enter Tryd.func44, Tryd.ntmps44
    go_wp2
    go_ret
    exact ⟨by rw [HN.out]; rfl, bAlloc (Below.refl _ _) _⟩
  by_cases e1 : t.epoch ≤ 200
  rotate_left
  · have hno : checkTreeI t = 31 := checkTree_no (fun h => by have := h.epoch1; omega)
    have HN := Lib.hid hno; clear hno
    go_enter Tryd.func44, Tryd.ntmps44
    go_wp2
    go_ret
    exact ⟨by rw [HN.out]; rfl, bAlloc (Below.refl _ _) _⟩
  by_cases e2 : 21 < t.fresh
  rotate_left
  · have hno : checkTreeI t = 31 := checkTree_no (fun h => by have := h.fresh0; omega)
    have HN := Lib.hid hno; clear hno
    go_enter Tryd.func44, Tryd.ntmps44
    go_wp2
    go_ret
    exact ⟨by rw [HN.out]; rfl, bAlloc (Below.refl _ _) _⟩
  by_cases e3 : t.fresh ≤ 32768
  rotate_left
  · have hno : checkTreeI t = 31 := checkTree_no (fun h => by have := h.fresh1; omega)
    have HN := Lib.hid hno; clear hno
    go_enter Tryd.func44, Tryd.ntmps44
    go_wp2
    go_ret
    exact ⟨by rw [HN.out]; rfl, bAlloc (Below.refl _ _) _⟩
  by_cases hk : RightKeys t.keys
  rotate_left
  · have hno : checkTreeI t = 31 := checkTree_no (fun h => hk h.keys)
    have HN := Lib.hid hno; clear hno
    have hk1 := checkKeys_not hk
    clear hk
    go_enter Tryd.func44, Tryd.ntmps44
    go_wp2_with (first | (go_at_call 68; refine (ratchet_Check _ hw _).mono ?_; rintro e w' ⟨rfl, hb⟩; obtain ⟨bc, bf, ba, br, bz⟩ := bFacts hb; have hz := bSize hb (n := w.heap.size + 1) (by first | omega | (simp; done) | (simp; omega)); have hc0 := fun o => bc w.heap.size o (by first | omega | (simp; done) | (simp; omega)); have hf0 := fun o => bf w.heap.size o (by first | omega | (simp; done) | (simp; omega)); have ha0 := fun o k => ba w.heap.size o k (by first | omega | (simp; done) | (simp; omega)); have hr0 := fun k => br w.heap.size k (by first | omega | (simp; done) | (simp; omega)); have hy0 := bz w.heap.size (by first | omega | (simp; done) | (simp; omega)); clear bc bf ba br bz; simp only [hk1]) | (go_at_call 69; refine (roster_Check _ hr hr2 _).mono ?_; rintro e w2 ⟨rfl, hb2⟩; obtain ⟨bc, bf, ba, br, bz⟩ := bFacts hb2; have hz := bSize hb2 (n := w.heap.size + 1) (by first | omega | (simp; done) | (simp; omega)); have hc0 := fun o => bc w.heap.size o (by first | omega | (simp; done) | (simp; omega)); have hf0 := fun o => bf w.heap.size o (by first | omega | (simp; done) | (simp; omega)); have ha0 := fun o k => ba w.heap.size o k (by first | omega | (simp; done) | (simp; omega)); have hr0 := fun k => br w.heap.size k (by first | omega | (simp; done) | (simp; omega)); have hy0 := bz w.heap.size (by first | omega | (simp; done) | (simp; omega)); clear bc bf ba br bz; simp only [hr1]))
    go_ret
    exact ⟨by rw [HN.out]; rfl, bCall' hb (bAlloc (Below.refl _ _) _)⟩
  have hk1 := checkKeys_of hk
  have HK := Lib.hid hk; clear hk
  by_cases hq : RightRoster t.roster
  rotate_left
  · have hno : checkTreeI t = 31 := checkTree_no (fun h => hq h.roster)
    have HN := Lib.hid hno; clear hno
    have hr1 := checkRoster_not hq
    clear hq
    go_enter Tryd.func44, Tryd.ntmps44
    go_wp2_with (first | (go_at_call 68; refine (ratchet_Check _ hw _).mono ?_; rintro e w' ⟨rfl, hb⟩; obtain ⟨bc, bf, ba, br, bz⟩ := bFacts hb; have hz := bSize hb (n := w.heap.size + 1) (by first | omega | (simp; done) | (simp; omega)); have hc0 := fun o => bc w.heap.size o (by first | omega | (simp; done) | (simp; omega)); have hf0 := fun o => bf w.heap.size o (by first | omega | (simp; done) | (simp; omega)); have ha0 := fun o k => ba w.heap.size o k (by first | omega | (simp; done) | (simp; omega)); have hr0 := fun k => br w.heap.size k (by first | omega | (simp; done) | (simp; omega)); have hy0 := bz w.heap.size (by first | omega | (simp; done) | (simp; omega)); clear bc bf ba br bz; simp only [hk1]) | (go_at_call 69; refine (roster_Check _ hr hr2 _).mono ?_; rintro e w2 ⟨rfl, hb2⟩; obtain ⟨bc, bf, ba, br, bz⟩ := bFacts hb2; have hz := bSize hb2 (n := w.heap.size + 1) (by first | omega | (simp; done) | (simp; omega)); have hc0 := fun o => bc w.heap.size o (by first | omega | (simp; done) | (simp; omega)); have hf0 := fun o => bf w.heap.size o (by first | omega | (simp; done) | (simp; omega)); have ha0 := fun o k => ba w.heap.size o k (by first | omega | (simp; done) | (simp; omega)); have hr0 := fun k => br w.heap.size k (by first | omega | (simp; done) | (simp; omega)); have hy0 := bz w.heap.size (by first | omega | (simp; done) | (simp; omega)); clear bc bf ba br bz; simp only [hr1]))
    go_ret
    exact ⟨by rw [HN.out]; rfl, bCall' hb2 (bCall' hb (bAlloc (Below.refl _ _) _))⟩
  have hr1 := checkRoster_of hq
  have HQ := Lib.hid hq; clear hq
  go_enter Tryd.func44, Tryd.ntmps44
  go_wp2_with (first | (go_at_call 68; refine (ratchet_Check _ hw _).mono ?_; rintro e w' ⟨rfl, hb⟩; obtain ⟨bc, bf, ba, br, bz⟩ := bFacts hb; have hz := bSize hb (n := w.heap.size + 1) (by first | omega | (simp; done) | (simp; omega)); have hc0 := fun o => bc w.heap.size o (by first | omega | (simp; done) | (simp; omega)); have hf0 := fun o => bf w.heap.size o (by first | omega | (simp; done) | (simp; omega)); have ha0 := fun o k => ba w.heap.size o k (by first | omega | (simp; done) | (simp; omega)); have hr0 := fun k => br w.heap.size k (by first | omega | (simp; done) | (simp; omega)); have hy0 := bz w.heap.size (by first | omega | (simp; done) | (simp; omega)); clear bc bf ba br bz; simp only [hk1]) | (go_at_call 69; refine (roster_Check _ hr hr2 _).mono ?_; rintro e w2 ⟨rfl, hb2⟩; obtain ⟨bc, bf, ba, br, bz⟩ := bFacts hb2; have hz := bSize hb2 (n := w.heap.size + 1) (by first | omega | (simp; done) | (simp; omega)); have hc0 := fun o => bc w.heap.size o (by first | omega | (simp; done) | (simp; omega)); have hf0 := fun o => bf w.heap.size o (by first | omega | (simp; done) | (simp; omega)); have ha0 := fun o k => ba w.heap.size o k (by first | omega | (simp; done) | (simp; omega)); have hr0 := fun k => br w.heap.size k (by first | omega | (simp; done) | (simp; omega)); have hy0 := bz w.heap.size (by first | omega | (simp; done) | (simp; omega)); clear bc bf ba br bz; simp only [hr1]))
  have HB2 := Lib.hid (bCall' hb2 (bCall' hb (Below.refl (w.alloc (.cells (treeC t) 31)).heap.size (w.alloc (.cells (treeC t) 31)))))
  have HW := Lib.hid hw
  have HR := Lib.hid hr
  clear hw hr hr2 hmm hc0 hf0 ha0 hr0 hy0 hz hk1 hr1
  go_loopw [5, 39] (fun _ i wr => ∃ n : Nat, n ≤ 21 ∧ i = .int .i64 n ∧ (∀ j, j < n → (t.keys j).base < t.fresh ∧ (t.keys j).step ≤ t.epoch) ∧ isII wr w2.heap.size n ∧ (∀ x, (mapFn wr w2.heap.size x).getD 0 = cntV (kbase t.keys) n x) ∧ w2.heap.size < wr.heap.size ∧ Below w2.heap.size w2 wr) (fun _ i _ => 21 - (intOf i).toNat)
  case atStart => exact ⟨0, by omega, rfl, by omega, isII_new w2, fun x => by rw [mapFn_new w2]; rfl, by simp, bAlloc (Below.refl _ _) _⟩
  case round =>
    obtain ⟨n, hn, rfl, hok, hii, hfn, hsz, hbel⟩ := hrel
    have hB := HB2.out
    have hbx := bCall hB hbel
    obtain ⟨bc, bf, ba, br, bz⟩ := bFacts hbx; have hz := bSize hbx (n := w.heap.size + 1) (by first | omega | (simp; done) | (simp; omega)); have hc0 := fun o => bc w.heap.size o (by first | omega | (simp; done) | (simp; omega)); have hf0 := fun o => bf w.heap.size o (by first | omega | (simp; done) | (simp; omega)); have ha0 := fun o k => ba w.heap.size o k (by first | omega | (simp; done) | (simp; omega)); have hr0 := fun k => br w.heap.size k (by first | omega | (simp; done) | (simp; omega)); have hy0 := bz w.heap.size (by first | omega | (simp; done) | (simp; omega)); clear bc bf ba br bz
    clear hB
    by_cases hlt : n < 21
    · have hlt' : (n : Int) < 21 := by omega
      have hm := hii.m (by omega)
      have hwn := HW.out n
      have hcl : cntV (kbase t.keys) n (t.keys n).base ≤ n := cntV_le (kbase t.keys) n (t.keys n).base
      have OK := Lib.hid hok; clear hok
      have II := Lib.hid hii; clear hii
      have FN := Lib.hid hfn
      by_cases h1 : (t.keys n).base < t.fresh
      · by_cases h2 : (t.keys n).step ≤ t.epoch
        · have G := Lib.hid (And.intro h1 h2)
          go_wp2
          go_roundw
          case rel =>
            obtain ⟨_, i2, f2⟩ := II.out.put (by unfold maxLen; omega) hwn (show I64 ((cntV (kbase t.keys) n (t.keys n).base : Int) + 1) by unfold I64; omega)
            exact ⟨n + 1, by omega, by go_num, fun j hj => by rcases Nat.lt_succ_iff_lt_or_eq.1 hj with h | h; exact OK.out j h; subst h; exact G.out, i2.alloc _, fun x => by
              rw [mapFn_of_block (Below.heap_alloc _ _ _ (by rw [mapPut_size]; exact hsz)), f2, cntV_succ]; split
              · rename_i e; subst e; rw [if_pos (show kbase t.keys n = (t.keys n).base from rfl)]; simp
              · rename_i e; rw [FN.out, if_neg (fun e' => e e'.symm)]; simp, by simp [mapPut_size]; omega, bAlloc (Below_mapPut hbel (Nat.le_refl _) _ _) _⟩
          case measure => simp [intOf]; omega
        · have hno : checkTreeI t = 31 := checkTree_no (fun h => h2 (h.kb n hlt).2)
          have HN := Lib.hid hno; clear hno
          have h2' : t.epoch < (t.keys n).step := by omega
          clear h2
          go_wp2
          go_ret
          exact ⟨by rw [HN.out]; rfl, bCall' (bCall HB2.out (bAlloc (Below_mapPut hbel (Nat.le_refl _) _ _) _)) (bAlloc (Below.refl _ _) _)⟩
      · have hno : checkTreeI t = 31 := checkTree_no (fun h => h1 (h.kb n hlt).1)
        have HN := Lib.hid hno; clear hno
        have h1' : t.fresh ≤ (t.keys n).base := by omega
        clear h1
        go_wp2
        go_ret
        exact ⟨by rw [HN.out]; rfl, bCall' (bCall HB2.out (bAlloc (Below_mapPut hbel (Nat.le_refl _) _ _) _)) (bAlloc (Below.refl _ _) _)⟩
    · have h21 : n = 21 := by omega
      have hge : (21 : Int) ≤ (n : Int) := by omega
      rw [h21] at hok hii hfn
      clear h21 hlt hn
      have OK := Lib.hid hok; clear hok
      have II := Lib.hid hii; clear hii
      have FN := Lib.hid hfn; clear hfn
      go_wp2
      clear hc0 hf0 ha0 hr0 hy0 hz hbx
      go_loopw [7, 62] (fun _ i wr => ∃ n : Nat, n ≤ 64 ∧ i = .int .i64 n ∧ (∀ s, s < n → ((t.roster s).base < t.fresh ∧ (t.roster s).since ≤ t.epoch) ∧ ∀ j, j < 21 → (t.keys j).base ≠ (t.roster s).base) ∧ isII wr w2.heap.size 21 ∧ (∀ x, (mapFn wr w2.heap.size x).getD 0 = cntV (kbase t.keys) 21 x) ∧ w2.heap.size < wr.heap.size ∧ Below w2.heap.size w2 wr) (fun _ i _ => 64 - (intOf i).toNat)
      case atStart => exact ⟨0, by omega, rfl, by omega, II.out, FN.out, hsz, hbel⟩
      case round =>
        obtain ⟨n, hn, rfl, hok2, hii, hfn, hsq, hbq⟩ := hrel
        have hbx := bCall HB2.out hbq
        obtain ⟨bc, bf, ba, br, bz⟩ := bFacts hbx; have hz := bSize hbx (n := w.heap.size + 1) (by first | omega | (simp; done) | (simp; omega)); have hc0 := fun o => bc w.heap.size o (by first | omega | (simp; done) | (simp; omega)); have hf0 := fun o => bf w.heap.size o (by first | omega | (simp; done) | (simp; omega)); have ha0 := fun o k => ba w.heap.size o k (by first | omega | (simp; done) | (simp; omega)); have hr0 := fun k => br w.heap.size k (by first | omega | (simp; done) | (simp; omega)); have hy0 := bz w.heap.size (by first | omega | (simp; done) | (simp; omega)); clear bc bf ba br bz
        by_cases hlt : n < 64
        · have hlt' : (n : Int) < 64 := by omega
          have hm := hii.m (by omega)
          have hwn := HR.out n
          have hcl : cntV (kbase t.keys) 21 (t.roster n).base ≤ 21 := cntV_le (kbase t.keys) 21 (t.roster n).base
          have OK2 := Lib.hid hok2; clear hok2
          have II2 := Lib.hid hii; clear hii
          have FN2 := Lib.hid hfn
          have hcp := cntV_pos (kbase t.keys) (t.roster n).base 21
          have CP := Lib.hid hcp; clear hcp
          by_cases h0 : cntV (kbase t.keys) 21 (t.roster n).base = 0
          · have h0' : cntV (kbase t.keys) 21 (t.roster n).base ≤ 0 := by omega
            have H0 := Lib.hid h0; clear h0
            by_cases h1 : (t.roster n).base < t.fresh
            · by_cases h2 : (t.roster n).since ≤ t.epoch
              · have G := Lib.hid (And.intro h1 h2)
                go_wp2
                go_roundw
                case rel => exact ⟨n + 1, by omega, by go_num, fun j hj => by
                    rcases Nat.lt_succ_iff_lt_or_eq.1 hj with h | h
                    · exact OK2.out j h
                    · subst h
                      exact ⟨G.out, fun i hi e => by have := CP.out.2 ⟨i, hi, e⟩; have := H0.out; omega⟩, II2.out.alloc _, fun x => by rw [mapFn_of_block (Below.heap_alloc _ _ _ hsq)]; exact FN2.out x, by simp; omega, bAlloc hbq _⟩
                case measure => simp [intOf]; omega
              · have hno : checkTreeI t = 31 := checkTree_no (fun h => h2 (h.eb n hlt).1.2)
                have HN := Lib.hid hno; clear hno
                have h2' : t.epoch < (t.roster n).since := by omega
                clear h2
                go_wp2
                go_ret
                exact ⟨by rw [HN.out]; rfl, bCall' (bCall HB2.out (bAlloc hbq _)) (bAlloc (Below.refl _ _) _)⟩
            · have hno : checkTreeI t = 31 := checkTree_no (fun h => h1 (h.eb n hlt).1.1)
              have HN := Lib.hid hno; clear hno
              have h1' : t.fresh ≤ (t.roster n).base := by omega
              clear h1
              go_wp2
              go_ret
              exact ⟨by rw [HN.out]; rfl, bCall' (bCall HB2.out (bAlloc hbq _)) (bAlloc (Below.refl _ _) _)⟩
          · have hno : checkTreeI t = 31 := checkTree_no (fun h => by
              obtain ⟨i, hi, e⟩ := CP.out.1 (by omega)
              exact (h.eb n hlt).2 i hi e)
            have HN := Lib.hid hno; clear hno
            have h0' : 1 ≤ cntV (kbase t.keys) 21 (t.roster n).base := by omega
            clear h0
            go_wp2
            go_ret
            exact ⟨by rw [HN.out]; rfl, bCall' (bCall HB2.out (bAlloc hbq _)) (bAlloc (Below.refl _ _) _)⟩
        · obtain rfl : n = 64 := by omega
          have hyes : checkTreeI t = 0 := checkTree_yes ⟨e0, e1, e2, e3, HK.out, HQ.out, OK.out, hok2⟩
          have HY := Lib.hid hyes; clear hyes hok2
          go_wp2
          go_ret
          exact ⟨by rw [HY.out]; rfl, bCall' (bCall HB2.out hbq) (bAlloc (Below.refl _ _) _)⟩
end Go.Proofs.YtodgcmakdndbfaaDoor
