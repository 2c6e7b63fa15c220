/-
  Parts of a proof: Fits3, Turn1, Names, Same, Eql2, Held, Seal. Merged by program.
-/
import Derived.Test.YtodgcmakdndbfaaDoorZ8
import Derived.Deep.RegionHeld3
/-
  Contracts: coterieref09.Fits. Printed by wip/gen/gk.py.
-/
namespace Go.Proofs.YtodgcmakdndbfaaDoor
open Go.RowKit Cot
set_option linter.unusedSimpArgs false
set_option linter.unusedVariables false

theorem bSetB {B : Nat} {a w : World} (h : Below B a w) {p : Addr} (hp : B ≤ p.block) (u : Value) : Below B a (w.setCell p u) := h.setCell hp u
set_option maxRecDepth 100000 in
set_option maxHeartbeats 3200000 in
theorem ref09_Fits (r : Nat → Entry) (lv jn : List Int) (ao bo : Option Addr) (cap cap2 : Nat) (w : World) (hl1 : lv.length ≤ 35184372088832) (hl2 : jn.length ≤ 35184372088832)
    (hA : IntsAt w ao lv) (hJ : IntsAt w bo jn) :
    Calls Tryd.prog 62 #[.agg (rosterC r), .agg #[.slice ao lv.length cap, .slice bo jn.length cap2]] w fun e w' => e = .returned (.int .i64 (fitsS r lv jn)) ∧ Below w.heap.size w w' := by
  by_cases hR : RightRoster r
  rotate_left
  · have hcr := checkRoster_not hR
    have HF := Lib.hid (fits_bad (lv := lv) (jn := jn) hR)
    clear hR
    go_enter Tryd.func62, Tryd.ntmps62
    go_wp2_with (go_at_call 36; refine (ref09_Check r _).mono ?_; rintro e w1 ⟨rfl, hb⟩; obtain ⟨bc, bf, ba, br, bz⟩ := bFacts hb; have hz := bSize hb (n := w.heap.size + 2) (by first | omega | (simp; done) | (simp; omega)); have hc0 := fun o => bc w.heap.size o (by first | omega | (simp; done) | (simp; omega)); have hf0 := fun o => bf w.heap.size o (by first | omega | (simp; done) | (simp; omega)); have ha0 := fun o k => ba w.heap.size o k (by first | omega | (simp; done) | (simp; omega)); have hr0 := fun k => br w.heap.size k (by first | omega | (simp; done) | (simp; omega)); have hy0 := bz w.heap.size (by first | omega | (simp; done) | (simp; omega)); have hc1 := fun o => bc (w.heap.size + 1) o (by first | omega | (simp; done) | (simp; omega)); have hf1 := fun o => bf (w.heap.size + 1) o (by first | omega | (simp; done) | (simp; omega)); have ha1 := fun o k => ba (w.heap.size + 1) o k (by first | omega | (simp; done) | (simp; omega)); have hr1 := fun k => br (w.heap.size + 1) k (by first | omega | (simp; done) | (simp; omega)); have hy1 := bz (w.heap.size + 1) (by first | omega | (simp; done) | (simp; omega)); clear bc bf ba br bz; simp only [hcr])
    go_ret
    exact ⟨by rw [HF.out] <;> rfl, bCall' hb (bAlloc (bAlloc (Below.refl _ _) _) _)⟩
  have hcr := checkRoster_of hR
  have HR := Lib.hid hR; clear hR
  go_enter Tryd.func62, Tryd.ntmps62
  go_wp2_with (go_at_call 36; refine (ref09_Check r _).mono ?_; rintro e w1 ⟨rfl, hb⟩; obtain ⟨bc, bf, ba, br, bz⟩ := bFacts hb; have hz := bSize hb (n := w.heap.size + 2) (by first | omega | (simp; done) | (simp; omega)); have hc0 := fun o => bc w.heap.size o (by first | omega | (simp; done) | (simp; omega)); have hf0 := fun o => bf w.heap.size o (by first | omega | (simp; done) | (simp; omega)); have ha0 := fun o k => ba w.heap.size o k (by first | omega | (simp; done) | (simp; omega)); have hr0 := fun k => br w.heap.size k (by first | omega | (simp; done) | (simp; omega)); have hy0 := bz w.heap.size (by first | omega | (simp; done) | (simp; omega)); have hc1 := fun o => bc (w.heap.size + 1) o (by first | omega | (simp; done) | (simp; omega)); have hf1 := fun o => bf (w.heap.size + 1) o (by first | omega | (simp; done) | (simp; omega)); have ha1 := fun o k => ba (w.heap.size + 1) o k (by first | omega | (simp; done) | (simp; omega)); have hr1 := fun k => br (w.heap.size + 1) k (by first | omega | (simp; done) | (simp; omega)); have hy1 := bz (w.heap.size + 1) (by first | omega | (simp; done) | (simp; omega)); clear bc bf ba br bz; simp only [hcr])
  have hsz1 : w.heap.size + 2 ≤ w1.heap.size := hz
  have hbx := bCall (bAlloc (bAlloc (Below.refl w.heap.size w) (.cells (rosterC r) 29)) (.cells #[.slice ao lv.length cap, .slice bo jn.length cap2] 34)) hb
  have hB0w : Blk w1 w.heap.size (rosterC r) 29 := ((Blk.new w _ _).alloc _).kept hb (by simp only [World.size_alloc]; omega)
  have hB1w : Blk w1 (w.heap.size + 1) #[.slice ao lv.length cap, .slice bo jn.length cap2] 34 := by
    have h := (Blk.new (w.alloc (.cells (rosterC r) 29)) #[.slice ao lv.length cap, .slice bo jn.length cap2] 34).kept hb (by simp)
    rw [World.size_alloc] at h; exact h
  clear hc0 hf0 ha0 hr0 hc1 hf1 ha1 hr1 hz hy0 hy1 hcr
  go_loopw [7, 8, 18] (fun _ _ i wr => ∃ n : Nat, n ≤ lv.length ∧ i = .int .i64 n ∧ okTo r true ([] : List Int) lv n ∧ (∃ q : Nat → Bool, Blk wr w1.heap.size (seenC q) 116 ∧ ∀ x : Int, 0 ≤ x → x < 256 → q x.toNat = decide (x ∈ ([] : List Int) ++ lv.take n)) ∧ w1.heap.size < wr.heap.size ∧ Below w1.heap.size w1 wr) (fun _ _ i _ => lv.length - (intOf i).toNat)
  case atStart => exact ⟨0, by omega, rfl, fun j x hj => absurd hj (by omega), ⟨seen0, Blk.new w1 _ _, fun x h1 h2 => by simp [seen0]⟩, by simp, bAlloc (Below.refl _ _) _⟩
  case round =>
    skip
    obtain ⟨n, hn, rfl, hok, ⟨q, hS, hq⟩, hsq, hbq⟩ := hrel
    have hB0 := hB0w.kept hbq (by omega); have hB1 := hB1w.kept hbq (by omega); have hc0 := hB0.cell; have hf0 := hB0.frozen; have ha0 := hB0.at; have hc1 := hB1.cell; have hf1 := hB1.frozen; have hy0 := hB0.lt; have hy1 := hB1.lt
    have hs0 := hS.cell; have hs1 := hS.frozen; have hs2 := hS.at; have hsy := hS.lt
    have OK := Lib.hid hok; clear hok
    by_cases hlt : n < lv.length
    · have hlt' : (n : Int) < (lv.length : Int) := by omega
      obtain ⟨x, hx⟩ := some_of_lt hlt
      obtain ⟨b, off, rfl, hbB, hcx⟩ := ((hA.into hbx).kept (hbq.mono (by omega))) n x hx
      have hbb : b < wr.heap.size := by omega
      have hqx := hq x
      have HQ := Lib.hid hq
      have HX := Lib.hid hx
      have HQX := Lib.hid hqx
      clear hx hq
      by_cases hp : personS r (([] : List Int) ++ lv.take n) true x = 0
      · have hrg : 0 ≤ x ∧ x < 256 := by
          unfold personS at hp
          by_cases h : x < 0 ∨ 256 ≤ x
          · rw [if_pos h] at hp; exact absurd hp (by decide)
          · omega
        obtain ⟨m, rfl⟩ : ∃ m : Nat, x = m := ⟨x.toNat, by omega⟩
        have hm : m < 256 := by omega
        have hm' : (m : Int) < 256 := by omega
        have hpe : personS r (([] : List Int) ++ lv.take n) true m = 0 := hp
        (try simp only [List.nil_append] at hpe)
        (try simp only [List.nil_append] at hqx)
        have HP := Lib.hid hp
        clear hp hrg
        go_wp2_with (go_at_call 81; refine (ref09_person_leave r q _ _ hqx _).mono ?_; rintro e w' ⟨rfl, hb9⟩; have hbq9 := hbq.trans (hb9.mono (by omega)); have hS9 := hS.kept hb9 (by omega); have hB09 := hB0w.kept hbq9 (by omega); have hB19 := hB1w.kept hbq9 (by omega); have hc0 := hB09.cell; have hf0 := hB09.frozen; have ha0 := hB09.at; have hc1 := hB19.cell; have hf1 := hB19.frozen; have hy0 := hB09.lt; have hy1 := hB19.lt; have hs0 := hS9.cell; have hs1 := hS9.frozen; have hs2 := hS9.at; have hsy := hS9.lt)
        clear hqx
        go_roundw
        case rel => exact ⟨n + 1, by omega, by go_num, okTo_succ OK.out HX.out HP.out, ⟨_, hS9.see m hm true, fun y hy1 hy2 => by
            rw [take_snoc' HX.out, ← List.append_assoc]
            by_cases h : y.toNat = m
            · rw [h, upd_same]; rw [show y = (m : Int) by omega]; simp
            · rw [upd_other _ _ _ h, HQ.out y hy1 hy2]
              have hne : y ≠ (m : Int) := by omega
              simp [hne]⟩, by simp; omega, bSetB hbq9 (Nat.le_refl _) _⟩
        case measure => simp [intOf]; omega
      · have hsc := scan_err OK.out HX.out hp
        have hsn : (personS r (([] : List Int) ++ lv.take n) true x != 0) = true := by simpa using hp
        (try simp only [List.nil_append] at hsn)
        (try simp only [List.nil_append] at hqx)
        have HV := Lib.hid (fits_lv (jn := jn) HR.out (by rw [hsc]; exact hp))
        have HSC := Lib.hid hsc
        clear hp hsc
        go_wp2_with (go_at_call 81; refine (ref09_person_leave r q _ _ hqx _).mono ?_; rintro e w' ⟨rfl, hb9⟩; have hbq9 := hbq.trans (hb9.mono (by omega)); have hS9 := hS.kept hb9 (by omega); have hB09 := hB0w.kept hbq9 (by omega); have hB19 := hB1w.kept hbq9 (by omega); have hc0 := hB09.cell; have hf0 := hB09.frozen; have ha0 := hB09.at; have hc1 := hB19.cell; have hf1 := hB19.frozen; have hy0 := hB09.lt; have hy1 := hB19.lt; have hs0 := hS9.cell; have hs1 := hS9.frozen; have hs2 := hS9.at; have hsy := hS9.lt)
        go_ret
        exact ⟨by rw [HV.out, HSC.out] <;> rfl, hbx.trans (hbq9.mono (by omega))⟩
    · have hnl : n = lv.length := by omega
      have hge : (lv.length : Int) ≤ (n : Int) := by omega
      rw [hnl, List.take_length] at hq
      rw [hnl] at OK
      have hsc := scan_ok OK.out
      have HSC := Lib.hid hsc
      clear hsc hnl hlt hn
      have HS1 := HSC
      clear HSC
      go_wp2
      clear hge
      generalize decide (n < lv.length) = bq
      clear hc0 hf0 ha0 hc1 hf1 hy0 hy1 hB0 hB1 hs0 hs1 hs2 hsy
      go_loopw [10, 11, 35] (fun _ _ i wr => ∃ n : Nat, n ≤ jn.length ∧ i = .int .i64 n ∧ okTo r false lv jn n ∧ (∃ q : Nat → Bool, Blk wr w1.heap.size (seenC q) 116 ∧ ∀ x : Int, 0 ≤ x → x < 256 → q x.toNat = decide (x ∈ lv ++ jn.take n)) ∧ w1.heap.size < wr.heap.size ∧ Below w1.heap.size w1 wr) (fun _ _ i _ => jn.length - (intOf i).toNat)
      case atStart => exact ⟨0, by omega, rfl, fun j x hj => absurd hj (by omega), ⟨q, hS, fun x h1 h2 => by rw [hq x h1 h2]; simp⟩, hsq, hbq⟩
      case round =>
        clear hq hS hbq hsq
        obtain ⟨n, hn, rfl, hok, ⟨q, hS, hq⟩, hsq, hbq⟩ := hrel
        have hB0 := hB0w.kept hbq (by omega); have hB1 := hB1w.kept hbq (by omega); have hc0 := hB0.cell; have hf0 := hB0.frozen; have ha0 := hB0.at; have hc1 := hB1.cell; have hf1 := hB1.frozen; have hy0 := hB0.lt; have hy1 := hB1.lt
        have hs0 := hS.cell; have hs1 := hS.frozen; have hs2 := hS.at; have hsy := hS.lt
        have OK := Lib.hid hok; clear hok
        by_cases hlt : n < jn.length
        · have hlt' : (n : Int) < (jn.length : Int) := by omega
          obtain ⟨x, hx⟩ := some_of_lt hlt
          obtain ⟨b, off, rfl, hbB, hcx⟩ := ((hJ.into hbx).kept (hbq.mono (by omega))) n x hx
          have hbb : b < wr.heap.size := by omega
          have hqx := hq x
          have HQ := Lib.hid hq
          have HX := Lib.hid hx
          have HQX := Lib.hid hqx
          clear hx hq
          by_cases hp : personS r (lv ++ jn.take n) false x = 0
          · have hrg : 0 ≤ x ∧ x < 256 := by
              unfold personS at hp
              by_cases h : x < 0 ∨ 256 ≤ x
              · rw [if_pos h] at hp; exact absurd hp (by decide)
              · omega
            obtain ⟨m, rfl⟩ : ∃ m : Nat, x = m := ⟨x.toNat, by omega⟩
            have hm : m < 256 := by omega
            have hm' : (m : Int) < 256 := by omega
            have hpe : personS r (lv ++ jn.take n) false m = 0 := hp
            (try simp only [List.nil_append] at hpe)
            (try simp only [List.nil_append] at hqx)
            have HP := Lib.hid hp
            clear hp hrg
            go_wp2_with (go_at_call 81; refine (ref09_person_join r q _ _ hqx _).mono ?_; rintro e w' ⟨rfl, hb9⟩; have hbq9 := hbq.trans (hb9.mono (by omega)); have hS9 := hS.kept hb9 (by omega); have hB09 := hB0w.kept hbq9 (by omega); have hB19 := hB1w.kept hbq9 (by omega); have hc0 := hB09.cell; have hf0 := hB09.frozen; have ha0 := hB09.at; have hc1 := hB19.cell; have hf1 := hB19.frozen; have hy0 := hB09.lt; have hy1 := hB19.lt; have hs0 := hS9.cell; have hs1 := hS9.frozen; have hs2 := hS9.at; have hsy := hS9.lt)
            clear hqx
            go_roundw
            case rel => exact ⟨n + 1, by omega, by go_num, okTo_succ OK.out HX.out HP.out, ⟨_, hS9.see m hm true, fun y hy1 hy2 => by
                rw [take_snoc' HX.out, ← List.append_assoc]
                by_cases h : y.toNat = m
                · rw [h, upd_same]; rw [show y = (m : Int) by omega]; simp
                · rw [upd_other _ _ _ h, HQ.out y hy1 hy2]
                  have hne : y ≠ (m : Int) := by omega
                  simp [hne]⟩, by simp; omega, bSetB hbq9 (Nat.le_refl _) _⟩
            case measure => simp [intOf]; omega
          · have hsc := scan_err OK.out HX.out hp
            have hsn : (personS r (lv ++ jn.take n) false x != 0) = true := by simpa using hp
            (try simp only [List.nil_append] at hsn)
            (try simp only [List.nil_append] at hqx)
            have HV := Lib.hid (fits_jn HR.out HS1.out (by rw [hsc]; exact hp))
            have HSC := Lib.hid hsc
            clear hp hsc
            go_wp2_with (go_at_call 81; refine (ref09_person_join r q _ _ hqx _).mono ?_; rintro e w' ⟨rfl, hb9⟩; have hbq9 := hbq.trans (hb9.mono (by omega)); have hS9 := hS.kept hb9 (by omega); have hB09 := hB0w.kept hbq9 (by omega); have hB19 := hB1w.kept hbq9 (by omega); have hc0 := hB09.cell; have hf0 := hB09.frozen; have ha0 := hB09.at; have hc1 := hB19.cell; have hf1 := hB19.frozen; have hy0 := hB09.lt; have hy1 := hB19.lt; have hs0 := hS9.cell; have hs1 := hS9.frozen; have hs2 := hS9.at; have hsy := hS9.lt)
            go_ret
            exact ⟨by rw [HV.out, HSC.out] <;> rfl, hbx.trans (hbq9.mono (by omega))⟩
        · have hnl : n = jn.length := by omega
          have hge : (jn.length : Int) ≤ (n : Int) := by omega
          rw [hnl, List.take_length] at hq
          rw [hnl] at OK
          have hsc := scan_ok OK.out
          have HSC := Lib.hid hsc
          clear hsc hnl hlt hn
          go_wp2
          skip
          have hcl := cntOf_le (takenP r) 64
          have hpop := takenN_pop r
          have htl := takenN_lt r
          have HF := Lib.hid (fits_full HR.out HS1.out HSC.out)
          generalize cntOf (takenP r) 64 = c at *
          have hw1 : IntKind.i64.wrap (64 - (c : Int)) = 64 - (c : Int) := IntWalk.i64_in _ (by omega)
          have hw2 : IntKind.i64.wrap (64 - (c : Int) + (lv.length : Int)) = 64 - (c : Int) + (lv.length : Int) := IntWalk.i64_in _ (by omega)
          have HF2 : (64 : Int) - (c : Int) + (lv.length : Int) < (jn.length : Int) ∨ (jn.length : Int) ≤ (64 : Int) - (c : Int) + (lv.length : Int) := by omega
          have HLT := Lib.hid HF2; clear HF2
          have HTX := Lib.hid htl; clear htl
          have hui := Tryd.underlying29
          have hsi : (Tryd.prog.info? 29).map (·.size) = some (rosterC r).toList.length := by rw [Array.length_toList, rosterC_size]; kernel_rfl
          go_region_held3 (fun w' => w'.rangeAt w.heap.size 0 (rosterC r).toList ∧ w'.cell? ⟨w.heap.size + 1, 0, none⟩ = some (.slice ao lv.length cap) ∧ w'.cell? ⟨w.heap.size + 1, 1, none⟩ = some (.slice bo jn.length cap2))
            (first
              | exact ⟨hB0.range, hB1.cell 0, hB1.cell 1⟩
              | exact ⟨hB0q.range, hB1q.cell 0, hB1q.cell 1⟩
              | exact ⟨hB0r.range, hB1r.cell 0, hB1r.cell 1⟩
              | go_keep)
            (first
              | (go_at_call 21; (try simp only [Array.toArray_toList]); refine (ref09_Taken _ _).mono ?_; rintro e w4 ⟨rfl, hb4⟩; have hb4' := hbq.drew.trans (hb4.mono (show _ ≤ wr.heap.size by omega)); have hB0q := hB0w.kept hb4' (by omega); have hB1q := hB1w.kept hb4' (by omega))
              | (go_at_call 20; refine (ref08_Count _ HTX.out _).mono ?_; rintro e w5 ⟨rfl, hb5⟩; have hb5' := hb4'.trans (hb5.mono (by have := hb4.size; have : wr.heap.size ≤ w4.heap.size := this; omega)); have hB0r := hB0w.kept hb5' (by omega); have hB1r := hB1w.kept hb5' (by omega); simp only [hpop]))
          clear hw1 hw2 hui hsi
          rcases HLT.out with hful | hful
          · have HV := Lib.hid (HF.out.trans (if_pos hful))
            go_wp2
            go_ret
            exact ⟨by rw [HV.out] <;> rfl, hbx.trans (hb5'.mono (by omega))⟩
          · have HV := Lib.hid (HF.out.trans (if_neg (by omega)))
            go_wp2
            go_ret
            exact ⟨by rw [HV.out] <;> rfl, hbx.trans (hb5'.mono (by omega))⟩
end Go.Proofs.YtodgcmakdndbfaaDoor
/-
  Contracts: what Turn computes; ratchet.free, ratchet.Turn. Printed by wip/gen/gk.py.
-/
namespace Cot
/-- How many nodes from v on are replaced. -/
def aboveN (p : Nat → Bool) (v : Nat) : Nat := cntOf (fun i => p (v + i)) (21 - v)
theorem aboveN_step (p : Nat → Bool) (v : Nat) (h : v < 21) : aboveN p v = (if p v then 1 else 0) + aboveN p (v + 1) := by
  unfold aboveN
  rw [show 21 - v = 1 + (21 - (v + 1)) by omega, cntOf_add]
  have e : (fun i => p (v + (1 + i))) = (fun i => p (v + 1 + i)) := by funext i; rw [Nat.add_assoc]
  simp only [e, cntOf, Nat.add_zero, Nat.zero_add]
theorem aboveN_end (p : Nat → Bool) : aboveN p 21 = 0 := rfl
theorem aboveN_all (p : Nat → Bool) : aboveN p 0 = cntOf p 21 := by unfold aboveN; simp
theorem aboveN_le (p : Nat → Bool) (v : Nat) : aboveN p v ≤ 21 - v := cntOf_le _ _
theorem aboveN_le_all (p : Nat → Bool) : ∀ v, v ≤ 21 → aboveN p v ≤ aboveN p 0
  | 0, _ => Nat.le_refl _
  | v + 1, h => by have h1 := aboveN_step p v (by omega); have h2 := aboveN_le_all p v (by omega); omega
def turnK (k : Nat → Key) (p : Nat → Bool) (fresh : Int) (v : Nat) : Key := if p v then ⟨fresh + aboveN p (v + 1), 0⟩ else ⟨(k v).base, (k v).step + 1⟩
end Cot
namespace Go.Proofs.YtodgcmakdndbfaaDoor
open Go.RowKit Cot
set_option linter.unusedSimpArgs false
set_option linter.unusedVariables false
set_option maxRecDepth 4000 in
set_option maxHeartbeats 800000 in
theorem ratchet_free (k : Nat → Key) (fresh n : Int) (hf : 1 ≤ fresh) (hn : 0 ≤ n) (hs : fresh + n ≤ 32768) (hb : ∀ j, j < 21 → (k j).base < fresh) (w : World) :
    Calls Tryd.prog 73 #[.agg (keysC k), .int .i64 fresh, .int .i64 n] w fun e w' => e = .returned (.bool true) ∧ Below w.heap.size w w' := by
  by_cases h0 : n = 0
  · subst h0
    clear hb
    go_enter Tryd.func73, Tryd.ntmps73
    go_wp2
    go_ret
    exact ⟨rfl, bAlloc (Below.refl _ _) _⟩
  have h0' : (n == 0) = false := by simpa using h0
  clear h0
  have HB := Lib.hid hb; clear hb
  go_enter Tryd.func73, Tryd.ntmps73
  go_wp2
  go_loopw [8, 20] (fun _ i wr => ∃ m : Nat, m ≤ 21 ∧ i = .int .i64 m ∧ Below w.heap.size w wr) (fun _ i _ => 21 - (intOf i).toNat)
  case atStart => exact ⟨0, by omega, rfl, bAlloc (Below.refl _ _) _⟩
  case round =>
    obtain ⟨m, hm, rfl, hbel⟩ := hrel
    by_cases hlt : m < 21
    · have hlt' : (m : Int) < 21 := by omega
      have hbm := HB.out m hlt
      go_wp2
      go_roundw
      case rel => exact ⟨m + 1, by omega, by go_num, bAlloc hbel _⟩
      case measure => simp [intOf]; omega
    · have hge : (21 : Int) ≤ (m : Int) := by omega
      clear hlt hm
      go_wp2
      go_ret
      exact ⟨rfl, hbel⟩
theorem popN32_21 (p : Nat → Bool) : popN 32 (bitsOf p 21) = popN 21 (bitsOf p 21) := by
  unfold popN
  rw [show (32 : Nat) = 21 + 11 from rfl, cntOf_add]
  have h : ∀ n, cntOf (fun i => (bitsOf p 21).testBit (21 + i)) n = 0 := by
    intro n
    induction n with
    | zero => rfl
    | succ n ih =>
      show cntOf _ n + _ = 0
      rw [ih]
      have h1 := testBit_bitsOf p (21 + n) 21
      simp [h1]; intro h; omega
  rw [h]; rfl
theorem turn_bit (p : Nat → Bool) (v : Nat) (hv : v < 21) : bits .and .u32 ((bitsOf p 21 : Nat) / 2 ^ v : Int) 1 = if p v then 1 else 0 := by
  have hm : bitsOf p 21 < 2097152 := bitsOf_lt p 21
  have e : ((bitsOf p 21 : Nat) / 2 ^ v : Int) = ((bitsOf p 21 / 2 ^ v : Nat) : Int) := by simp
  have hd : bitsOf p 21 / 2 ^ v ≤ bitsOf p 21 := Nat.div_le_self _ _
  have h := u32_and_nat (bitsOf p 21 / 2 ^ v) 1 (by omega) (by omega)
  rw [e]
  refine h.trans ?_
  have hb := testBit_bitsOf p v 21
  rw [Nat.testBit_eq_decide_div_mod_eq] at hb
  rw [show bitsOf p 21 / 2 ^ v &&& 1 = bitsOf p 21 / 2 ^ v % 2 from Nat.and_two_pow_sub_one_eq_mod _ 1]
  simp only [hv, decide_true, Bool.true_and] at hb
  cases hp : p v
  · rw [hp] at hb; simp at hb; simp; omega
  · rw [hp] at hb; simp at hb; simp [hb]
set_option maxRecDepth 100000 in
set_option maxHeartbeats 1600000 in
theorem ratchet_Turn (k : Nat → Key) (p : Nat → Bool) (fresh : Int) (hk : RightKeys k) (hw : ∀ j, I64 (k j).base) (hf : 1 ≤ fresh) (hs : fresh + cntOf p 21 ≤ 32768) (hb : ∀ j, j < 21 → (k j).base < fresh) (hst : ∀ j, j < 21 → (k j).step ≤ 254) (w : World) :
    Calls Tryd.prog 48 #[.agg (keysC k), .int .u32 (bitsOf p 21), .int .i64 fresh] w fun e w' => e = .returned (.tuple #[.agg (keysC (turnK k p fresh)), .int .i64 (fresh + (cntOf p 21 : Nat)), .int .i64 0]) ∧ Below w.heap.size w w' := by
  have hk1 := checkKeys_of hk
  have hm : bitsOf p 21 < 2097152 := bitsOf_lt p 21
  have hpop : popN 32 (bitsOf p 21) = cntOf p 21 := by
    rw [popN32_21]; exact popN_bitsOf p 21
  have hsh : ((bitsOf p 21 : Nat) : Int) / 2097152 = 0 := by omega
  have hc := cntOf_le p 21
  have hB := Lib.hid hb
  have hK := Lib.hid hk
  have hST := Lib.hid hst
  generalize hM : bitsOf p 21 = m at *
  generalize hC : cntOf p 21 = c at *
  have HM := Lib.hid hM
  have HC := Lib.hid hC
  clear hb hk hst hM hC
  go_enter Tryd.func48, Tryd.ntmps48
  go_wp2_with (go_at_call 68; refine (ratchet_Check k hw _).mono ?_; rintro e w1 ⟨rfl, hb⟩; have hB0 : Blk w1 w.heap.size (keysC k) 25 := ((Blk.new w (keysC k) 25).alloc _).kept hb (by simp only [World.size_alloc]; omega); have hB1 : Blk w1 (w.heap.size + 1) (keysC keys0) 25 := (by have h := (Blk.new (w.alloc (.cells (keysC k) 25)) (keysC keys0) 25).kept hb (by simp); rw [World.size_alloc] at h; exact h); have hc0 := hB0.cell; have ha0 := hB0.at; simp only [hk1])
  have hbx := bCall (bAlloc (bAlloc (Below.refl w.heap.size w) (.cells (keysC k) 25)) (.cells (keysC keys0) 25)) hb
  have hui := Tryd.underlying25
  have hsi : (Tryd.prog.info? 25).map (·.size) = some (keysC k).toList.length := by rw [Array.length_toList, keysC_size]; kernel_rfl
  have HM4 : m < 4294967296 := by omega
  have HMM := Lib.hid HM4; clear HM4
  go_region_held3 (fun w' => w'.rangeAt w.heap.size 0 (keysC k).toList)
    (first
      | exact hB0.range
      | exact hB0q.range
      | exact hB0r.range
      | go_keep)
    (first
      | (go_at_call 47; refine (bits_OnesCount32 m HMM.out _).mono ?_; rintro e w4 ⟨rfl, hb4⟩; have hB0q := hB0.drew.kept hb4 hB0.lt; simp only [hpop])
      | (go_at_call 73; (try simp only [Array.toArray_toList]); refine (ratchet_free k fresh c hf (by omega) (by omega) hB.out _).mono ?_; rintro e w5 ⟨rfl, hb5⟩; have hB0r := hB0q.kept hb5 hB0q.lt))
  clear hui hsi
  have hb45 := (hbx.drew.trans (hb4.mono (show _ ≤ w1.heap.size by have := hbx.size; omega))).trans (hb5.mono (by have h1 := hb4.size; have h2 := hbx.size; have h3 : w1.heap.size ≤ w4.heap.size := h1; omega))
  clear hc0 ha0 hsh
  go_wp2
  go_loopw [2, 9, 10, 11, 12, 31] (fun fr _ _ _ _ i wr => ∃ n : Nat, n ≤ 21 ∧ i = .int .i64 n ∧ fr = .int .i64 (fresh + (aboveN p (21 - n) : Nat)) ∧ (∃ kk : Nat → Key, Blk wr w.heap.size (keysC kk) 25 ∧ (∀ v, 21 - n ≤ v → v < 21 → kk v = turnK k p fresh v) ∧ ∀ v, v < 21 - n → kk v = k v) ∧ Blk wr (w.heap.size + 1) (keysC keys0) 25 ∧ Below w.heap.size w wr) (fun _ _ _ _ _ i _ => 21 - (intOf i).toNat)
  case atStart => exact ⟨0, by omega, rfl, by simp [aboveN_end], ⟨k, hB0r, fun v h1 h2 => by omega, fun v _ => rfl⟩, (hB1.drew.kept hb4 hB1.lt).kept hb5 (hB1.drew.kept hb4 hB1.lt).lt, hb45⟩
  case round =>
    clear hB0 hB0q hB0r hB1 hb hb4 hb5 hb45 hbx
    obtain ⟨n, hn, rfl, rfl, ⟨kk, hBq, hk1, hk2⟩, hB1, hbq⟩ := hrel
    have hc1 := hB1.cell
    have hr1 := hB1.row
    have hy1 := hB1.lt
    have hy0 := hBq.lt
    by_cases hlt : n < 21
    · have hlt' : (n : Int) < 21 := by omega
      have hv : 20 - n < 21 := by omega
      have hkv : kk (20 - n) = k (20 - n) := hk2 _ (by omega)
      have hc0 : wr.cell? ⟨w.heap.size, (20 - n) * 2, none⟩ = some (I (k (20 - n)).base) := by rw [hBq.cell, keysC_get0 _ _ hv, hkv]
      have hc00 : wr.cell? ⟨w.heap.size, (20 - n) * 2 + 1, none⟩ = some (I (k (20 - n)).step) := by rw [hBq.cell, keysC_get1 _ _ hv, hkv]
      have hf0 := fun o => hBq.frozen o
      have hstep := aboveN_step p (20 - n) hv
      rw [show 20 - n + 1 = 21 - n by omega] at hstep
      have hle := aboveN_le_all p (20 - n) (by omega)
      rw [aboveN_all, HC.out] at hle
      have hbit : bits .and .u32 ((m : Int) / 2 ^ (20 - n)) 1 = if p (20 - n) then 1 else 0 := by rw [← HM.out]; exact turn_bit p _ hv
      have hks : (k (20 - n)).step ≤ 254 := hST.out _ hv
      have hkg := (hK.out _ hv).1.1
      have BQ := Lib.hid hBq; clear hBq
      have K1 := Lib.hid hk1; clear hk1
      have K2 := Lib.hid hk2; clear hk2
      have B1 := Lib.hid hB1; clear hB1
      generalize hA : aboveN p (21 - n) = A at *
      have HA := Lib.hid hA; clear hA
      have hnn : 21 - (n + 1) = 20 - n := by omega
      cases hp : p (20 - n)
      · rw [hp] at hbit hstep
        have hah : aheadS ⟨(k (20 - n)).base, (k (20 - n)).step⟩ 1 = (⟨(k (20 - n)).base, (k (20 - n)).step + 1⟩, 0) := by
          unfold aheadS; rw [if_neg (by simpa using hkg), if_neg (by show ¬ ((1 : Int) < 0 ∨ 255 - (k (20 - n)).step < 1); omega)]
        have HP := Lib.hid hp
        have HS := Lib.hid hstep
        have HKV := Lib.hid hkv
        clear hkg hp hstep hkv
        go_wp2_with (go_at_call 74; refine (key_Ahead _ _ 1 (by unfold I64; omega) _).mono ?_; rintro e w' ⟨rfl, hb⟩; have BQ2 := BQ.out.kept hb hy0; have B12 := B1.out.kept hb hy1; have hfq := fun o => BQ2.frozen o; have hcq0 := (hb.cell (p := ⟨w.heap.size, (20 - n) * 2, none⟩) hy0).trans hc0; have hcq1 := (hb.cell (p := ⟨w.heap.size, (20 - n) * 2 + 1, none⟩) hy0).trans hc00; have hyq := BQ2.lt; simp only [hah, kE])
        go_roundw
        case rel => exact ⟨n + 1, by omega, by go_num, by rw [hnn, HS.out]; simp, ⟨upd kk (20 - n) ⟨(k (20 - n)).base, (k (20 - n)).step + 1⟩, by first | exact (BQ2.key (20 - n) hv _ _).alloc _ | exact (BQ2.alloc _).key (20 - n) hv _ _, fun v h1 h2 => by
              by_cases h : v = 20 - n
              · subst h; rw [upd_same]; unfold turnK; rw [HP.out]; rfl
              · rw [upd_other _ _ _ h]; exact K1.out v (by omega) h2, fun v h1 => by rw [upd_other _ _ _ (by omega)]; exact K2.out v (by omega)⟩,
              by first | exact ((B12.set_other (by simp) _).set_other (by simp) _).alloc _ | exact ((B12.alloc _).set_other (by simp) _).set_other (by simp) _, by
              have hbw := bCall' hb hbq
              first | exact bAlloc (bSet (bSet hbw (Nat.le_refl _) _) (Nat.le_refl _) _) _ | exact bSet (bSet (bAlloc hbw _) (Nat.le_refl _) _) (Nat.le_refl _) _⟩
        case measure => simp [intOf]; omega
      · rw [hp] at hbit hstep
        have HP := Lib.hid hp
        have hA1 : fresh + (A : Int) + 1 ≤ 32768 := by simp at hstep; omega
        have HS := Lib.hid hstep
        clear hkg hp hstep hkv hle
        go_wp2
        go_roundw
        case rel => exact ⟨n + 1, by omega, by go_num, by rw [hnn, HS.out]; simp; omega, ⟨upd kk (20 - n) ⟨fresh + (A : Int), 0⟩, BQ.out.key (20 - n) hv _ _, fun v h1 h2 => by
              by_cases h : v = 20 - n
              · subst h; rw [upd_same]; unfold turnK; rw [if_pos HP.out, show 20 - n + 1 = 21 - n by omega, HA.out]
              · rw [upd_other _ _ _ h]; exact K1.out v (by omega) h2, fun v h1 => by rw [upd_other _ _ _ (by omega)]; exact K2.out v (by omega)⟩,
              (B1.out.set_other (by simp) _).set_other (by simp) _, bSet (bSet hbq (Nat.le_refl _) _) (Nat.le_refl _) _⟩
        case measure => simp [intOf]; omega
    · have h21 : n = 21 := by omega
      have hge : (21 : Int) ≤ (n : Int) := by omega
      have hfin : keysC kk = keysC (turnK k p fresh) := keysC_congr (fun v hv => hk1 v (by omega) hv)
      have hA : aboveN p (21 - n) = c := by rw [h21, ← HC.out]; exact aboveN_all p
      have HF := Lib.hid hfin
      have HA := Lib.hid hA
      have ha0 := hBq.at
      have hat := (hB1.setRow (keysC kk)).at 0 42
      rw [cellsIn_keys] at hat
      clear h21 hlt hn hk1 hk2 hfin hA hB1
      go_wp2
      exact bodyPost_ret (v := .tuple #[.agg (keysC kk), .int .i64 (fresh + (aboveN p (21 - n) : Nat)), .int .i64 0]) (by simp [results, Tryd.results48, Sem.run_bind, asAddr, loadVar_keys, ldV_keys, hat]) rfl ⟨by rw [HF.out, HA.out], below_setRow hbq (Nat.le_succ _) _⟩
end Go.Proofs.YtodgcmakdndbfaaDoor
/-
  Contracts: slices.ContainsFunc at roster.names' closure; roster.names, where the names are free.
-/
namespace Go.Proofs.YtodgcmakdndbfaaDoor
open Go.RowKit Cot
set_option linter.unusedSimpArgs false
set_option linter.unusedVariables false
set_option maxHeartbeats 800000 in
theorem contains_names (r : Nat → Entry) (base n : Int) (hb1 : 0 ≤ base) (hb2 : base ≤ 65536) (hn1 : 0 ≤ n) (hn2 : n ≤ 65536) (hno : ∀ j, j < 64 → nameE base n (r j) = false) (p q : Nat) (b : Nat) (w : World) (hB : Blk w b (rosterC r) 29) (hw : w.cell? ⟨p, 0, none⟩ = some (I base)) (hlw : p < w.heap.size) (hq : w.cell? ⟨q, 0, none⟩ = some (I n)) (hlq : q < w.heap.size) :
    Calls Tryd.prog 89 #[.slice (some ⟨b, 0, none⟩) 64 64, .func (.func 90) #[] #[.pointer (some ⟨p, 0, none⟩), .pointer (some ⟨q, 0, none⟩)]] w fun e w' => e = .returned (.bool false) ∧ Below w.heap.size w w' := by
  have hfi := firstI_none (p := fun s => nameE base n (r s)) hno
  have hi := index_names r base n hb1 hb2 hn1 hn2 p q b w hB hw hlw hq hlq
  rw [hfi] at hi
  have HI := Lib.hid hi
  clear hi hfi hno hw hq
  go_enter Tryd.func89, Tryd.ntmps89
  go_wp2_with (go_at_call 86; refine HI.out.mono ?_; rintro e w' ⟨rfl, hb⟩)
  go_ret
  exact ⟨rfl, hb⟩
set_option maxHeartbeats 800000 in
theorem roster_names (r : Nat → Entry) (base n : Int) (hf : 1 ≤ base) (hn : 0 ≤ n) (hs : base + n ≤ 32768) (hb : ∀ j, j < 64 → (r j).base < base) (w : World) :
    Calls Tryd.prog 75 #[.agg (rosterC r), .int .i64 base, .int .i64 n] w fun e w' => e = .returned (.bool true) ∧ Below w.heap.size w w' := by
  by_cases h0 : n = 0
  · subst h0
    clear hb
    go_enter Tryd.func75, Tryd.ntmps75
    go_wp2
    go_ret
    exact ⟨rfl, bAlloc (bAlloc (bAlloc (Below.refl _ _) _) _) _⟩
  have h0' : (n == 0) = false := by simpa using h0
  have hno : ∀ j, j < 64 → nameE base n (r j) = false := fun j hj => by
    unfold nameE; rw [decide_eq_false (show ¬ base ≤ (r j).base by have := hb j hj; omega)]; rfl
  have hc := contains_names r base n (by omega) (by omega) hn (by omega) hno (w.heap.size + 1) (w.heap.size + 1 + 1) w.heap.size (((w.alloc (.cells (rosterC r) 29)).alloc (.cells #[I base] 3)).alloc (.cells #[I n] 3)) (((Blk.new w _ _).alloc _).alloc _)
    (by have h := ((Blk.new (w.alloc (.cells (rosterC r) 29)) #[I base] 3).alloc (.cells #[I n] 3)).cell 0; rw [World.size_alloc] at h; exact h) (by simp)
    (by have h := (Blk.new ((w.alloc (.cells (rosterC r) 29)).alloc (.cells #[I base] 3)) #[I n] 3).cell 0; simp only [World.size_alloc] at h; exact h) (by simp)
  have HC := Lib.hid hc
  clear hc hno hb h0
  go_enter Tryd.func75, Tryd.ntmps75
  go_wp2_with (go_at_call 89; refine HC.out.mono ?_; rintro e w' ⟨rfl, hb⟩)
  go_ret
  exact ⟨rfl, bCall' hb (bAlloc (bAlloc (bAlloc (Below.refl _ _) _) _) _)⟩
end Go.Proofs.YtodgcmakdndbfaaDoor
/-
  Contracts: coterieref08.Same, coterieref09.Same on lists that are alike. Printed by wip/gen/gk.py.
-/
namespace Go.Proofs.YtodgcmakdndbfaaDoor
open Go.RowKit Cot
set_option linter.unusedSimpArgs false
set_option linter.unusedVariables false
set_option maxHeartbeats 800000 in
theorem ref08_Same (l : List Int) (ao bo : Option Addr) (cap cap2 : Nat) (hl : l.length ≤ 35184372088832) (w : World) (hA : IntsAt w ao l) (hB : IntsAt w bo l) : Calls Tryd.prog 23 #[.slice ao l.length cap, .slice bo l.length cap2] w fun e w' => e = .returned (.bool true) ∧ Below w.heap.size w w' := by
  go_enter Tryd.func23, Tryd.ntmps23
  go_wp2
  go_loopw [5, 13] (fun _ i wr => ∃ n : Nat, n ≤ l.length ∧ i = .int .i64 n ∧ Below w.heap.size w wr) (fun _ i _ => l.length - (intOf i).toNat)
  case atStart => exact ⟨0, by omega, rfl, Below.refl _ _⟩
  case round =>
    obtain ⟨n, hn, rfl, hbel⟩ := hrel
    by_cases hlt : n < l.length
    · have hlt' : (n : Int) < (l.length : Int) := by omega
      obtain ⟨x, hx⟩ := some_of_lt hlt
      obtain ⟨b, off, rfl, hb, c0⟩ := (hA.kept hbel) n x hx
      obtain ⟨b2, off2, rfl, hb2, d0⟩ := (hB.kept hbel) n x hx
      clear hx hA hB
      have hne : (x != x) = false := by simp
      go_wp2
      go_quiet (fail)
      go_wp2
      go_roundw
      case rel => exact ⟨n + 1, by omega, by go_num, bDrewN hbel _⟩
      case measure => simp [intOf]; omega
    · have hge : (l.length : Int) ≤ (n : Int) := by omega
      clear hlt hn hA hB
      go_wp2
      go_ret
      exact ⟨rfl, hbel⟩
set_option maxHeartbeats 800000 in
theorem ref09_Same (l : List Seat) (ao bo : Option Addr) (cap cap2 : Nat) (hl : l.length ≤ 35184372088832) (w : World) (hA : SeatsAt w ao l) (hB : SeatsAt w bo l) : Calls Tryd.prog 41 #[.slice ao l.length cap, .slice bo l.length cap2] w fun e w' => e = .returned (.bool true) ∧ Below w.heap.size w w' := by
  go_enter Tryd.func41, Tryd.ntmps41
  go_wp2
  go_loopw [5, 13] (fun _ i wr => ∃ n : Nat, n ≤ l.length ∧ i = .int .i64 n ∧ Below w.heap.size w wr) (fun _ i _ => l.length - (intOf i).toNat)
  case atStart => exact ⟨0, by omega, rfl, Below.refl _ _⟩
  case round =>
    obtain ⟨n, hn, rfl, hbel⟩ := hrel
    by_cases hlt : n < l.length
    · have hlt' : (n : Int) < (l.length : Int) := by omega
      obtain ⟨x, hx⟩ := some_of_lt hlt
      obtain ⟨b, off, rfl, hb, c0, c1⟩ := (hA.kept hbel) n x hx
      obtain ⟨b2, off2, rfl, hb2, d0, d1⟩ := (hB.kept hbel) n x hx
      clear hx hA hB
      have hne : (!(x.who == x.who && x.slot == x.slot)) = false := by simp
      go_wp2
      go_quiet (fail)
      go_wp2
      go_roundw
      case rel => exact ⟨n + 1, by omega, by go_num, bDrewN hbel _⟩
      case measure => simp [intOf]; omega
    · have hge : (l.length : Int) ≤ (n : Int) := by omega
      clear hlt hn hA hB
      go_wp2
      go_ret
      exact ⟨rfl, hbel⟩
end Go.Proofs.YtodgcmakdndbfaaDoor
/-
  '==' of boxes and items.
-/
namespace Go.Proofs.YtodgcmakdndbfaaDoor
open Go.RowKit Cot
theorem partKey {xs : Array Value} {off : Nat} {a b : Int} (h : xs.extract off (off + 2) = #[I a, I b]) {w : World} : (part 23 xs off).run Tryd.prog w = .ok (.agg #[I a, I b]) w := run_part_agg Tryd.underlying23 rfl (by kernel_rfl) _ _ _ h w
theorem partBox {xs out : Array Value} {off : Nat} (h : xs.extract off (off + 4) = out) {w : World} : (part 68 xs off).run Tryd.prog w = .ok (.agg out) w := run_part_agg Tryd.underlying68 rfl (by kernel_rfl) _ _ _ h w
theorem eqI_box (d : Nat) (a0 a1 a2 a3 b0 b1 b2 b3 : Int) (w : World) : (Op.equalIn (d + 3) 68 (.agg #[I a0, I a1, I a2, I a3]) (.agg #[I b0, I b1, I b2, I b3])).run Tryd.prog w = .ok ((a0 == b0 && (a1 == b1 && true)) && ((a2 == b2 && (a3 == b3 && true)) && true)) w := by
  rw [run_equalIn_struct w (d + 2) 68 _ _ (by kernel_rfl) (by kernel_rfl)]
  have hf : (Tryd.prog.fieldsOf 68).toList.map fld = [(23, 0, false), (23, 2, false)] := by kernel_rfl
  refine eqF_cons hf (partKey rfl) (partKey rfl) (eqI_key d _ _ _ _ w) ?_
  intro gs hf
  refine eqF_cons hf (partKey rfl) (partKey rfl) (eqI_key d _ _ _ _ w) ?_
  exact eqF_nil
theorem eqI_item (d : Nat) (a0 a1 a2 a3 a4 a5 b0 b1 b2 b3 b4 b5 : Int) (w : World) : (Op.equalIn (d + 4) 70 (.agg #[I a0, I a1, I a2, I a3, I a4, I a5]) (.agg #[I b0, I b1, I b2, I b3, I b4, I b5])).run Tryd.prog w =
    .ok (a0 == b0 && (a1 == b1 && (((a2 == b2 && (a3 == b3 && true)) && ((a4 == b4 && (a5 == b5 && true)) && true)) && true))) w := by
  rw [run_equalIn_struct w (d + 3) 70 _ _ (by kernel_rfl) (by kernel_rfl)]
  have hf : (Tryd.prog.fieldsOf 70).toList.map fld = [(3, 0, false), (3, 1, false), (68, 2, false)] := by kernel_rfl
  refine eqF_cons hf (partInt rfl) (partInt rfl) eqInt ?_
  intro gs hf
  refine eqF_cons hf (partInt rfl) (partInt rfl) eqInt ?_
  intro gs hf
  refine eqF_cons hf (partBox rfl) (partBox rfl) (eqI_box d _ _ _ _ _ _ _ _ w) ?_
  exact eqF_nil
def itemEq (a0 a1 a2 a3 a4 a5 b0 b1 b2 b3 b4 b5 : Int) : Bool := a0 == b0 && (a1 == b1 && (a2 == b2 && (a3 == b3 && (a4 == b4 && a5 == b5))))
theorem itemEq_self (a0 a1 a2 a3 a4 a5 : Int) : itemEq a0 a1 a2 a3 a4 a5 a0 a1 a2 a3 a4 a5 = true := by simp [itemEq]
@[go_sem] theorem eq_item (a0 a1 a2 a3 a4 a5 b0 b1 b2 b3 b4 b5 : Int) (w : World) : (eqBig 70 (.agg #[I a0, I a1, I a2, I a3, I a4, I a5]) (.agg #[I b0, I b1, I b2, I b3, I b4, I b5])).run Tryd.prog w = .ok (.bool (itemEq a0 a1 a2 a3 a4 a5 b0 b1 b2 b3 b4 b5)) w := by
  have h := run_eqBig w (show (Op.equal 70 (.agg #[I a0, I a1, I a2, I a3, I a4, I a5]) (.agg #[I b0, I b1, I b2, I b3, I b4, I b5])).run Tryd.prog w = _ from eqI_item 9996 _ _ _ _ _ _ _ _ _ _ _ _ w)
  rw [h]; simp only [Bool.and_true, Bool.and_assoc, itemEq]
@[go_sem] theorem ne_item (a0 a1 a2 a3 a4 a5 b0 b1 b2 b3 b4 b5 : Int) (w : World) : (neBig 70 (.agg #[I a0, I a1, I a2, I a3, I a4, I a5]) (.agg #[I b0, I b1, I b2, I b3, I b4, I b5])).run Tryd.prog w = .ok (.bool (!(itemEq a0 a1 a2 a3 a4 a5 b0 b1 b2 b3 b4 b5))) w := by
  have h := run_neBig w (show (Op.equal 70 (.agg #[I a0, I a1, I a2, I a3, I a4, I a5]) (.agg #[I b0, I b1, I b2, I b3, I b4, I b5])).run Tryd.prog w = _ from eqI_item 9996 _ _ _ _ _ _ _ _ _ _ _ _ w)
  rw [h]; simp only [Bool.and_true, Bool.and_assoc, itemEq]
set_option maxHeartbeats 800000 in
theorem ref12_SameItems (l : List Itm) (ao bo : Option Addr) (cap cap2 : Nat) (hl : l.length ≤ 35184372088832) (w : World) (hA : ItemsAt w ao l) (hB : ItemsAt w bo l) : Calls Tryd.prog 42 #[.slice ao l.length cap, .slice bo l.length cap2] w fun e w' => e = .returned (.bool true) ∧ Below w.heap.size w w' := by
  go_enter Tryd.func42, Tryd.ntmps42
  go_wp2
  go_loopw [5, 13] (fun _ i wr => ∃ n : Nat, n ≤ l.length ∧ i = .int .i64 n ∧ Below w.heap.size w wr) (fun _ i _ => l.length - (intOf i).toNat)
  case atStart => exact ⟨0, by omega, rfl, Below.refl _ _⟩
  case round =>
    obtain ⟨n, hn, rfl, hbel⟩ := hrel
    by_cases hlt : n < l.length
    · have hlt' : (n : Int) < (l.length : Int) := by omega
      obtain ⟨x, hx⟩ := some_of_lt hlt
      obtain ⟨b, off, rfl, hb, c0, c1, c2, c3, c4, c5⟩ := (hA.kept hbel) n x hx
      obtain ⟨b2, off2, rfl, hb2, d0, d1, d2, d3, d4, d5⟩ := (hB.kept hbel) n x hx
      clear hx hA hB
      have hne := itemEq_self x.node x.frm x.under.base x.under.step x.load.base x.load.step
      go_wp2
      go_quiet (fail)
      go_wp2
      go_roundw
      case rel => exact ⟨n + 1, by omega, by go_num, bDrewN hbel _⟩
      case measure => simp [intOf]; omega
    · have hge : (l.length : Int) ≤ (n : Int) := by omega
      clear hlt hn hA hB
      go_wp2
      go_ret
      exact ⟨rfl, hbel⟩
end Go.Proofs.YtodgcmakdndbfaaDoor
/-
  Contract: coterieref11.Below: is a seat taken at or below the node?
-/
namespace Go.Proofs.YtodgcmakdndbfaaDoor
open Go.RowKit Cot
set_option linter.unusedSimpArgs false
set_option linter.unusedVariables false
theorem held_yes {r : Nat → Entry} {v s : Nat} (hs : s < 64) (ht : takenP r s = true) (hu : up v s = true) : heldP r v = true := by
  unfold heldP; rw [List.any_eq_true]; exact ⟨s, List.mem_range.2 hs, by rw [ht, hu]; rfl⟩
theorem held_no {r : Nat → Entry} {v : Nat} (h : ∀ s, s < 64 → (takenP r s && up v s) = false) : heldP r v = false := by
  unfold heldP; rw [List.any_eq_false]; intro s hs; simp [h s (List.mem_range.1 hs)]
set_option maxHeartbeats 800000 in
theorem ref11_Below (r : Nat → Entry) (v : Nat) (hv : v < 85) (w : World) : Calls Tryd.prog 66 #[.agg (rosterC r), .int .i64 v] w fun e w' => e = .returned (.bool (heldP r v)) ∧ Below w.heap.size w w' := by
  go_enter Tryd.func66, Tryd.ntmps66
  go_wp2
  go_loopw [5] (fun i wr => ∃ n : Nat, n ≤ 64 ∧ i = .int .i64 n ∧ (∀ s, s < n → (takenP r s && up v s) = false) ∧ Below (w.alloc (.cells (rosterC r) 29)).heap.size (w.alloc (.cells (rosterC r) 29)) wr) (fun i _ => 64 - (intOf i).toNat)
  case atStart => exact ⟨0, by omega, rfl, by omega, Below.refl _ _⟩
  case round =>
    obtain ⟨n, hn, rfl, hno, hbel⟩ := hrel
    obtain ⟨bc, bf, ba, br, bz⟩ := bFacts hbel
    have hc0 := fun o => bc w.heap.size o (by simp)
    have hf0 := fun o => bf w.heap.size o (by simp)
    clear bc bf ba br bz
    have HNO := Lib.hid hno; clear hno
    by_cases hlt : n < 64
    · have hlt' : (n : Int) < 64 := by omega
      have hlf : leafI (n : Int) = 21 + (n : Int) := by unfold leafI; rw [if_pos (by omega)]
      cases ht : takenP r n
      · have hb0 : ((r n).base != 0) = false := by rw [takenP_bne]; exact ht
        have HT := Lib.hid ht; clear ht
        go_wp2
        go_roundw
        case rel => exact ⟨n + 1, by omega, by go_num, fun j hj => by rcases Nat.lt_succ_iff_lt_or_eq.1 hj with h | h; exact HNO.out j h; subst h; rw [HT.out]; rfl, hbel⟩
        case measure => simp [intOf]; omega
      · have hb0 : ((r n).base != 0) = true := by rw [takenP_bne]; exact ht
        have HT := Lib.hid ht; clear ht
        cases hu : up v n
        · have HU := Lib.hid hu
          go_wp2_with (first | (go_at_call 12; refine (ref01_Leaf _ _).mono ?_; rintro e w' ⟨rfl, rfl⟩; simp only [hlf]) | (go_at_call 84; refine (ref01_Below' _ _ v n rfl rfl (by omega) (by omega) _).mono ?_; rintro e w' ⟨rfl, rfl⟩; simp only [hu]))
          go_roundw
          case rel => exact ⟨n + 1, by omega, by go_num, fun j hj => by rcases Nat.lt_succ_iff_lt_or_eq.1 hj with h | h; exact HNO.out j h; subst h; rw [HU.out, HT.out]; rfl, hbel⟩
          case measure => simp [intOf]; omega
        · have hy := held_yes hlt HT.out hu
          have HY := Lib.hid hy; clear hy
          go_wp2_with (first | (go_at_call 12; refine (ref01_Leaf _ _).mono ?_; rintro e w' ⟨rfl, rfl⟩; simp only [hlf]) | (go_at_call 84; refine (ref01_Below' _ _ v n rfl rfl (by omega) (by omega) _).mono ?_; rintro e w' ⟨rfl, rfl⟩; simp only [hu]))
          go_ret
          exact ⟨by rw [HY.out] <;> rfl, bCall' hbel (bAlloc (Below.refl _ _) _)⟩
    · have h64 : n = 64 := by omega
      have hge : (64 : Int) ≤ (n : Int) := by omega
      rw [h64] at HNO
      have hy := held_no HNO.out
      have HY := Lib.hid hy
      clear h64 hlt hn hy
      go_wp2
      go_ret
      exact ⟨by rw [HY.out] <;> rfl, bCall' hbel (bAlloc (Below.refl _ _) _)⟩
end Go.Proofs.YtodgcmakdndbfaaDoor
/-
  Contracts: key.Seal at good keys. Printed by wip/gen/gk.py.
-/
namespace Go.Proofs.YtodgcmakdndbfaaDoor
open Go.RowKit Cot
set_option linter.unusedSimpArgs false
set_option linter.unusedVariables false
set_option maxHeartbeats 800000 in
theorem key_Seal (a b c d : Int) (h1 : goodK ⟨a, b⟩) (h2 : goodK ⟨c, d⟩) (w : World) : Calls Tryd.prog 51 #[.agg #[I a, I b], .agg #[I c, I d]] w fun e w' => e = .returned (.tuple #[.agg #[I a, I b, I c, I d], .int .i64 0]) ∧ Below w.heap.size w w' := by
  have d1 : decide (goodK ⟨a, b⟩) = true := decide_eq_true h1
  have d2 : decide (goodK ⟨c, d⟩) = true := decide_eq_true h2
  clear h1 h2
  go_enter Tryd.func51, Tryd.ntmps51
  go_wp2_with (first | (go_at_call 77; refine (key_Good _ _ _).mono ?_; rintro e w' ⟨rfl, hb⟩; obtain ⟨bc, bf, ba, br, bz⟩ := bFacts hb; have hz := bSize hb (n := w.heap.size + 3) (by first | omega | (simp; done) | (simp; omega)); have hc0 := fun o => bc w.heap.size o (by first | omega | (simp; done) | (simp; omega)); have hf0 := fun o => bf w.heap.size o (by first | omega | (simp; done) | (simp; omega)); have hc1 := fun o => bc (w.heap.size + 1) o (by first | omega | (simp; done) | (simp; omega)); have hf1 := fun o => bf (w.heap.size + 1) o (by first | omega | (simp; done) | (simp; omega)); have hc2 := fun o => bc (w.heap.size + 2) o (by first | omega | (simp; done) | (simp; omega)); have hf2 := fun o => bf (w.heap.size + 2) o (by first | omega | (simp; done) | (simp; omega)); clear bc bf ba br bz; simp only [d1, d2]))
  exact bodyPost_ret (v := .tuple #[.agg #[I a, I b, I c, I d], .int .i64 0]) (by simp [results, Tryd.results51, go_sem, *]) rfl ⟨rfl, (by repeat' (first | exact Below.refl _ _ | (refine bSet ?_ (by first | (simp; done) | (simp; omega)) _) | (refine bAlloc ?_ _) | (refine bDrew ?_) | (refine bDrewN ?_ _) | (refine bCall' (by assumption) ?_)))⟩
end Go.Proofs.YtodgcmakdndbfaaDoor
