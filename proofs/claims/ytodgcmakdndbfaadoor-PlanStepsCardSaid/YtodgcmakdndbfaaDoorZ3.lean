/-
  Parts of a proof: Mask, Slice, Pop, Bits, Eql. Merged by program.
-/
import Derived.Test.YtodgcmakdndbfaaDoorZ2
import Derived.Lib.BitFns
import Derived.DeepKeys
import Derived.Laws.StructEq
/-
  Contracts: shape.span, Mask, Above.
-/
namespace Go.Proofs.YtodgcmakdndbfaaDoor
open Go.RowKit Cot

theorem bDrewN {a w : World} (h : Below a.heap.size a w) (n : Nat) : Below a.heap.size a (w.drewN n) := ⟨h.os, h.tape, h.output, h.size, h.block⟩
def spanFrom (v : Nat) : Nat := if v = 0 then 0 else if v < 5 then (v - 1) * 16 else if v < 21 then (v - 5) * 4 else v - 21
def spanN (v : Nat) : Nat := if v = 0 then 64 else if v < 5 then 16 else if v < 21 then 4 else 1
set_option maxHeartbeats 800000 in
theorem shape_span3 (v : Nat) (hv : v < 85) (hc : 21 ≤ v) (w : World) : Calls Tryd.prog 58 #[.int .i64 v] w fun e w' => e = .returned (.tuple #[.int .i64 (spanFrom v), .int .i64 (spanN v)]) ∧ ∃ n, w' = w.drewN n := by
  have hl : levelI v = 3 := by unfold levelI; rw [if_neg (by omega), if_pos (by omega)]
  have e1 : (spanFrom v : Int) = (v : Int) - 21 := by unfold spanFrom; rw [if_neg (by omega), if_neg (by omega), if_neg (by omega)]; omega
  have e2 : spanN v = 1 := by unfold spanN; rw [if_neg (by omega), if_neg (by omega), if_neg (by omega)]
  have hs : 21 ≤ v := hc
  
  rw [e1, e2]; clear e1 e2
  go_enter Tryd.func58, Tryd.ntmps58
  go_wp2_with (first | (go_at_call 57; refine (shape_Level _ _).mono ?_; rintro e w' ⟨rfl, rfl⟩))
  go_quiet ((go_at_call 80; exact quietC (shape_first' _ 3 21 (by omega) rfl rfl _)))
  go_wp2
  go_ret2
  exact ⟨by simp, _, rfl⟩
set_option maxHeartbeats 800000 in
theorem shape_span2 (v : Nat) (hv : v < 85) (hc : 5 ≤ v ∧ v < 21) (w : World) : Calls Tryd.prog 58 #[.int .i64 v] w fun e w' => e = .returned (.tuple #[.int .i64 (spanFrom v), .int .i64 (spanN v)]) ∧ ∃ n, w' = w.drewN n := by
  have hl : levelI v = 2 := by unfold levelI; rw [if_neg (by omega), if_neg (by omega), if_pos (by omega)]
  have e1 : (spanFrom v : Int) = ((v : Int) - 5) * 4 := by unfold spanFrom; rw [if_neg (by omega), if_neg (by omega), if_pos (by omega)]; omega
  have e2 : spanN v = 4 := by unfold spanN; rw [if_neg (by omega), if_neg (by omega), if_pos (by omega)]
  have hs : 5 ≤ v ∧ v < 21 := hc
  obtain ⟨hc1, hc2⟩ := hc
  rw [e1, e2]; clear e1 e2
  go_enter Tryd.func58, Tryd.ntmps58
  go_wp2_with (first | (go_at_call 57; refine (shape_Level _ _).mono ?_; rintro e w' ⟨rfl, rfl⟩))
  go_quiet ((go_at_call 80; exact quietC (shape_first' _ 2 5 (by omega) rfl rfl _)))
  go_wp2
  go_ret2
  exact ⟨by simp, _, rfl⟩
set_option maxHeartbeats 800000 in
theorem shape_span1 (v : Nat) (hv : v < 85) (hc : 1 ≤ v ∧ v < 5) (w : World) : Calls Tryd.prog 58 #[.int .i64 v] w fun e w' => e = .returned (.tuple #[.int .i64 (spanFrom v), .int .i64 (spanN v)]) ∧ ∃ n, w' = w.drewN n := by
  have hl : levelI v = 1 := by unfold levelI; rw [if_neg (by omega), if_neg (by omega), if_neg (by omega), if_pos (by omega)]
  have e1 : (spanFrom v : Int) = ((v : Int) - 1) * 16 := by unfold spanFrom; rw [if_neg (by omega), if_pos (by omega)]; omega
  have e2 : spanN v = 16 := by unfold spanN; rw [if_neg (by omega), if_pos (by omega)]
  have hs : 1 ≤ v ∧ v < 5 := hc
  obtain ⟨hc1, hc2⟩ := hc
  rw [e1, e2]; clear e1 e2
  go_enter Tryd.func58, Tryd.ntmps58
  go_wp2_with (first | (go_at_call 57; refine (shape_Level _ _).mono ?_; rintro e w' ⟨rfl, rfl⟩))
  go_quiet ((go_at_call 80; exact quietC (shape_first' _ 1 1 (by omega) rfl rfl _)))
  go_wp2
  go_ret2
  exact ⟨by simp, _, rfl⟩
set_option maxHeartbeats 800000 in
theorem shape_span0 (v : Nat) (hc : v = 0) (w : World) : Calls Tryd.prog 58 #[.int .i64 v] w fun e w' => e = .returned (.tuple #[.int .i64 (spanFrom v), .int .i64 (spanN v)]) ∧ ∃ n, w' = w.drewN n := by
  subst hc
  have hl : levelI 0 = 0 := by decide
  rw [show ((0 : Nat) : Int) = 0 from rfl, show (spanFrom 0 : Int) = 0 by decide, show (spanN 0 : Int) = 64 by decide]
  go_enter Tryd.func58, Tryd.ntmps58
  go_wp2_with (first | (go_at_call 57; refine (shape_Level _ _).mono ?_; rintro e w' ⟨rfl, rfl⟩))
  go_quiet ((go_at_call 80; exact quietC (shape_first' _ 0 0 (by omega) rfl rfl _)))
  go_wp2
  go_ret2
  exact ⟨by simp, _, rfl⟩
theorem shape_span (v : Nat) (hv : v < 85) (w : World) : Calls Tryd.prog 58 #[.int .i64 v] w fun e w' => e = .returned (.tuple #[.int .i64 (spanFrom v), .int .i64 (spanN v)]) ∧ ∃ n, w' = w.drewN n := by
  by_cases h0 : v = 0
  · exact shape_span0 v h0 w
  by_cases h1 : v < 5
  · exact shape_span1 v hv ⟨by omega, h1⟩ w
  by_cases h2 : v < 21
  · exact shape_span2 v hv ⟨by omega, h2⟩ w
  · exact shape_span3 v hv (by omega) w

theorem wrapU64 (m : Nat) (x : Int) (hx : x = m) (h : m < 18446744073709551616) : IntKind.u64.wrap x = m := by
  subst hx; exact IntWalk.u64_in _ ⟨by omega, by omega⟩
set_option maxHeartbeats 800000 in
theorem shape_Mask3 (v : Nat) (hv : v < 85) (hc : 21 ≤ v) (w : World) : Calls Tryd.prog 32 #[.int .i64 v] w fun e w' => e = .returned (.int .u64 (maskN v)) ∧ ∃ n, w' = w.drewN n := by
  have hl : levelI v = 3 := by unfold levelI; rw [if_neg (by omega), if_pos (by omega)]
  have e1 : (spanFrom v : Int) = (v : Int) - 21 := by unfold spanFrom; rw [if_neg (by omega), if_neg (by omega), if_neg (by omega)]; omega
  have e2 : (spanN v : Int) = 1 := by unfold spanN; rw [if_neg (by omega), if_neg (by omega), if_neg (by omega)]; rfl
  go_enter Tryd.func32, Tryd.ntmps32
  go_wp2_with (first | (go_at_call 57; refine (shape_Level _ _).mono ?_; rintro e w' ⟨rfl, rfl⟩) | (go_at_call 58; refine (shape_span v hv _).mono ?_; rintro e w' ⟨rfl, ⟨nd, rfl⟩⟩))
  go_ret
  refine ⟨ret_int (wrapU64 _ _ ?_ (maskN_lt v)), nd, rfl⟩
  unfold maskN; rw [if_neg (by omega), if_neg (by omega), if_neg (by omega), if_pos hv]; simp
set_option maxHeartbeats 800000 in
theorem shape_Mask2 (v : Nat) (hv : v < 85) (hc : 5 ≤ v) (hc2 : v < 21) (w : World) : Calls Tryd.prog 32 #[.int .i64 v] w fun e w' => e = .returned (.int .u64 (maskN v)) ∧ ∃ n, w' = w.drewN n := by
  have hl : levelI v = 2 := by unfold levelI; rw [if_neg (by omega), if_neg (by omega), if_pos (by omega)]
  have e1 : (spanFrom v : Int) = ((v : Int) - 5) * 4 := by unfold spanFrom; rw [if_neg (by omega), if_neg (by omega), if_pos (by omega)]; omega
  have e2 : (spanN v : Int) = 4 := by unfold spanN; rw [if_neg (by omega), if_neg (by omega), if_pos (by omega)]; rfl
  go_enter Tryd.func32, Tryd.ntmps32
  go_wp2_with (first | (go_at_call 57; refine (shape_Level _ _).mono ?_; rintro e w' ⟨rfl, rfl⟩) | (go_at_call 58; refine (shape_span v hv _).mono ?_; rintro e w' ⟨rfl, ⟨nd, rfl⟩⟩))
  go_ret
  refine ⟨ret_int (wrapU64 _ _ ?_ (maskN_lt v)), nd, rfl⟩
  unfold maskN; rw [if_neg (by omega), if_neg (by omega), if_pos (by omega)]; simp
set_option maxHeartbeats 800000 in
theorem shape_Mask1 (v : Nat) (hv : v < 85) (hc : 1 ≤ v) (hc2 : v < 5) (w : World) : Calls Tryd.prog 32 #[.int .i64 v] w fun e w' => e = .returned (.int .u64 (maskN v)) ∧ ∃ n, w' = w.drewN n := by
  have hl : levelI v = 1 := by unfold levelI; rw [if_neg (by omega), if_neg (by omega), if_neg (by omega), if_pos (by omega)]
  have e1 : (spanFrom v : Int) = ((v : Int) - 1) * 16 := by unfold spanFrom; rw [if_neg (by omega), if_pos (by omega)]; omega
  have e2 : (spanN v : Int) = 16 := by unfold spanN; rw [if_neg (by omega), if_pos (by omega)]; rfl
  go_enter Tryd.func32, Tryd.ntmps32
  go_wp2_with (first | (go_at_call 57; refine (shape_Level _ _).mono ?_; rintro e w' ⟨rfl, rfl⟩) | (go_at_call 58; refine (shape_span v hv _).mono ?_; rintro e w' ⟨rfl, ⟨nd, rfl⟩⟩))
  go_ret
  refine ⟨ret_int (wrapU64 _ _ ?_ (maskN_lt v)), nd, rfl⟩
  unfold maskN; rw [if_neg (by omega), if_pos (by omega)]; simp
set_option maxHeartbeats 800000 in
theorem shape_Mask0 (w : World) : Calls Tryd.prog 32 #[.int .i64 0] w fun e w' => e = .returned (.int .u64 (maskN 0)) ∧ ∃ n, w' = w.drewN n := by
  have hl : levelI 0 = 0 := by decide
  have e1 : (spanFrom 0 : Int) = 0 := by decide
  have e2 : (spanN 0 : Int) = 64 := by decide
  have hsp := fun w => shape_span 0 (by omega) w
  simp only [e1, e2, Int.cast_ofNat_Int] at hsp
  clear e1 e2
  have H := Lib.hid hsp; clear hsp
  go_enter Tryd.func32, Tryd.ntmps32
  go_wp2_with (first | (go_at_call 57; refine (shape_Level _ _).mono ?_; rintro e w' ⟨rfl, rfl⟩) | (go_at_call 58; refine (H.out _).mono ?_; rintro e w' ⟨rfl, ⟨nd, rfl⟩⟩))
  go_ret
  exact ⟨ret_int (by decide), nd, rfl⟩
theorem shape_Mask (v : Nat) (hv : v < 85) (w : World) : Calls Tryd.prog 32 #[.int .i64 v] w fun e w' => e = .returned (.int .u64 (maskN v)) ∧ ∃ n, w' = w.drewN n := by
  by_cases h0 : v = 0
  · subst h0; exact shape_Mask0 w
  by_cases h1 : v < 5
  · exact shape_Mask1 v hv (by omega) h1 w
  by_cases h2 : v < 21
  · exact shape_Mask2 v hv (by omega) h2 w
  · exact shape_Mask3 v hv (by omega) w
end Go.Proofs.YtodgcmakdndbfaaDoor
/-
  Slices of numbers, of seats, of items: what lies in memory behind a slice value.
-/
namespace Go.Proofs.YtodgcmakdndbfaaDoor
open Go.RowKit Cot

/-- What a walk wants of the world behind a contract that ends in 'Below'. -/
theorem bFacts {W w1 : World} (h : Below W.heap.size W w1) : (∀ b o, b < W.heap.size → w1.cell? ⟨b, o, none⟩ = W.cell? ⟨b, o, none⟩) ∧ (∀ b o, b < W.heap.size → w1.frozen? ⟨b, o, none⟩ = W.frozen? ⟨b, o, none⟩) ∧
    (∀ b o n, b < W.heap.size → cellsAt w1 ⟨b, o, none⟩ n = cellsAt W ⟨b, o, none⟩ n) ∧ (∀ b n, b < W.heap.size → rowOf w1 b n = rowOf W b n) ∧ ∀ b, b < W.heap.size → b < w1.heap.size :=
  ⟨fun b o hb => h.cell (p := ⟨b, o, none⟩) hb, fun b o hb => h.frozen (p := ⟨b, o, none⟩) hb, fun b o n hb => by unfold cellsAt; rw [h.block b hb], fun b n hb => by unfold rowOf; rw [h.block b hb], fun b hb => Nat.lt_of_lt_of_le hb h.size⟩
theorem bCall' {a w w' : World} (k : Below w.heap.size w w') (h : Below a.heap.size a w) : Below a.heap.size a w' := bCall h k
theorem bSize {W w1 : World} (h : Below W.heap.size W w1) {n : Nat} (hn : n ≤ W.heap.size) : n ≤ w1.heap.size := Nat.le_trans hn h.size
theorem bSet {a w : World} (h : Below a.heap.size a w) {p : Addr} (hp : a.heap.size ≤ p.block) (u : Value) : Below a.heap.size a (w.setCell p u) := h.setCell hp u
def IntsAt (w : World) (ao : Option Addr) (l : List Int) : Prop := ∀ k x, l[k]? = some x → ∃ b off, ao = some ⟨b, off, none⟩ ∧ b < w.heap.size ∧ w.cell? ⟨b, off + k, none⟩ = some (I x)
def SeatsAt (w : World) (ao : Option Addr) (l : List Seat) : Prop := ∀ k s, l[k]? = some s → ∃ b off, ao = some ⟨b, off, none⟩ ∧ b < w.heap.size ∧ w.cell? ⟨b, off + k * 2, none⟩ = some (I s.who) ∧ w.cell? ⟨b, off + k * 2 + 1, none⟩ = some (I s.slot)
def ItemsAt (w : World) (ao : Option Addr) (l : List Itm) : Prop := ∀ k x, l[k]? = some x → ∃ b off, ao = some ⟨b, off, none⟩ ∧ b < w.heap.size ∧
  w.cell? ⟨b, off + k * 6, none⟩ = some (I x.node) ∧ w.cell? ⟨b, off + k * 6 + 1, none⟩ = some (I x.frm) ∧ w.cell? ⟨b, off + k * 6 + 2, none⟩ = some (I x.under.base) ∧ w.cell? ⟨b, off + k * 6 + 3, none⟩ = some (I x.under.step) ∧
  w.cell? ⟨b, off + k * 6 + 4, none⟩ = some (I x.load.base) ∧ w.cell? ⟨b, off + k * 6 + 5, none⟩ = some (I x.load.step)
theorem IntsAt.kept {w w' : World} {ao : Option Addr} {l : List Int} (h : IntsAt w ao l) (hb : Below w.heap.size w w') : IntsAt w' ao l := by
  intro k x hk
  obtain ⟨b, off, e, hlt, c⟩ := h k x hk
  exact ⟨b, off, e, Nat.lt_of_lt_of_le hlt hb.size, (hb.cell (p := ⟨b, off + k, none⟩) hlt).trans c⟩
theorem SeatsAt.kept {w w' : World} {ao : Option Addr} {l : List Seat} (h : SeatsAt w ao l) (hb : Below w.heap.size w w') : SeatsAt w' ao l := by
  intro k x hk
  obtain ⟨b, off, e, hlt, c, d⟩ := h k x hk
  exact ⟨b, off, e, Nat.lt_of_lt_of_le hlt hb.size, (hb.cell (p := ⟨b, _, none⟩) hlt).trans c, (hb.cell (p := ⟨b, _, none⟩) hlt).trans d⟩
theorem ItemsAt.kept {w w' : World} {ao : Option Addr} {l : List Itm} (h : ItemsAt w ao l) (hb : Below w.heap.size w w') : ItemsAt w' ao l := by
  intro k x hk
  obtain ⟨b, off, e, hlt, c0, c1, c2, c3, c4, c5⟩ := h k x hk
  exact ⟨b, off, e, Nat.lt_of_lt_of_le hlt hb.size, (hb.cell (p := ⟨b, _, none⟩) hlt).trans c0, (hb.cell (p := ⟨b, _, none⟩) hlt).trans c1, (hb.cell (p := ⟨b, _, none⟩) hlt).trans c2,
    (hb.cell (p := ⟨b, _, none⟩) hlt).trans c3, (hb.cell (p := ⟨b, _, none⟩) hlt).trans c4, (hb.cell (p := ⟨b, _, none⟩) hlt).trans c5⟩
theorem some_of_lt {α : Type} {l : List α} {k : Nat} (h : k < l.length) : ∃ x, l[k]? = some x := ⟨l[k], by simp [h]⟩
theorem take_snoc' {α : Type} {l : List α} {k : Nat} {x : α} (h : l[k]? = some x) : l.take (k + 1) = l.take k ++ [x] := by
  rw [List.take_add_one, h]; rfl
theorem take_all {α : Type} {l : List α} {k : Nat} (h : l.length ≤ k) : l.take k = l := List.take_of_length_le h

def aboveP (s v : Nat) : Bool := decide (maskN v &&& s ≠ 0)
theorem bitsOf21_lt (p : Nat → Bool) {k : Nat} (h : k ≤ 21) : bitsOf p k < 4294967296 :=
  Nat.lt_of_lt_of_le (bitsOf_lt p k) (Nat.le_trans (Nat.pow_le_pow_right (by omega) h) (by omega))
theorem bitsOf_yes {p : Nat → Bool} {k : Nat} (h : p k = true) : bitsOf p (k + 1) = bitsOf p k + 2 ^ k := by
  show bitsOf p k + _ = _
  rw [h]; rfl
theorem bitsOf_no {p : Nat → Bool} {k : Nat} (h : p k = false) : bitsOf p (k + 1) = bitsOf p k := by
  show bitsOf p k + _ = _
  rw [h]; rfl
theorem or_bit (p : Nat → Bool) (k : Nat) : bitsOf p k ||| 2 ^ k = bitsOf p k + 2 ^ k := by
  rw [Nat.or_comm, Nat.add_comm]
  have := Nat.two_pow_add_eq_or_of_lt (bitsOf_lt p k) 1
  simpa using this.symm
theorem or_step (p : Nat → Bool) (k : Nat) (hk : k < 21) (hp : p k = true) : bits .or .u32 (bitsOf p k : Int) ((2 : Int) ^ k % 4294967296) = ((bitsOf p (k + 1) : Nat) : Int) := by
  have h2 : 2 ^ k < 4294967296 := Nat.lt_of_lt_of_le (Nat.pow_lt_pow_right (by omega) hk) (by omega)
  have e : (2 : Int) ^ k % 4294967296 = ((2 ^ k : Nat) : Int) := by
    have : (2 : Int) ^ k = ((2 ^ k : Nat) : Int) := by simp
    rw [this]; exact Int.emod_eq_of_lt (Int.natCast_nonneg _) (Int.ofNat_lt.2 h2)
  rw [e, u32_or_nat _ _ (bitsOf21_lt p (by omega)) h2, or_bit, bitsOf_yes hp]
set_option maxHeartbeats 800000 in
theorem shape_Above (s : Nat) (hs : s < 18446744073709551616) (w : World) : Calls Tryd.prog 34 #[.int .u64 s] w fun e w' => e = .returned (.int .u32 (bitsOf (aboveP s) 21)) ∧ Below w.heap.size w w' := by
  go_enter Tryd.func34, Tryd.ntmps34
  go_wp2
  go_loopw [3, 4, 5] (fun m _ i wr => ∃ k : Nat, k ≤ 21 ∧ i = .int .i64 k ∧ m = .int .u32 (bitsOf (aboveP s) k) ∧ Below w.heap.size w wr) (fun _ _ i _ => 21 - (intOf i).toNat)
  case atStart => exact ⟨0, by omega, rfl, rfl, Below.refl _ _⟩
  case round =>
    obtain ⟨k, hk, rfl, rfl, hbel⟩ := hrel
    by_cases hlt : k < 21
    · have hm := maskN_lt k
      have hw : bits .and .u64 (maskN k : Int) (s : Int) = ((maskN k &&& s : Nat) : Int) := u64_and_nat _ _ hm hs
      go_wp2_with (go_at_call 32; refine (shape_Mask k (by omega) _).mono ?_; rintro e w' ⟨rfl, ⟨nd, rfl⟩⟩)
      · have hp : aboveP s k = true := by
          have h : (((maskN k &&& s : Nat) : Int) != 0) = true := by assumption
          unfold aboveP; simp at h ⊢; omega
        go_roundw
        case rel => exact ⟨k + 1, by omega, by go_num, by rw [or_step _ k hlt hp], bDrewN hbel nd⟩
        case measure => simp [intOf]; omega
      · have hp : aboveP s k = false := by
          have h : (((maskN k &&& s : Nat) : Int) != 0) = false := by assumption
          unfold aboveP; simp at h ⊢; omega
        go_roundw
        case rel => exact ⟨k + 1, by omega, by go_num, by rw [bitsOf_no hp], bDrewN hbel nd⟩
        case measure => simp [intOf]; omega
    · obtain rfl : k = 21 := by omega
      go_wp2
      go_ret
      exact ⟨rfl, hbel⟩
end Go.Proofs.YtodgcmakdndbfaaDoor
/-
  Plain: how many bits a number has: by the mask method of math/bits, byte by byte.
-/
namespace Cot

def popN (n x : Nat) : Nat := cntOf x.testBit n
def popB (a : Nat) : Nat := popN 8 a
theorem cntOf_add (p : Nat → Bool) (m : Nat) : ∀ n, cntOf p (m + n) = cntOf p m + cntOf (fun i => p (m + i)) n
  | 0 => rfl
  | n + 1 => by
    rw [← Nat.add_assoc]
    show cntOf p (m + n) + _ = cntOf p m + (cntOf _ n + _)
    rw [cntOf_add p m n, Nat.add_assoc]
def mapB (f : Nat → Nat) : Nat → Nat → Nat
  | 0, _ => 0
  | n + 1, x => f (x % 256) + 256 * mapB f n (x / 256)
def sumB (f : Nat → Nat) : Nat → Nat → Nat
  | 0, _ => 0
  | n + 1, x => f (x % 256) + sumB f n (x / 256)
theorem popN_bytes : ∀ n x, popN (8 * n) x = sumB popB n x
  | 0, _ => rfl
  | n + 1, x => by
    unfold popN
    rw [show 8 * (n + 1) = 8 + 8 * n by omega, cntOf_add]
    have h1 : cntOf x.testBit 8 = popB (x % 256) := by
      unfold popB popN
      apply cntOf_congr
      intro i hi
      rw [show (256 : Nat) = 2 ^ 8 from rfl, Nat.testBit_mod_two_pow]
      simp [hi]
    have h2 : cntOf (fun i => x.testBit (8 + i)) (8 * n) = popN (8 * n) (x / 256) := by
      unfold popN
      apply cntOf_congr
      intro i hi
      rw [show (256 : Nat) = 2 ^ 8 from rfl, Nat.testBit_div_two_pow, Nat.add_comm]
    rw [h1, h2, popN_bytes n]
    rfl
theorem land_byte (a b m k : Nat) (ha : a < 256) (hm : m < 256) : (a + 256 * b) &&& (m + 256 * k) = (a &&& m) + 256 * (b &&& k) := by
  have h1 : ((a + 256 * b) &&& (m + 256 * k)) / 2 ^ 8 = b &&& k := by
    rw [Nat.and_div_two_pow]
    congr 1 <;> omega
  have h2 : ((a + 256 * b) &&& (m + 256 * k)) % 2 ^ 8 = a &&& m := by
    rw [Nat.and_mod_two_pow]
    congr 1 <;> omega
  omega
def rep (m : Nat) : Nat → Nat
  | 0 => 0
  | n + 1 => m + 256 * rep m n
def s1b (a : Nat) : Nat := (a / 2 &&& 85) + (a &&& 85)
def s2b (a : Nat) : Nat := (a / 4 &&& 51) + (a &&& 51)
def s3b (a : Nat) : Nat := (a / 16 + a) &&& 15
theorem f1 : ∀ a, a < 256 → ∀ e, e < 2 → (a / 2 + 128 * e) &&& 85 = a / 2 &&& 85 := by decide +kernel
theorem f2 : ∀ a, a < 256 → ∀ e, e < 4 → (a / 4 + 64 * e) &&& 51 = a / 4 &&& 51 := by decide +kernel
theorem f3 : ∀ a, a < 128 → ∀ e, e < 6 → (a / 16 + a + 16 * e) &&& 15 = (a / 16 + a) &&& 15 := by decide +kernel
theorem b1 : ∀ a, a < 256 → s1b a < 256 := by decide +kernel
theorem b2 : ∀ a, a < 256 → s2b (s1b a) < 128 ∧ s2b (s1b a) % 16 < 6 := by decide +kernel
theorem b3 : ∀ a, a < 256 → s3b (s2b (s1b a)) = popB a := by decide +kernel
theorem b4 : ∀ a, a < 256 → popB a ≤ 8 := by decide +kernel
theorem mod256 (x : Nat) : x % 256 < 256 := Nat.mod_lt _ (by omega)
theorem step1 : ∀ n x, x < 256 ^ n → (x / 2 &&& rep 85 n) + (x &&& rep 85 n) = mapB s1b n x
  | 0, x, h => by
    have : x = 0 := by simpa using h
    subst this; rfl
  | n + 1, x, h => by
    have hm := mod256 x
    have ih := step1 n (x / 256) (by rw [Nat.pow_succ] at h; omega)
    have e1 : x / 2 &&& rep 85 (n + 1) = (x % 256 / 2 &&& 85) + 256 * (x / 256 / 2 &&& rep 85 n) := by
      show x / 2 &&& (85 + 256 * rep 85 n) = _
      rw [show x / 2 = (x % 256 / 2 + 128 * (x / 256 % 2)) + 256 * (x / 256 / 2) by omega, land_byte _ _ _ _ (by omega) (by omega), f1 _ hm _ (by omega)]
    have e2 : x &&& rep 85 (n + 1) = (x % 256 &&& 85) + 256 * (x / 256 &&& rep 85 n) := by
      show x &&& (85 + 256 * rep 85 n) = _
      rw (occs := .pos [1]) [show x = x % 256 + 256 * (x / 256) by omega]
      rw [land_byte _ _ _ _ hm (by omega)]
    rw [e1, e2]
    show _ = s1b (x % 256) + 256 * mapB s1b n (x / 256)
    rw [← ih]
    unfold s1b
    omega
theorem mapB_lt (f : Nat → Nat) (hf : ∀ a, a < 256 → f a < 256) : ∀ n x, mapB f n x < 256 ^ n
  | 0, _ => by simp [mapB]
  | n + 1, x => by
    have := mapB_lt f hf n (x / 256)
    have := hf _ (mod256 x)
    show f (x % 256) + 256 * mapB f n (x / 256) < _
    rw [Nat.pow_succ]; omega
theorem step2 (f : Nat → Nat) (hf : ∀ a, a < 256 → f a < 256) : ∀ n x, (mapB f n x / 4 &&& rep 51 n) + (mapB f n x &&& rep 51 n) = mapB (fun a => s2b (f a)) n x
  | 0, x => by simp [mapB]
  | n + 1, x => by
    have hm := hf _ (mod256 x)
    have ih := step2 f hf n (x / 256)
    show ((f (x % 256) + 256 * mapB f n (x / 256)) / 4 &&& (51 + 256 * rep 51 n)) + ((f (x % 256) + 256 * mapB f n (x / 256)) &&& (51 + 256 * rep 51 n)) = s2b (f (x % 256)) + 256 * mapB _ n (x / 256)
    rw [← ih]
    generalize f (x % 256) = a at *
    generalize mapB f n (x / 256) = y at *
    rw [show (a + 256 * y) / 4 = (a / 4 + 64 * (y % 4)) + 256 * (y / 4) by omega, land_byte _ _ _ _ (by omega) (by omega), land_byte _ _ _ _ hm (by omega), f2 _ hm _ (by omega)]
    unfold s2b
    omega
theorem mapB_low (f : Nat → Nat) (hf : ∀ a, a < 256 → f a % 16 < 6) : ∀ n x, mapB f n x % 16 < 6
  | 0, _ => by simp [mapB]
  | n + 1, x => by
    have := hf _ (mod256 x)
    show (f (x % 256) + 256 * mapB f n (x / 256)) % 16 < 6
    omega
theorem step3 (f : Nat → Nat) (hf : ∀ a, a < 256 → f a < 128 ∧ f a % 16 < 6) : ∀ n x, (mapB f n x / 16 + mapB f n x) &&& rep 15 n = mapB (fun a => s3b (f a)) n x
  | 0, x => by simp [mapB, rep]
  | n + 1, x => by
    have hm := hf _ (mod256 x)
    have hl := mapB_low f (fun a h => (hf a h).2) n (x / 256)
    have ih := step3 f hf n (x / 256)
    show ((f (x % 256) + 256 * mapB f n (x / 256)) / 16 + (f (x % 256) + 256 * mapB f n (x / 256))) &&& (15 + 256 * rep 15 n) = s3b (f (x % 256)) + 256 * mapB _ n (x / 256)
    rw [← ih]
    generalize f (x % 256) = a at *
    generalize mapB f n (x / 256) = y at *
    rw [show (a + 256 * y) / 16 + (a + 256 * y) = (a / 16 + a + 16 * (y % 16)) + 256 * (y / 16 + y) by omega, land_byte _ _ _ _ (by omega) (by omega), f3 _ hm.1 _ hl]
    rfl
theorem mapB_congr {f g : Nat → Nat} (h : ∀ a, a < 256 → f a = g a) : ∀ n x, mapB f n x = mapB g n x
  | 0, _ => rfl
  | n + 1, x => by
    show f (x % 256) + 256 * mapB f n (x / 256) = g (x % 256) + 256 * mapB g n (x / 256)
    rw [h _ (mod256 x), mapB_congr h n]
theorem rep85 : rep 85 8 = 6148914691236517205 := by decide
theorem rep51 : rep 51 8 = 3689348814741910323 := by decide
theorem rep15 : rep 15 8 = 1085102592571150095 := by decide
theorem les {a y Y : Nat} (h : a ≤ 8) (g : y ≤ Y) : a + 256 * y ≤ 8 + 256 * Y := by omega
theorem dv (a y : Nat) (h : a < 256) : (a + 256 * y) / 256 = y := by omega
theorem dv2 (a b y : Nat) (h : a < 256) (g : b < 256) : (a + 256 * (b + 256 * y)) / 65536 = y := by omega
theorem dv4 (a b c d y : Nat) (h : a < 256) (g : b < 256) (hc : c < 256) (hd : d < 256) : (a + 256 * (b + 256 * (c + 256 * (d + 256 * y)))) / 4294967296 = y := by omega
theorem fin64 (c0 c1 c2 c3 c4 c5 c6 c7 : Nat) (q0 : c0 ≤ 8) (q1 : c1 ≤ 8) (q2 : c2 ≤ 8) (q3 : c3 ≤ 8) (q4 : c4 ≤ 8) (q5 : c5 ≤ 8) (q6 : c6 ≤ 8) (q7 : c7 ≤ 8) :
    c0 + 256 * (c1 + 256 * (c2 + 256 * (c3 + 256 * (c4 + 256 * (c5 + 256 * (c6 + 256 * (c7 + 256 * 0))))))) ≤ 578721382704613384 ∧
    (c0 + 256 * (c1 + 256 * (c2 + 256 * (c3 + 256 * (c4 + 256 * (c5 + 256 * (c6 + 256 * (c7 + 256 * 0))))))) + (c0 + 256 * (c1 + 256 * (c2 + 256 * (c3 + 256 * (c4 + 256 * (c5 + 256 * (c6 + 256 * (c7 + 256 * 0)))))))) / 256 +
      (c0 + 256 * (c1 + 256 * (c2 + 256 * (c3 + 256 * (c4 + 256 * (c5 + 256 * (c6 + 256 * (c7 + 256 * 0))))))) + (c0 + 256 * (c1 + 256 * (c2 + 256 * (c3 + 256 * (c4 + 256 * (c5 + 256 * (c6 + 256 * (c7 + 256 * 0)))))))) / 256) / 65536 +
      (c0 + 256 * (c1 + 256 * (c2 + 256 * (c3 + 256 * (c4 + 256 * (c5 + 256 * (c6 + 256 * (c7 + 256 * 0))))))) + (c0 + 256 * (c1 + 256 * (c2 + 256 * (c3 + 256 * (c4 + 256 * (c5 + 256 * (c6 + 256 * (c7 + 256 * 0)))))))) / 256 +
        (c0 + 256 * (c1 + 256 * (c2 + 256 * (c3 + 256 * (c4 + 256 * (c5 + 256 * (c6 + 256 * (c7 + 256 * 0))))))) + (c0 + 256 * (c1 + 256 * (c2 + 256 * (c3 + 256 * (c4 + 256 * (c5 + 256 * (c6 + 256 * (c7 + 256 * 0)))))))) / 256) / 65536) / 4294967296) % 128 =
      c0 + (c1 + (c2 + (c3 + (c4 + (c5 + (c6 + (c7 + 0))))))) := by
  have hle : c0 + 256 * (c1 + 256 * (c2 + 256 * (c3 + 256 * (c4 + 256 * (c5 + 256 * (c6 + 256 * (c7 + 256 * 0))))))) ≤ 578721382704613384 :=
    Nat.le_trans (les q0 (les q1 (les q2 (les q3 (les q4 (les q5 (les q6 (les q7 (Nat.le_refl 0))))))))) (by decide)
  apply And.intro hle
  clear hle
  rw [dv _ _ (by omega)]
  have d1 : c0 + 256 * (c1 + 256 * (c2 + 256 * (c3 + 256 * (c4 + 256 * (c5 + 256 * (c6 + 256 * (c7 + 256 * 0))))))) + (c1 + 256 * (c2 + 256 * (c3 + 256 * (c4 + 256 * (c5 + 256 * (c6 + 256 * (c7 + 256 * 0))))))) =
      (c0 + c1) + 256 * ((c1 + c2) + 256 * ((c2 + c3) + 256 * ((c3 + c4) + 256 * ((c4 + c5) + 256 * ((c5 + c6) + 256 * ((c6 + c7) + 256 * c7)))))) := by omega
  rw [d1, dv2 _ _ _ (by omega) (by omega)]
  have d2 : (c0 + c1) + 256 * ((c1 + c2) + 256 * ((c2 + c3) + 256 * ((c3 + c4) + 256 * ((c4 + c5) + 256 * ((c5 + c6) + 256 * ((c6 + c7) + 256 * c7)))))) + ((c2 + c3) + 256 * ((c3 + c4) + 256 * ((c4 + c5) + 256 * ((c5 + c6) + 256 * ((c6 + c7) + 256 * c7))))) =
      (c0 + c1 + c2 + c3) + 256 * ((c1 + c2 + c3 + c4) + 256 * ((c2 + c3 + c4 + c5) + 256 * ((c3 + c4 + c5 + c6) + 256 * ((c4 + c5 + c6 + c7) + 256 * ((c5 + c6 + c7) + 256 * ((c6 + c7) + 256 * c7)))))) := by omega
  rw [d2, dv4 _ _ _ _ _ (by omega) (by omega) (by omega) (by omega)]
  generalize ((c1 + c2 + c3 + c4) + 256 * ((c2 + c3 + c4 + c5) + 256 * ((c3 + c4 + c5 + c6) + 256 * ((c4 + c5 + c6 + c7) + 256 * ((c5 + c6 + c7) + 256 * ((c6 + c7) + 256 * c7)))))) = Z
  generalize ((c5 + c6 + c7) + 256 * ((c6 + c7) + 256 * c7)) = Y
  omega
set_option maxHeartbeats 1000000 in
/-- What the mask method computes on the way. -/
theorem pop64 (x : Nat) (hx : x < 18446744073709551616) : ∃ a1 a2 b1 b2 c : Nat, x / 2 &&& 6148914691236517205 = a1 ∧ x &&& 6148914691236517205 = a2 ∧ a1 + a2 < 18446744073709551616 ∧
    (a1 + a2) / 4 &&& 3689348814741910323 = b1 ∧ (a1 + a2) &&& 3689348814741910323 = b2 ∧ b1 + b2 < 9223372036854775808 ∧
    ((b1 + b2) / 16 + (b1 + b2)) &&& 1085102592571150095 = c ∧ c ≤ 578721382704613384 ∧
    (c + c / 256 + (c + c / 256) / 65536 + (c + c / 256 + (c + c / 256) / 65536) / 4294967296) % 128 = popN 64 x := by
  have h8 : (256 : Nat) ^ 8 = 18446744073709551616 := by decide
  have e1 := step1 8 x (by omega)
  rw [rep85] at e1
  have e2 := step2 s1b b1 8 x
  rw [rep51] at e2
  have e3 := step3 (fun a => s2b (s1b a)) b2 8 x
  rw [rep15, mapB_congr (g := popB) (fun a h => b3 a h)] at e3
  have l1 := mapB_lt s1b b1 8 x
  have l2 : mapB (fun a => s2b (s1b a)) 8 x < 9223372036854775808 := by
    have hg : ∀ n y, mapB (fun a => s2b (s1b a)) (n + 1) y < 128 * 256 ^ n := by
      intro n
      induction n with
      | zero => intro y; have := (b2 _ (mod256 y)).1; show s2b (s1b (y % 256)) + 256 * 0 < _; omega
      | succ n ih =>
        intro y
        have h1 := ih (y / 256)
        have h2 := (b2 _ (mod256 y)).1
        show s2b (s1b (y % 256)) + 256 * mapB (fun a => s2b (s1b a)) (n + 1) (y / 256) < _
        rw [Nat.pow_succ]; omega
    have := hg 7 x
    have h7 : 128 * (256 : Nat) ^ 7 = 9223372036854775808 := by decide
    omega
  refine ⟨_, _, _, _, _, rfl, rfl, by rw [e1]; omega, rfl, rfl, by rw [e1, e2]; exact l2, rfl, ?_⟩
  rw [e1, e2, e3]
  have hs : popN 64 x = sumB popB 8 x := popN_bytes 8 x
  rw [hs]
  simp only [mapB, sumB]
  have q0 := b4 _ (mod256 x)
  have q1 := b4 _ (mod256 (x / 256))
  have q2 := b4 _ (mod256 (x / 256 / 256))
  have q3 := b4 _ (mod256 (x / 256 / 256 / 256))
  have q4 := b4 _ (mod256 (x / 256 / 256 / 256 / 256))
  have q5 := b4 _ (mod256 (x / 256 / 256 / 256 / 256 / 256))
  have q6 := b4 _ (mod256 (x / 256 / 256 / 256 / 256 / 256 / 256))
  have q7 := b4 _ (mod256 (x / 256 / 256 / 256 / 256 / 256 / 256 / 256))
  generalize popB _ = c0 at *
  generalize popB _ = c1 at *
  generalize popB _ = c2 at *
  generalize popB _ = c3 at *
  generalize popB _ = c4 at *
  generalize popB _ = c5 at *
  generalize popB _ = c6 at *
  generalize popB _ = c7 at *
  exact fin64 _ _ _ _ _ _ _ _ q0 q1 q2 q3 q4 q5 q6 q7
theorem pop32 (x : Nat) (hx : x < 4294967296) : popN 32 x = popB (x / 16777216) + popB (x / 65536 % 256) + popB (x / 256 % 256) + popB (x % 256) := by
  have h := popN_bytes 4 x
  rw [show 8 * 4 = 32 from rfl] at h
  rw [h]
  simp only [sumB]
  rw [show x / 256 / 256 = x / 65536 by omega, show x / 65536 / 256 % 256 = x / 16777216 by omega]
  omega
/-- A set by a predicate has as many bits as the predicate is met. -/
theorem popN_bitsOf (p : Nat → Bool) (n : Nat) : popN n (bitsOf p n) = cntOf p n := by
  unfold popN
  apply cntOf_congr
  intro i hi
  rw [testBit_bitsOf]
  simp [hi]
end Cot
/-
  Contracts: math/bits.OnesCount64, OnesCount32.
-/
namespace Go.Proofs.YtodgcmakdndbfaaDoor
open Go.RowKit Cot
theorem i64_and_nat (a b : Nat) (ha : a < 9223372036854775808) (hb : b < 9223372036854775808) : bits .and .i64 (a : Int) (b : Int) = ((a &&& b : Nat) : Int) := by
  have hx : a &&& b < 2 ^ 63 := Nat.and_lt_two_pow _ (by omega)
  show IntKind.i64.wrap ((BitVec.ofInt 64 (a : Int) &&& BitVec.ofInt 64 (b : Int)).toNat : Int) = _
  rw [BitVec.toNat_and, ofInt_u64 a (by omega), ofInt_u64 b (by omega)]
  exact IntWalk.i64_in _ (by omega)
theorem and127 (c : Nat) (h : c < 9223372036854775808) : bits .and .i64 (c : Int) 127 = ((c % 128 : Nat) : Int) := by
  have h2 := i64_and_nat c 127 h (by omega)
  rw [show c &&& 127 = c % 128 from Nat.and_two_pow_sub_one_eq_mod c 7] at h2
  exact h2
theorem bits_OnesCount64 (x : Nat) (hx : x < 18446744073709551616) (w : World) : Calls Tryd.prog 88 #[.int .u64 x] w fun e w' => e = .returned (.int .i64 (popN 64 x)) ∧ w = w' := by
  obtain ⟨a1, a2, b1, b2, c, h1, h2, hb1, h3, h4, hb2, h5, hc, hf⟩ := pop64 x hx
  have g1 : bits .and .u64 ((x : Int) / 2) 6148914691236517205 = (a1 : Int) := by rw [← h1]; exact u64_and_nat (x / 2) 6148914691236517205 (by omega) (by omega)
  have g2 : bits .and .u64 (x : Int) 6148914691236517205 = (a2 : Int) := by rw [← h2]; exact u64_and_nat x 6148914691236517205 (by omega) (by omega)
  have g3 : bits .and .u64 (((a1 : Int) + (a2 : Int)) / 4) 3689348814741910323 = (b1 : Int) := by rw [← h3]; exact u64_and_nat ((a1 + a2) / 4) 3689348814741910323 (by omega) (by omega)
  have g4 : bits .and .u64 ((a1 : Int) + (a2 : Int)) 3689348814741910323 = (b2 : Int) := by rw [← h4]; exact u64_and_nat (a1 + a2) 3689348814741910323 (by omega) (by omega)
  have g5 : bits .and .u64 (((b1 : Int) + (b2 : Int)) / 16 + ((b1 : Int) + (b2 : Int))) 1085102592571150095 = (c : Int) := by rw [← h5]; exact u64_and_nat ((b1 + b2) / 16 + (b1 + b2)) 1085102592571150095 (by omega) (by omega)
  have hb1' : (a1 : Int) + (a2 : Int) < 18446744073709551616 := by omega
  have hb2' : (b1 : Int) + (b2 : Int) < 9223372036854775808 := by omega
  have hc' : (c : Int) ≤ 578721382704613384 := by omega
  have g6 : bits .and .i64 ((c : Int) + (c : Int) / 256 + ((c : Int) + (c : Int) / 256) / 65536 + ((c : Int) + (c : Int) / 256 + ((c : Int) + (c : Int) / 256) / 65536) / 4294967296) 127 = (popN 64 x : Int) := by
    rw [← hf]
    exact and127 (c + c / 256 + (c + c / 256) / 65536 + (c + c / 256 + (c + c / 256) / 65536) / 4294967296) (by omega)
  clear h1 h2 hb1 h3 h4 hb2 h5 hc hf
  go_enter Tryd.func88, Tryd.ntmps88
  go_wp2
  go_ret
  exact ⟨rfl, rfl⟩
/-- The table of math/bits, as the program has it. -/
theorem pop_lit : ({ data := (([0, 1, 1, 2, 1, 2, 2, 3, 1, 2, 2, 3, 2, 3, 3, 4, 1, 2, 2, 3, 2, 3, 3, 4, 2, 3, 3, 4, 3, 4, 4, 5, 1, 2, 2, 3, 2, 3, 3, 4, 2, 3, 3, 4, 3, 4, 4, 5, 2, 3, 3, 4, 3, 4, 4, 5, 3, 4, 4, 5, 4, 5, 5, 6].append [1, 2, 2, 3, 2, 3, 3, 4, 2, 3, 3, 4, 3, 4, 4, 5, 2, 3, 3, 4, 3, 4, 4, 5, 3, 4, 4, 5, 4, 5, 5, 6, 2, 3, 3, 4, 3, 4, 4, 5, 3, 4, 4, 5, 4, 5, 5, 6, 3, 4, 4, 5, 4, 5, 5, 6, 4, 5, 5, 6, 5, 6, 6, 7]).append ([1, 2, 2, 3, 2, 3, 3, 4, 2, 3, 3, 4, 3, 4, 4, 5, 2, 3, 3, 4, 3, 4, 4, 5, 3, 4, 4, 5, 4, 5, 5, 6, 2, 3, 3, 4, 3, 4, 4, 5, 3, 4, 4, 5, 4, 5, 5, 6, 3, 4, 4, 5, 4, 5, 5, 6, 4, 5, 5, 6, 5, 6, 6, 7].append [2, 3, 3, 4, 3, 4, 4, 5, 3, 4, 4, 5, 4, 5, 5, 6, 3, 4, 4, 5, 4, 5, 5, 6, 4, 5, 5, 6, 5, 6, 6, 7, 3, 4, 4, 5, 4, 5, 5, 6, 4, 5, 5, 6, 5, 6, 6, 7, 4, 5, 5, 6, 5, 6, 6, 7, 5, 6, 6, 7, 6, 7, 7, 8])).toArray } : ByteArray) = Lib.pop8tab := by kernel_rfl
theorem pop_ones : ∀ n, n < 256 → Lib.onesCount n = popB n := by decide +kernel
theorem bits_OnesCount32 (x : Nat) (hx : x < 4294967296) (w : World) : Calls Tryd.prog 47 #[.int .u32 x] w fun e w' => e = .returned (.int .i64 (popN 32 x)) ∧ Below w.heap.size w w' := by
  have h1 : bits .and .u32 ((x : Int) / 65536) 255 = ((x / 65536 % 256 : Nat) : Int) := by
    have h := u32_and_nat (x / 65536) 255 (by omega) (by omega)
    rw [show x / 65536 &&& 255 = x / 65536 % 256 from Nat.and_two_pow_sub_one_eq_mod (x / 65536) 8] at h
    exact h
  have h2 : bits .and .u32 ((x : Int) / 256) 255 = ((x / 256 % 256 : Nat) : Int) := by
    have h := u32_and_nat (x / 256) 255 (by omega) (by omega)
    rw [show x / 256 &&& 255 = x / 256 % 256 from Nat.and_two_pow_sub_one_eq_mod (x / 256) 8] at h
    exact h
  have h3 : bits .and .u32 ((x : Int)) 255 = ((x % 256 : Nat) : Int) := by
    have h := u32_and_nat x 255 (by omega) (by omega)
    rw [show x &&& 255 = x % 256 from Nat.and_two_pow_sub_one_eq_mod x 8] at h
    exact h
  have hI : ∀ (i : Int) (n : Nat), i = n → n < 256 → ∀ w : World, (Instr.index 9 (.string Lib.pop8tab) (.int .u32 i)).run Tryd.prog w = .ok (.int .u8 (popB n : Int)) w := by
    intro i n hi hn w
    subst hi
    rw [Lib.run_index_pop8tab w 9 .u32 n Tryd.underlying9 (by omega) (by omega), Lib.pop8_eq ⟨n, hn⟩, pop_ones n hn]
  have hI1 := hI ((x : Int) / 16777216) (x / 16777216) (by omega) (by omega)
  have hI2 := hI ((x / 65536 % 256 : Nat) : Int) (x / 65536 % 256) rfl (mod256 _)
  have hI3 := hI ((x / 256 % 256 : Nat) : Int) (x / 256 % 256) rfl (mod256 _)
  have hI4 := hI ((x % 256 : Nat) : Int) (x % 256) rfl (mod256 _)
  have q1 := b4 (x / 16777216) (by omega)
  have q2 := b4 _ (mod256 (x / 65536))
  have q3 := b4 _ (mod256 (x / 256))
  have q4 := b4 _ (mod256 x)
  have hp := pop32 x hx
  clear hI
  generalize x / 65536 % 256 = y2 at *
  generalize x / 256 % 256 = y3 at *
  generalize x % 256 = y4 at *
  generalize popB (x / 16777216) = p1 at *
  generalize popB y2 = p2 at *
  generalize popB y3 = p3 at *
  generalize popB y4 = p4 at *
  have w1 : IntKind.u8.wrap ((p1 : Int) + p2) = (p1 : Int) + p2 := IntWalk.u8_in _ (by omega)
  have w2 : IntKind.u8.wrap ((p1 : Int) + p2 + p3) = (p1 : Int) + p2 + p3 := IntWalk.u8_in _ (by omega)
  have w3 : IntKind.u8.wrap ((p1 : Int) + p2 + p3 + p4) = (p1 : Int) + p2 + p3 + p4 := IntWalk.u8_in _ (by omega)
  have w4 : IntKind.i64.wrap ((p1 : Int) + p2 + p3 + p4) = (p1 : Int) + p2 + p3 + p4 := IntWalk.i64_in _ (by omega)
  have HP := Lib.hid hp
  clear hp
  go_enter Tryd.func47, Tryd.ntmps47
  go_wp2
  simp only [pop_lit]
  go_quiet (fail)
  go_wp2
  go_ret
  exact ⟨by rw [HP.out]; simp, bDrewN (Below.refl _ _) _⟩
end Go.Proofs.YtodgcmakdndbfaaDoor
/-
  '==' of the program's structs and arrays, as equations on runs.
-/
namespace Go.Proofs.YtodgcmakdndbfaaDoor
open Go.RowKit Cot

def eqBig (t : TypeId) (x y : Value) : Sem Value := binOp .eql t x y
def neBig (t : TypeId) (x y : Value) : Sem Value := binOp .neq t x y
@[go_sem ↓] theorem eq_at_key (x y : Value) : binOp .eql 23 x y = eqBig 23 x y := rfl
@[go_sem ↓] theorem eq_at_entry (x y : Value) : binOp .eql 27 x y = eqBig 27 x y := rfl
@[go_sem ↓] theorem eq_at_seat (x y : Value) : binOp .eql 45 x y = eqBig 45 x y := rfl
@[go_sem ↓] theorem eq_at_item (x y : Value) : binOp .eql 70 x y = eqBig 70 x y := rfl
@[go_sem ↓] theorem eq_at_tree (x y : Value) : binOp .eql 31 x y = eqBig 31 x y := rfl
@[go_sem ↓] theorem ne_at_key (x y : Value) : binOp .neq 23 x y = neBig 23 x y := rfl
@[go_sem ↓] theorem ne_at_entry (x y : Value) : binOp .neq 27 x y = neBig 27 x y := rfl
@[go_sem ↓] theorem ne_at_seat (x y : Value) : binOp .neq 45 x y = neBig 45 x y := rfl
@[go_sem ↓] theorem ne_at_item (x y : Value) : binOp .neq 70 x y = neBig 70 x y := rfl
@[go_sem ↓] theorem ne_at_tree (x y : Value) : binOp .neq 31 x y = neBig 31 x y := rfl

theorem run_eqBig {t : TypeId} {xs ys : Array Value} {r : Bool} (w : World) (h : (Op.equal t (.agg xs) (.agg ys)).run Tryd.prog w = .ok r w) : (eqBig t (.agg xs) (.agg ys)).run Tryd.prog w = .ok (.bool r) w := by
  show (binOp .eql t (.agg xs) (.agg ys)).run Tryd.prog w = _
  unfold binOp
  simp only [Sem.run_bind, h, Result.andThen_ok, Sem.run_pure]
theorem run_neBig {t : TypeId} {xs ys : Array Value} {r : Bool} (w : World) (h : (Op.equal t (.agg xs) (.agg ys)).run Tryd.prog w = .ok r w) : (neBig t (.agg xs) (.agg ys)).run Tryd.prog w = .ok (.bool (!r)) w := by
  show (binOp .neq t (.agg xs) (.agg ys)).run Tryd.prog w = _
  unfold binOp
  simp only [Sem.run_bind, h, Result.andThen_ok, Sem.run_pure]
theorem eqI_int (d : Nat) (a b : Int) (w : World) : (Op.equalIn (d + 1) 3 (I a) (I b)).run Tryd.prog w = .ok (a == b) w := by
  simp [Op.equalIn, Sem.run_bind, run_underlying Tryd.underlying3]
theorem part_int (xs : Array Value) (off : Nat) (v : Value) (h : xs[off]? = some v) (w : World) : (part 3 xs off).run Tryd.prog w = .ok v w := run_part_plain w (by kernel_rfl) h
def fld (f : Field) : TypeId × Nat × Bool := (f.type, f.offset, f.name == "_")
/-- One field behind the others. -/
theorem eqF_cons {d : Nat} {xs ys : Array Value} {fs : List Field} {t : TypeId} {o : Nat} {rest : List (TypeId × Nat × Bool)} {a b : Value} {r s : Bool} {w : World} (h : fs.map fld = (t, o, false) :: rest) (ha : (part t xs o).run Tryd.prog w = .ok a w) (hb : (part t ys o).run Tryd.prog w = .ok b w)
    (hr : (Op.equalIn d t a b).run Tryd.prog w = .ok r w) (hs : ∀ gs : List Field, gs.map fld = rest → (Op.eqFields d xs ys gs).run Tryd.prog w = .ok s w) : (Op.eqFields d xs ys fs).run Tryd.prog w = .ok (r && s) w := by
  match fs, h with
  | f :: fs, h =>
    simp only [List.map_cons, List.cons.injEq, fld, Prod.mk.injEq] at h
    obtain ⟨⟨rfl, rfl, hn⟩, h2⟩ := h
    have hn' : f.name ≠ "_" := by simpa using hn
    simp only [Op.eqFields, hn', ne_eq, not_false_eq_true, if_true, Sem.run_bind, ha, hb, hr, Result.andThen_ok]
    cases r
    · simp
    · simpa using hs fs h2
theorem eqF_nil {d : Nat} {xs ys : Array Value} {w : World} (fs : List Field) (h : fs.map fld = []) : (Op.eqFields d xs ys fs).run Tryd.prog w = .ok true w := by
  match fs, h with
  | [], _ => simp [Op.eqFields]
theorem eqInt {d : Nat} {a b : Int} {w : World} : (Op.equalIn (d + 1) 3 (I a) (I b)).run Tryd.prog w = .ok (a == b) w := eqI_int _ _ _ _
theorem partInt {xs : Array Value} {off : Nat} {v : Value} (h : xs[off]? = some v) {w : World} : (part 3 xs off).run Tryd.prog w = .ok v w := part_int _ _ _ h w
theorem eqI_key (d : Nat) (a0 a1 b0 b1 : Int) (w : World) : (Op.equalIn (d + 2) 23 (.agg #[I a0, I a1]) (.agg #[I b0, I b1])).run Tryd.prog w = .ok (a0 == b0 && (a1 == b1 && true)) w := by
  rw [run_equalIn_struct w (d + 1) 23 _ _ (by kernel_rfl) (by kernel_rfl)]
  have hf : (Tryd.prog.fieldsOf 23).toList.map fld = [(3, 0, false), (3, 1, false)] := by kernel_rfl
  refine eqF_cons hf (partInt rfl) (partInt rfl) eqInt ?_
  intro gs hf
  refine eqF_cons hf (partInt rfl) (partInt rfl) eqInt ?_
  exact eqF_nil
@[go_sem] theorem eq_key (a0 a1 b0 b1 : Int) (w : World) : (eqBig 23 (.agg #[I a0, I a1]) (.agg #[I b0, I b1])).run Tryd.prog w = .ok (.bool ((a0 == b0 && a1 == b1))) w := by
  have h := run_eqBig w (show (Op.equal 23 (.agg #[I a0, I a1]) (.agg #[I b0, I b1])).run Tryd.prog w = _ from eqI_key 9998 _ _ _ _ w)
  simpa only [Bool.and_true] using h
@[go_sem] theorem ne_key (a0 a1 b0 b1 : Int) (w : World) : (neBig 23 (.agg #[I a0, I a1]) (.agg #[I b0, I b1])).run Tryd.prog w = .ok (.bool (!(a0 == b0 && a1 == b1))) w := by
  have h := run_neBig w (show (Op.equal 23 (.agg #[I a0, I a1]) (.agg #[I b0, I b1])).run Tryd.prog w = _ from eqI_key 9998 _ _ _ _ w)
  simpa only [Bool.and_true] using h
theorem eqI_entry (d : Nat) (a0 a1 a2 b0 b1 b2 : Int) (w : World) : (Op.equalIn (d + 2) 27 (.agg #[I a0, I a1, I a2]) (.agg #[I b0, I b1, I b2])).run Tryd.prog w = .ok (a0 == b0 && (a1 == b1 && (a2 == b2 && true))) w := by
  rw [run_equalIn_struct w (d + 1) 27 _ _ (by kernel_rfl) (by kernel_rfl)]
  have hf : (Tryd.prog.fieldsOf 27).toList.map fld = [(3, 0, false), (3, 1, false), (3, 2, false)] := by kernel_rfl
  refine eqF_cons hf (partInt rfl) (partInt rfl) eqInt ?_
  intro gs hf
  refine eqF_cons hf (partInt rfl) (partInt rfl) eqInt ?_
  intro gs hf
  refine eqF_cons hf (partInt rfl) (partInt rfl) eqInt ?_
  exact eqF_nil
@[go_sem] theorem eq_entry (a0 a1 a2 b0 b1 b2 : Int) (w : World) : (eqBig 27 (.agg #[I a0, I a1, I a2]) (.agg #[I b0, I b1, I b2])).run Tryd.prog w = .ok (.bool ((a0 == b0 && (a1 == b1 && a2 == b2)))) w := by
  have h := run_eqBig w (show (Op.equal 27 (.agg #[I a0, I a1, I a2]) (.agg #[I b0, I b1, I b2])).run Tryd.prog w = _ from eqI_entry 9998 _ _ _ _ _ _ w)
  simpa only [Bool.and_true] using h
@[go_sem] theorem ne_entry (a0 a1 a2 b0 b1 b2 : Int) (w : World) : (neBig 27 (.agg #[I a0, I a1, I a2]) (.agg #[I b0, I b1, I b2])).run Tryd.prog w = .ok (.bool (!(a0 == b0 && (a1 == b1 && a2 == b2)))) w := by
  have h := run_neBig w (show (Op.equal 27 (.agg #[I a0, I a1, I a2]) (.agg #[I b0, I b1, I b2])).run Tryd.prog w = _ from eqI_entry 9998 _ _ _ _ _ _ w)
  simpa only [Bool.and_true] using h
theorem eqI_seat (d : Nat) (a0 a1 b0 b1 : Int) (w : World) : (Op.equalIn (d + 2) 45 (.agg #[I a0, I a1]) (.agg #[I b0, I b1])).run Tryd.prog w = .ok (a0 == b0 && (a1 == b1 && true)) w := by
  rw [run_equalIn_struct w (d + 1) 45 _ _ (by kernel_rfl) (by kernel_rfl)]
  have hf : (Tryd.prog.fieldsOf 45).toList.map fld = [(3, 0, false), (3, 1, false)] := by kernel_rfl
  refine eqF_cons hf (partInt rfl) (partInt rfl) eqInt ?_
  intro gs hf
  refine eqF_cons hf (partInt rfl) (partInt rfl) eqInt ?_
  exact eqF_nil
@[go_sem] theorem eq_seat (a0 a1 b0 b1 : Int) (w : World) : (eqBig 45 (.agg #[I a0, I a1]) (.agg #[I b0, I b1])).run Tryd.prog w = .ok (.bool ((a0 == b0 && a1 == b1))) w := by
  have h := run_eqBig w (show (Op.equal 45 (.agg #[I a0, I a1]) (.agg #[I b0, I b1])).run Tryd.prog w = _ from eqI_seat 9998 _ _ _ _ w)
  simpa only [Bool.and_true] using h
@[go_sem] theorem ne_seat (a0 a1 b0 b1 : Int) (w : World) : (neBig 45 (.agg #[I a0, I a1]) (.agg #[I b0, I b1])).run Tryd.prog w = .ok (.bool (!(a0 == b0 && a1 == b1))) w := by
  have h := run_neBig w (show (Op.equal 45 (.agg #[I a0, I a1]) (.agg #[I b0, I b1])).run Tryd.prog w = _ from eqI_seat 9998 _ _ _ _ w)
  simpa only [Bool.and_true] using h
end Go.Proofs.YtodgcmakdndbfaaDoor
