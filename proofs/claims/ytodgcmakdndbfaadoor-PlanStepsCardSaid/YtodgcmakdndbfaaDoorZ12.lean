/-
  Parts of a proof: Seats, Leave, Move1. Merged by program.
-/
import Derived.Test.YtodgcmakdndbfaaDoorZ11
import Derived.Deep.RegionHeld3
/-
  Slices of seats, of items and of numbers that a call has made: rows of its own.
-/
namespace Go.Proofs.YtodgcmakdndbfaaDoor
open Go.RowKit Cot
set_option linter.unusedSimpArgs false
set_option linter.unusedVariables false
def seatC (l : List Seat) : List Value := l.flatMap fun s => [I s.who, I s.slot]
def itemC (l : List Itm) : List Value := l.flatMap Itm.cells
theorem seatC_len (l : List Seat) : (seatC l).length = l.length * 2 := by
  unfold seatC; induction l with
  | nil => rfl
  | cons a l ih => simp only [List.flatMap_cons, List.length_append, ih, List.length_cons, List.length_nil]; omega
theorem itemC_len (l : List Itm) : (itemC l).length = l.length * 6 := by
  unfold itemC; induction l with
  | nil => rfl
  | cons a l ih => simp only [List.flatMap_cons, List.length_append, ih, Itm.cells, List.length_cons, List.length_nil]; omega
theorem seatC_snoc (l : List Seat) (s : Seat) : seatC (l ++ [s]) = seatC l ++ [I s.who, I s.slot] := by unfold seatC; simp
theorem itemC_snoc (l : List Itm) (s : Itm) : itemC (l ++ [s]) = itemC l ++ s.cells := by unfold itemC; simp
theorem seatC_get (l : List Seat) : ∀ (k : Nat) (s : Seat), l[k]? = some s → (seatC l)[k * 2]? = some (I s.who) ∧ (seatC l)[k * 2 + 1]? = some (I s.slot) := by
  induction l with
  | nil => intro k s h; simp at h
  | cons a l ih =>
    intro k s h
    match k with
    | 0 => simp at h; subst h; exact ⟨rfl, rfl⟩
    | k + 1 =>
      have := ih k s (by simpa using h)
      have e : seatC (a :: l) = [I a.who, I a.slot] ++ seatC l := rfl
      rw [e, List.getElem?_append_right (by simp; omega), List.getElem?_append_right (by simp; omega)]
      simp only [List.length_cons, List.length_nil, show (k + 1) * 2 - (0 + 1 + 1) = k * 2 by omega, show (k + 1) * 2 + 1 - (0 + 1 + 1) = k * 2 + 1 by omega]
      exact this
theorem itemC_get (l : List Itm) : ∀ (k : Nat) (s : Itm), l[k]? = some s → ∀ j, j < 6 → (itemC l)[k * 6 + j]? = s.cells[j]? := by
  induction l with
  | nil => intro k s h; simp at h
  | cons a l ih =>
    intro k s h j hj
    match k with
    | 0 =>
      simp at h; subst h
      have e : itemC (a :: l) = a.cells ++ itemC l := rfl
      rw [e, List.getElem?_append_left (by simp [Itm.cells]; omega)]; simp
    | k + 1 =>
      have := ih k s (by simpa using h) j hj
      have e : itemC (a :: l) = a.cells ++ itemC l := rfl
      rw [e, List.getElem?_append_right (by simp [Itm.cells]; omega)]
      simp only [Itm.cells, List.length_cons, List.length_nil, show (k + 1) * 6 + j - (0 + 1 + 1 + 1 + 1 + 1 + 1) = k * 6 + j by omega]
      exact this
def OwnSeats (w : World) (base : Nat) (v : Value) (l : List Seat) : Prop := w.ownsRow base 45 2 v l.length (seatC l)
def OwnItems (w : World) (base : Nat) (v : Value) (l : List Itm) : Prop := w.ownsRow base 70 6 v l.length (itemC l)
theorem info_seat : (Tryd.prog.info? 45).map (fun i => (i.zero, i.size, i.bytes)) = some (some (.agg #[.int .i64 0, .int .i64 0]), 2, 16) := by kernel_rfl
theorem info_item : (Tryd.prog.info? 70).map (fun i => (i.zero, i.size, i.bytes)) = some (some (.agg #[.int .i64 0, .int .i64 0, .int .i64 0, .int .i64 0, .int .i64 0, .int .i64 0]), 6, 48) := by kernel_rfl
/-- A cell of an owned row. -/
theorem ownCell {w : World} {base : Nat} {e : TypeId} {size : Nat} {v : Value} {n : Nat} {xs : List Value} (h : w.ownsRow base e size v n xs) {j : Nat} {u : Value} (hj : xs[j]? = some u) :
    ∃ g cap, v = .slice (some ⟨g, 0, none⟩) n cap ∧ base ≤ g ∧ g < w.heap.size ∧ w.cell? ⟨g, j, none⟩ = some u ∧ w.frozen? ⟨g, j, none⟩ = false := by
  obtain ⟨hl, h⟩ := h
  rcases h with ⟨rfl, rfl⟩ | ⟨g, cap, cur, rfl, hg, hb, hc, hm, hs, ht⟩
  · simp at hl; subst hl; simp at hj
  · refine ⟨g, cap, rfl, hg, (Array.getElem?_eq_some_iff.1 hb).1, ?_, by simp [World.frozen?, hb]⟩
    have : cur.toList[j]? = some u := by
      rw [← ht] at hj
      rw [List.getElem?_take] at hj
      split at hj
      · exact hj
      · cases hj
    simpa [World.cell?, hb] using this
theorem OwnSeats.form {w : World} {base : Nat} {v : Value} {l : List Seat} (h : OwnSeats w base v l) : ∃ ao cap, v = .slice ao l.length cap ∧ SeatsAt w ao l := by
  obtain ⟨ao, cap, rfl⟩ := ownV h
  refine ⟨ao, cap, rfl, fun k s hk => ?_⟩
  obtain ⟨h0, h1⟩ := seatC_get l k s hk
  obtain ⟨g, c, e, hg, hlt, hc, _⟩ := ownCell h h0
  obtain ⟨g', c', e', _, _, hc', _⟩ := ownCell h h1
  cases e; cases e'
  exact ⟨g, 0, rfl, hlt, by simpa using hc, by simpa using hc'⟩
theorem OwnItems.form {w : World} {base : Nat} {v : Value} {l : List Itm} (h : OwnItems w base v l) : ∃ ao cap, v = .slice ao l.length cap ∧ ItemsAt w ao l := by
  obtain ⟨ao, cap, rfl⟩ := ownV h
  refine ⟨ao, cap, rfl, fun k s hk => ?_⟩
  have hg := itemC_get l k s hk
  have g0 := hg 0 (by omega); have g1 := hg 1 (by omega); have g2 := hg 2 (by omega); have g3 := hg 3 (by omega); have g4 := hg 4 (by omega); have g5 := hg 5 (by omega)
  obtain ⟨g, c, e, hb, hlt, c0, _⟩ := ownCell h (g0.trans rfl)
  obtain ⟨_, _, e1, _, _, c1, _⟩ := ownCell h (g1.trans rfl)
  obtain ⟨_, _, e2, _, _, c2, _⟩ := ownCell h (g2.trans rfl)
  obtain ⟨_, _, e3, _, _, c3, _⟩ := ownCell h (g3.trans rfl)
  obtain ⟨_, _, e4, _, _, c4, _⟩ := ownCell h (g4.trans rfl)
  obtain ⟨_, _, e5, _, _, c5, _⟩ := ownCell h (g5.trans rfl)
  cases e; cases e1; cases e2; cases e3; cases e4; cases e5
  exact ⟨g, 0, rfl, hlt, by simpa using c0, by simpa using c1, by simpa using c2, by simpa using c3, by simpa using c4, by simpa using c5⟩
theorem ownLt {w : World} {base : Nat} {e : TypeId} {size : Nat} {v : Value} {n : Nat} {xs : List Value} (h : w.ownsRow base e size v n xs) : ∀ k, v.ownBlock = some k → base ≤ k ∧ k < w.heap.size := by
  intro k e'
  rcases h.2 with ⟨rfl, _⟩ | ⟨g, cap, cur, rfl, hg, hb, _⟩
  · simp [Value.ownBlock] at e'
  · obtain rfl : g = k := by simpa [Value.ownBlock] using e'
    exact ⟨hg, (Array.getElem?_eq_some_iff.1 hb).1⟩
/-- What is owned stays behind whatever leaves the blocks below B alone. -/
theorem ownBelow {w w' : World} {base B : Nat} {e : TypeId} {size : Nat} {v : Value} {n : Nat} {xs : List Value} (h : w.ownsRow base e size v n xs) (hb : Below B w w') (hB : w.heap.size ≤ B) : w'.ownsRow base e size v n xs := by
  refine ⟨h.1, ?_⟩
  rcases h.2 with ⟨rfl, h0⟩ | ⟨g, cap, cur, rfl, hg, hk, hr⟩
  · exact .inl ⟨rfl, h0⟩
  · exact .inr ⟨g, cap, cur, rfl, hg, (hb.block g (Nat.lt_of_lt_of_le (Array.getElem?_eq_some_iff.1 hk).1 hB)).trans hk, hr⟩
theorem ownSet {w : World} {base : Nat} {e : TypeId} {size : Nat} {v : Value} {n : Nat} {xs : List Value} (h : w.ownsRow base e size v n xs) {a : Addr} (ha : a.block < base) (x : Value) : (w.setCell a x).ownsRow base e size v n xs := by
  refine ⟨h.1, ?_⟩
  rcases h.2 with ⟨rfl, h0⟩ | ⟨g, cap, cur, rfl, hg, hk, hr⟩
  · exact .inl ⟨rfl, h0⟩
  · exact .inr ⟨g, cap, cur, rfl, hg, (Below.heap_setCell w a x g (by omega)).trans hk, hr⟩
theorem ownRow {w : World} {base : Nat} {e : TypeId} {size : Nat} {v : Value} {n : Nat} {xs : List Value} (h : w.ownsRow base e size v n xs) {b : Nat} (hb : b < base) (cs : Array Value) : (w.setRow b cs).ownsRow base e size v n xs := by
  refine ⟨h.1, ?_⟩
  rcases h.2 with ⟨rfl, h0⟩ | ⟨g, cap, cur, rfl, hg, hk, hr⟩
  · exact .inl ⟨rfl, h0⟩
  · exact .inr ⟨g, cap, cur, rfl, hg, (show (w.setRow b cs).heap[g]? = w.heap[g]? by simp only [World.setRow, Array.getElem?_modify]; rw [if_neg (by omega)]).trans hk, hr⟩
theorem ownBase {w : World} {base base' : Nat} {e : TypeId} {size : Nat} {v : Value} {n : Nat} {xs : List Value} (h : w.ownsRow base e size v n xs) (hb : base' ≤ base) : w.ownsRow base' e size v n xs := by
  refine ⟨h.1, ?_⟩
  rcases h.2 with h0 | ⟨g, cap, cur, rfl, hg, hr⟩
  · exact .inl h0
  · exact .inr ⟨g, cap, cur, rfl, Nat.le_trans hb hg, hr⟩
/-- A block that lies below the rows, behind an append. -/
theorem Blk.grown {w w1 : World} {b : Nat} {c : Array Value} {t : TypeId} (h : Blk w b c t) {o : Obj} {v : Value} (hg : (w.alloc o).grownBy w1 v.ownBlock) (hne : ∀ k, v.ownBlock = some k → k ≠ b) : Blk w1 b c t :=
  (hg.block b (by have := h.lt; simp; omega) (fun e => (hne b e.symm) rfl)).trans (h.alloc o)
/-- The blocks from lo on, below hi, are as they were. -/
structure Mid (lo hi : Nat) (w w' : World) : Prop where
  size : hi ≤ w'.heap.size
  block : ∀ b, lo ≤ b → b < hi → w'.heap[b]? = w.heap[b]?
theorem Mid.refl {lo hi : Nat} {w : World} (h : hi ≤ w.heap.size) : Mid lo hi w w := ⟨h, fun _ _ _ => rfl⟩
theorem Mid.alloc {lo hi : Nat} {w w' : World} (h : Mid lo hi w w') (o : Obj) : Mid lo hi w (w'.alloc o) :=
  ⟨Nat.le_trans h.size (by simp), fun b h1 h2 => (Below.heap_alloc w' o b (Nat.lt_of_lt_of_le h2 h.size)).trans (h.block b h1 h2)⟩
theorem Mid.set {lo hi : Nat} {w w' : World} (h : Mid lo hi w w') {a : Addr} (ha : a.block < lo ∨ hi ≤ a.block) (v : Value) : Mid lo hi w (w'.setCell a v) :=
  ⟨Nat.le_trans h.size (by simp), fun b h1 h2 => (Below.heap_setCell w' a v b (by omega)).trans (h.block b h1 h2)⟩
theorem Mid.below {lo hi : Nat} {w w' w'' : World} (h : Mid lo hi w w') (hb : Below w'.heap.size w' w'') : Mid lo hi w w'' :=
  ⟨Nat.le_trans h.size hb.size, fun b h1 h2 => (hb.block b (Nat.lt_of_lt_of_le h2 h.size)).trans (h.block b h1 h2)⟩
theorem Mid.grown {lo hi : Nat} {w w' w'' : World} {row : Option Nat} (h : Mid lo hi w w') (hg : w'.grownBy w'' row) (hr : ∀ k, row = some k → k < lo ∨ hi ≤ k) : Mid lo hi w w'' :=
  ⟨Nat.le_trans h.size hg.size, fun b h1 h2 => (hg.block b (Nat.lt_of_lt_of_le h2 h.size) (fun e => by have := hr b e.symm; omega)).trans (h.block b h1 h2)⟩
theorem ownMid {w w' : World} {base lo hi : Nat} {e : TypeId} {size : Nat} {v : Value} {n : Nat} {xs : List Value} (h : w.ownsRow base e size v n xs) (hb : Mid lo hi w w') (hlo : lo ≤ base) (hhi : w.heap.size ≤ hi) : w'.ownsRow base e size v n xs := by
  refine ⟨h.1, ?_⟩
  rcases h.2 with ⟨rfl, h0⟩ | ⟨g, cap, cur, rfl, hg, hk, hr⟩
  · exact .inl ⟨rfl, h0⟩
  · exact .inr ⟨g, cap, cur, rfl, hg, (hb.block g (Nat.le_trans hlo hg) (Nat.lt_of_lt_of_le (Array.getElem?_eq_some_iff.1 hk).1 hhi)).trans hk, hr⟩
theorem Blk.mid {w w' : World} {b lo hi : Nat} {c : Array Value} {t : TypeId} (h : Blk w b c t) (hm : Mid lo hi w w') (h1 : lo ≤ b) (h2 : b < hi) : Blk w' b c t := (hm.block b h1 h2).trans h
theorem Blk.not_row {w : World} {b : Nat} {c : Array Value} {t e : TypeId} (h : Blk w b c t) (hte : t ≠ e) {base size n : Nat} {v : Value} {xs : List Value} (hr : w.ownsRow base e size v n xs) : ∀ k, v.ownBlock = some k → k ≠ b := by
  intro k hk hkb
  subst hkb
  rcases hr.2 with ⟨rfl, _⟩ | ⟨g, cap, cur, rfl, _, hgb, _⟩
  · simp [Value.ownBlock] at hk
  · obtain rfl : g = k := by simpa [Value.ownBlock] using hk
    have := (show w.heap[g]? = _ from h).symm.trans hgb
    simp at this
    exact hte this.2
theorem two_cells_at (w : World) (t : TypeId) (x y : Value) : ∀ j u, [x, y][j]? = some u → (w.alloc (.cells #[x, y] t)).cell? ((⟨w.heap.size, 0, none⟩ : Addr).add j) = some u := by
  intro j u hj
  match j, hj with
  | 0, hj => simp at hj; subst hj; simp [Addr.add, World.cell?_alloc_at]
  | 1, hj => simp at hj; subst hj; simp [Addr.add, World.cell?_alloc_at]
theorem two_cells_at' (w : World) (n : Nat) (hn : w.heap.size = n) (t : TypeId) (x y : Value) : ∀ j u, [x, y][j]? = some u → (w.alloc (.cells #[x, y] t)).cell? ((⟨n, 0, none⟩ : Addr).add j) = some u := by
  subst hn; exact two_cells_at w t x y
theorem two_one (a b : Int) : ∀ u ∈ [I a, I b], u.oneCell' = true := by intro u hu; simp at hu; rcases hu with rfl | rfl <;> rfl
theorem six_cells_at (w : World) (t : TypeId) (a b c d e f : Value) : ∀ j u, [a, b, c, d, e, f][j]? = some u → (w.alloc (.cells #[a, b, c, d, e, f] t)).cell? ((⟨w.heap.size, 0, none⟩ : Addr).add j) = some u := by
  intro j u hj
  match j, hj with
  | 0, hj => simp at hj; subst hj; simp [Addr.add, World.cell?_alloc_at]
  | 1, hj => simp at hj; subst hj; simp [Addr.add, World.cell?_alloc_at]
  | 2, hj => simp at hj; subst hj; simp [Addr.add, World.cell?_alloc_at]
  | 3, hj => simp at hj; subst hj; simp [Addr.add, World.cell?_alloc_at]
  | 4, hj => simp at hj; subst hj; simp [Addr.add, World.cell?_alloc_at]
  | 5, hj => simp at hj; subst hj; simp [Addr.add, World.cell?_alloc_at]
theorem six_cells_at' (w : World) (n : Nat) (hn : w.heap.size = n) (t : TypeId) (a b c d e f : Value) : ∀ j u, [a, b, c, d, e, f][j]? = some u → (w.alloc (.cells #[a, b, c, d, e, f] t)).cell? ((⟨n, 0, none⟩ : Addr).add j) = some u := by
  subst hn; exact six_cells_at w t a b c d e f
theorem six_one (a b c d e f : Int) : ∀ u ∈ [I a, I b, I c, I d, I e, I f], u.oneCell' = true := by intro u hu; simp at hu; rcases hu with rfl | rfl | rfl | rfl | rfl | rfl <;> rfl
end Go.Proofs.YtodgcmakdndbfaaDoor
/-
  Contracts: plan.leavers. Printed by wip/gen/gk.py.
-/
namespace Go.Proofs.YtodgcmakdndbfaaDoor
open Go.RowKit Cot
set_option linter.unusedSimpArgs false
set_option linter.unusedVariables false
set_option maxRecDepth 100000 in
set_option maxHeartbeats 800000 in
theorem plan_leavers (r : Nat → Entry) (lv : List Int) (ao : Option Addr) (cap : Nat) (hl : lv.length ≤ 1099511627776) (w : World) (hA : IntsAt w ao lv) : Calls Tryd.prog 46 #[.agg (rosterC r), .slice ao lv.length cap] w fun e w' => ∃ v, e = .returned v ∧ OwnSeats w' w.heap.size v (seatsOf r lv) ∧ Below w.heap.size w w' := by
  obtain ⟨i0, hi, hz0, hz1, hz2⟩ := info_parts info_seat
  go_enter Tryd.func46, Tryd.ntmps46
  go_wp2
  go_loopw [5, 7, 10] (fun u _ i wr => ∃ (n : Nat) (v : Value), n ≤ lv.length ∧ i = .int .i64 n ∧ v = u ∧ OwnSeats wr (w.heap.size + 1) v (seatsOf r (lv.take n)) ∧ Blk wr w.heap.size (rosterC r) 29 ∧ Below w.heap.size w wr) (fun _ _ i _ => lv.length - (intOf i).toNat)
  case atStart => exact ⟨0, _, by omega, rfl, rfl, World.ownsRow_nil _ _ _ _, Blk.new _ _ _, bAlloc (Below.refl _ _) _⟩
  case round =>
    obtain ⟨n, v, hn, rfl, rfl, hown, hB, hbel⟩ := hrel
    have hsz := hB.lt
    have ha0 := hB.at
    by_cases hlt : n < lv.length
    · have hlt' : (n : Int) < (lv.length : Int) := by omega
      obtain ⟨x, hx⟩ := some_of_lt hlt
      obtain ⟨b, off, rfl, hb, hc⟩ := (hA.kept hbel) n x hx
      have HA := Lib.hid hA; have HX := Lib.hid hx; have HB := Lib.hid hB
      have hsl : (seatsOf r (lv.take n)).length = n := by unfold seatsOf; simp; omega
      have hown2 : wr.ownsRow (w.heap.size + 1) 45 2 v n (seatC (seatsOf r (lv.take n))) := by have h := hown; unfold OwnSeats at h; rwa [hsl] at h
      obtain ⟨vo, vc, rfl⟩ := ownV hown2
      have HSL := Lib.hid hsl
      clear hA hx hB hown hsl
      go_wp2_with (first | (go_at_call 71; refine (roster_Find r x _).mono ?_; rintro e w9 ⟨rfl, hb9⟩; have hown9 := ownBelow hown2 hb9 (Nat.le_refl _); have hz9 := hb9.size) | (at_builtin; refine wpList_append_own _ rfl _ _ 36 rfl (w.heap.size + 1) 45 i0 (.agg #[.int .i64 0, .int .i64 0]) 2 16 Tryd.underlying36 hi hz0 hz1 hz2 rfl (by decide) _ _ _ rfl (hown9.alloc _) ⟨w9.heap.size, 0, none⟩ 1 1 [I x, I (findI r x)] rfl rfl (two_cells_at' _ _ (by first | rfl | simp) _ _ _) (two_one _ _) (by unfold maxLen; omega) (by omega) (by first | omega | (simp; done) | (simp; omega)) ?_; intro v' wa hown' hgrow _; simp only [Value.ownBlock] at hgrow; ))
      have hB9 := HB.out.kept hb9 (by omega)
      have hBa := hB9.grown hgrow (fun k e => by have := ownLt hown9 k e; omega)
      have hba : Below w.heap.size w wa := (bAlloc (bCall' hb9 hbel) _).grown hgrow (by simp; omega) (fun k e => by have := ownLt hown9 k e; omega)
      have he : seatsOf r (lv.take (n + 1)) = seatsOf r (lv.take n) ++ [⟨x, findI r x⟩] := by rw [take_snoc' HX.out]; unfold seatsOf; simp
      have HR : OwnSeats wa (w.heap.size + 1) v' (seatsOf r (lv.take (n + 1))) := by
        rw [he]; unfold OwnSeats; rw [seatC_snoc, List.length_append, HSL.out]; exact hown'
      have HRR := Lib.hid HR; have HBB := Lib.hid hBa; have HBE := Lib.hid hba
      clear hown' hgrow he HR hBa hba hB9 hown9 hown2 hb9 hc
      go_wp2
      go_roundw
      case rel => exact ⟨n + 1, _, by omega, by go_num, rfl, HRR.out, HBB.out, HBE.out⟩
      case measure => simp [intOf]; omega
    · have hge : (lv.length : Int) ≤ (n : Int) := by omega
      rw [List.take_of_length_le (by omega)] at hown
      clear hlt hn hA hB ha0
      go_wp2
      go_ret
      exact ⟨v, rfl, ownBase hown (by omega), hbel⟩
end Go.Proofs.YtodgcmakdndbfaaDoor
/-
  Contracts: roster.Move. Printed by wip/gen/gk.py.
-/
namespace Go.Proofs.YtodgcmakdndbfaaDoor
open Go.RowKit Cot
set_option linter.unusedSimpArgs false
set_option linter.unusedVariables false
set_option maxRecDepth 100000 in
set_option maxHeartbeats 2000000 in
theorem roster_Move (r : Nat → Entry) (lv jn : List Int) (since base : Int) (ao bo : Option Addr) (cap cap2 : Nat) (w : World) (hr : ∀ j, I64 (r j).base) (hr2 : ∀ j, I64 (r j).who) (hl1 : lv.length ≤ 35184372088832) (hl2 : jn.length ≤ 35184372088832)
    (hA : IntsAt w ao lv) (hJ : IntsAt w bo jn) (hwl : ∀ x, x ∈ lv → I64 x) (hwj : ∀ x, x ∈ jn → I64 x) (hfit : fitsS r lv jn = 0) (hs1 : 1 ≤ since) (hs2 : since ≤ 200) (hb1 : 1 ≤ base) (hb2 : base + jn.length ≤ 32768) (hbase : ∀ j, j < 64 → (r j).base < base) (hT : TzAt w) :
    Calls Tryd.prog 49 #[.agg (rosterC r), .agg #[.slice ao lv.length cap, .slice bo jn.length cap2], .int .i64 since, .int .i64 base] w fun e w' => ∃ v1 v2, e = .returned (.tuple #[.agg (rosterC (moveR r lv jn since base)), v1, v2, .int .i64 0]) ∧ OwnSeats w' w.heap.size v1 (seatsOf r lv) ∧ OwnSeats w' w.heap.size v2 (moveJ r lv jn) ∧ Below w.heap.size w w' := by
  have F := fits_ok hfit
  have hlv := lv_len F
  have hjn := jn_len F
  have HF := Lib.hid F; clear F
  obtain ⟨i0, hi, hz0, hz1, hz2⟩ := info_parts info_seat
  have hbs := (bAlloc (bAlloc (bAlloc (Below.refl w.heap.size w) (.cells (rosterC r) 29)) (.cells #[.slice ao lv.length cap, .slice bo jn.length cap2] 34)) (.cells (rosterC roster0) 29))
  have hA3 := hA.kept hbs; have hJ3 := hJ.kept hbs
  have k0 : Blk (((w.alloc (.cells (rosterC r) 29)).alloc (.cells #[.slice ao lv.length cap, .slice bo jn.length cap2] 34)).alloc (.cells (rosterC roster0) 29)) w.heap.size (rosterC r) 29 := ((Blk.new w _ _).alloc _).alloc _
  have k1 : Blk (((w.alloc (.cells (rosterC r) 29)).alloc (.cells #[.slice ao lv.length cap, .slice bo jn.length cap2] 34)).alloc (.cells (rosterC roster0) 29)) (w.heap.size + 1) #[.slice ao lv.length cap, .slice bo jn.length cap2] 34 := by
    have h := (Blk.new (w.alloc (.cells (rosterC r) 29)) #[.slice ao lv.length cap, .slice bo jn.length cap2] 34).alloc (.cells (rosterC roster0) 29); rw [World.size_alloc] at h; exact h
  have k2 : Blk (((w.alloc (.cells (rosterC r) 29)).alloc (.cells #[.slice ao lv.length cap, .slice bo jn.length cap2] 34)).alloc (.cells (rosterC roster0) 29)) (w.heap.size + 2) (rosterC roster0) 29 := by
    have h := Blk.new ((w.alloc (.cells (rosterC r) 29)).alloc (.cells #[.slice ao lv.length cap, .slice bo jn.length cap2] 34)) (rosterC roster0) 29; simp only [World.size_alloc] at h; exact h
  have HFIT := Lib.hid hfit; clear hfit
  have K0 := Lib.hid k0; have K1 := Lib.hid k1; have K2 := Lib.hid k2
  have HA3 := Lib.hid hA3; have HJ3 := Lib.hid hJ3
  have HBASE := Lib.hid hbase
  have HR := Lib.hid hr; have HR2 := Lib.hid hr2; have HWL := Lib.hid hwl; have HWJ := Lib.hid hwj; have HBS := Lib.hid hbs
  clear k0 k1 k2 hA3 hJ3 hbase hr hr2 hwl hwj hbs
  have HT := Lib.hid hT; clear hT
  go_enter Tryd.func49, Tryd.ntmps49
  go_wp2_with (first | (go_at_call 45; refine (roster_Fits r lv jn ao bo cap cap2 _ HR.out HR2.out hl1 hl2 HA3.out HJ3.out HWL.out HWJ.out).mono ?_; rintro e w1 ⟨rfl, hb⟩; simp only [HFIT.out]; have hB0 : Blk w1 w.heap.size (rosterC r) 29 := K0.out.kept hb (by first | omega | (simp; done) | (simp; omega)); have hB1 : Blk w1 (w.heap.size + 1) #[.slice ao lv.length cap, .slice bo jn.length cap2] 34 := K1.out.kept hb (by first | omega | (simp; done) | (simp; omega)); have hB2 : Blk w1 (w.heap.size + 2) (rosterC roster0) 29 := K2.out.kept hb (by first | omega | (simp; done) | (simp; omega)); have hc0 := hB0.cell; have hf0 := hB0.frozen; have ha0 := hB0.at; have hr0 := hB0.row; have hc1 := hB1.cell; have hf1 := hB1.frozen; have hy0 := hB0.lt; have hy1 := hB1.lt; have hy2 := hB2.lt) | (go_at_call 75; refine (roster_names r base jn.length hb1 (by omega) hb2 HBASE.out _).mono ?_; rintro e w2 ⟨rfl, hbn⟩; clear hc0 hf0 ha0 hr0 hc1 hf1 hy0 hy1 hy2; have hB0' := hB0.kept hbn hB0.lt; have hB1' := hB1.kept hbn hB1.lt; have hB2' := hB2.kept hbn hB2.lt; clear hB0 hB1 hB2; have hB0 := hB0'; have hB1 := hB1'; have hB2 := hB2'; clear hB0' hB1' hB2'; have hc0 := hB0.cell; have hf0 := hB0.frozen; have ha0 := hB0.at; have hr0 := hB0.row; have hc1 := hB1.cell; have hf1 := hB1.frozen; have hy0 := hB0.lt; have hy1 := hB1.lt; have hy2 := hB2.lt))
  have hbel2 : Below w.heap.size w w2 := HBS.out.trans ((hb.mono (by simp; omega)).trans (hbn.mono (by have := hb.size; simp at this; omega)))
  have hsz2 : w.heap.size + 3 ≤ w2.heap.size := by omega
  clear hbn hb
  clear hc0 hf0 ha0 hr0 hc1 hf1 hy0 hy1 hy2
  go_loopw [13, 16, 17, 51] (fun u _ _ i wr => ∃ (n : Nat) (v : Value), n ≤ lv.length ∧ i = .int .i64 n ∧ v = u ∧ OwnSeats wr (w.heap.size + 3) v (seatsOf r (lv.take n)) ∧ Blk wr w.heap.size (rosterC (goneR r (lv.take n))) 29 ∧ Blk wr (w.heap.size + 1) #[.slice ao lv.length cap, .slice bo jn.length cap2] 34 ∧ Blk wr (w.heap.size + 2) (rosterC roster0) 29 ∧ Below w.heap.size w wr) (fun _ _ _ i _ => lv.length - (intOf i).toNat)
  case atStart => exact ⟨0, _, by omega, rfl, rfl, World.ownsRow_nil _ _ _ _, by rw [List.take_zero, gone_nil]; exact hB0, hB1, hB2, hbel2⟩
  case round =>
    clear hB0 hB1 hB2 hbel2 hsz2
    obtain ⟨n, v, hn, rfl, rfl, hown, hB0, hB1, hB2, hbel⟩ := hrel
    have hc0 := hB0.cell; have hf0 := hB0.frozen; have ha0 := hB0.at; have hr0 := hB0.row; have hc1 := hB1.cell; have hf1 := hB1.frozen; have hy0 := hB0.lt; have hy1 := hB1.lt; have hy2 := hB2.lt
    by_cases hlt : n < lv.length
    · have hlt' : (n : Int) < (lv.length : Int) := by omega
      obtain ⟨x, hx⟩ := some_of_lt hlt
      obtain ⟨b, off, rfl, hbb, hcx⟩ := (hA.kept hbel) n x hx
      obtain ⟨_, hno, hf⟩ := HF.out.leaves n x hx
      obtain ⟨s, hs, hfs, hts, hws⟩ := findI_nat hf
      have hfg : findI (goneR r (lv.take n)) x = (s : Int) := (find_gone hno).trans hfs
      have hs' : (s : Int) < 64 := by omega
      have hgs := gone_snoc (l := lv.take n) HF.out.right hs hts hws
      have hsl : (seatsOf r (lv.take n)).length = n := by unfold seatsOf; simp; omega
      have hown2 : wr.ownsRow (w.heap.size + 3) 45 2 v n (seatC (seatsOf r (lv.take n))) := by have h := hown; unfold OwnSeats at h; rwa [hsl] at h
      obtain ⟨vo, vc, rfl⟩ := ownV hown2
      have he : seatsOf r (lv.take (n + 1)) = seatsOf r (lv.take n) ++ [⟨x, (s : Int)⟩] := by rw [take_snoc' hx]; unfold seatsOf; simp [hfs]
      have HE := Lib.hid he; have HSL := Lib.hid hsl; have HX := Lib.hid hx; have HGS := Lib.hid hgs
      have HB0 := Lib.hid hB0; have HB1 := Lib.hid hB1; have HB2 := Lib.hid hB2; have HAA := Lib.hid hA; have HJJ := Lib.hid hJ
      have HFG := Lib.hid hfg
      clear he hsl hx hgs hown hno hf hfs hts hws hB0 hB1 hB2 hA hJ hfg hc0 hf0 hr0 hf1
      go_wp2_with (first | (go_at_call 71; refine (roster_Find _ x _).mono ?_; rintro e w9 ⟨rfl, hb9⟩; simp only [HFG.out]; have hown9 := ownBelow hown2 hb9 (Nat.le_refl _); have hz9 := hb9.size; clear ha0; have hB09 := HB0.out.kept hb9 hy0; have hc09 := hB09.cell; have hf09 := hB09.frozen; have hr09 := hB09.row) | (at_builtin; refine wpList_append_own _ rfl _ _ 36 rfl (w.heap.size + 3) 45 i0 (.agg #[.int .i64 0, .int .i64 0]) 2 16 Tryd.underlying36 hi hz0 hz1 hz2 rfl (by decide) _ _ _ rfl ((ownSet (ownSet (ownSet hown9 (by simp) _) (by simp) _) (by simp) _).alloc _) ⟨w9.heap.size, 0, none⟩ 1 1 [I x, I (s : Int)] rfl rfl (two_cells_at' _ _ (by first | rfl | simp) _ _ _) (two_one _ _) (by unfold maxLen; omega) (by omega) (by first | omega | (simp; done) | (simp; omega)) ?_; intro v' wa hown' hgrow _; simp only [Value.ownBlock] at hgrow; ))
      have hBe : Blk (((w9.setCell ⟨w.heap.size, s * 3, none⟩ (I 0)).setCell ⟨w.heap.size, s * 3 + 1, none⟩ (I 0)).setCell ⟨w.heap.size, s * 3 + 2, none⟩ (I 0)) w.heap.size (rosterC (goneR r (lv.take (n + 1)))) 29 := by
        rw [take_snoc' HX.out]; exact (hB09.ent s hs 0 0 0).cast (rosterC_congr HGS.out)
      have hB0a := hBe.grown hgrow (fun k e => by have := ownLt hown9 k e; omega)
      have hB1a := ((((HB1.out.kept hb9 hy1).set_other (by simp) _).set_other (by simp) _).set_other (by simp) _).grown hgrow (fun k e => by have := ownLt hown9 k e; omega)
      have hB2a := ((((HB2.out.kept hb9 hy2).set_other (by simp) _).set_other (by simp) _).set_other (by simp) _).grown hgrow (fun k e => by have := ownLt hown9 k e; omega)
      have hba : Below w.heap.size w wa := (bAlloc (bSet (bSet (bSet (bCall' hb9 hbel) (Nat.le_refl _) _) (Nat.le_refl _) _) (Nat.le_refl _) _) _).grown hgrow (by simp; omega) (fun k e => by have := ownLt hown9 k e; omega)
      have HRR : OwnSeats wa (w.heap.size + 3) v' (seatsOf r (lv.take (n + 1))) := by
        rw [HE.out]; unfold OwnSeats; rw [seatC_snoc, List.length_append, HSL.out]; exact hown'
      go_roundw
      case rel => exact ⟨n + 1, v', by omega, by go_num, rfl, HRR, hB0a, hB1a, hB2a, hba⟩
      case measure => simp [intOf]; omega
    · have hge : (lv.length : Int) ≤ (n : Int) := by omega
      rw [List.take_of_length_le (by omega)] at hown hB0
      obtain ⟨wl, rfl⟩ : ∃ wl : World, wl = wr := ⟨_, rfl⟩
      have hB0w := hB0
      clear hlt hn hc0 hf0 ha0 hr0 hc1 hf1 hy0 hy1 hy2
      have HB0 := Lib.hid hB0; have HB1 := Lib.hid hB1; have HB2 := Lib.hid hB2; have HOWN := Lib.hid hown; have HBEL := Lib.hid hbel
      clear hB0w hB0 hB1 hB2 hown
      go_wp2
      clear hge
      have hui := Tryd.underlying29
      have hsi : (Tryd.prog.info? 29).map (·.size) = some (rosterC (goneR r lv)).toList.length := by rw [Array.length_toList, rosterC_size]; kernel_rfl
      have hTN := Lib.hid (takenN_lt (goneR r lv))
      have hroom := Lib.hid (show jn.length ≤ (freeL (takenN (goneR r lv))).length by rw [freeL_taken]; exact free_room HF.out)
      have hpopN := Lib.hid (show (popN 64 (takenN (goneR r lv)) : Int) = 64 - ((freeL (takenN (goneR r lv))).length : Int) by rw [freeL_taken, takenN_pop]; have := free_cnt (takenP (goneR r lv)); omega)
      go_region_held3 (fun w' => w'.rangeAt w.heap.size 0 (rosterC (goneR r lv)).toList ∧ w'.cell? ⟨w.heap.size + 1, 1, none⟩ = some (.slice bo jn.length cap2))
        (first
          | exact ⟨HB0.out.range, HB1.out.cell 1⟩
          | exact ⟨hB0q.range, hB1q.cell 1⟩
          | exact ⟨hB0r.range, hB1r.cell 1⟩
          | go_keep)
        (first
          | (go_at_call 53; (try simp only [Array.toArray_toList]); refine (roster_Taken _ _).mono ?_; rintro e w4 ⟨rfl, hb4⟩; have hB0q := HB0.out.drew.kept hb4 HB0.out.lt; have hB1q := HB1.out.drew.kept hb4 HB1.out.lt)
          | (go_at_call 76; refine (seats_Take _ jn.length hTN.out hroom.out hpopN.out _ (HT.out.kept (bCall' hb4 (bDrew hbel)) (Nat.le_refl _))).mono ?_; rintro e w5 ⟨tv, ty, rfl, htown, hb5⟩; have hB0r := hB0q.kept hb5 hB0q.lt; have hB1r := hB1q.kept hb5 hB1q.lt; obtain ⟨tao, tcap, rfl⟩ := ownV htown))
      clear hui hsi
      have hB2r := (HB2.out.drew.kept hb4 HB2.out.lt).kept hb5 (HB2.out.drew.kept hb4 HB2.out.lt).lt
      have hbel5 : Below w.heap.size w w5 := bCall' hb5 (bCall' hb4 (bDrew hbel))
      have hown5 : OwnSeats w5 (w.heap.size + 3) v (seatsOf r lv) := ownBelow (ownBelow (ownBelow HOWN.out ((Below.refl _ _).drew) (Nat.le_refl _)) hb4 (Nat.le_refl _)) hb5 (Nat.le_refl _)
      have hsz5 := hB2r.lt
      rw [freeL_taken] at htown
      have hroom2 := free_room HF.out
      have htown5 : w5.ownsRow (w.heap.size + 3) 3 1 (.slice tao jn.length tcap) jn.length (((freeP (takenP (goneR r lv))).take jn.length).map fun (k : Nat) => I (k : Int)) := ownBase htown (by have h4 := hb4.size; have h1 := HB2.out.lt; have h2 : wl.heap.size ≤ w4.heap.size := h4; omega)
      clear htown hb4 hb5 hbel hB0q hB1q
      have hTOW := Lib.hid htown5
      generalize hrr : goneR r lv = rr at *
      generalize hfl : freeP (takenP rr) = fl at *
      clear htown5
      have HRR := Lib.hid hrr; have HFL := Lib.hid hfl
      clear hrr hfl
      go_wp2
      go_loopw [14, 21, 22, 80] (fun u _ _ i wr => ∃ (n : Nat) (v2 : Value), n ≤ jn.length ∧ i = .int .i64 n ∧ v2 = u ∧ OwnSeats wr w5.heap.size v2 (joinL fl jn n) ∧ Blk wr w.heap.size (rosterC (joinR rr fl jn since base n)) 29 ∧ Mid (w.heap.size + 1) w5.heap.size w5 wr ∧ Below w.heap.size w wr) (fun _ _ _ i _ => jn.length - (intOf i).toNat)
      case atStart => exact ⟨0, _, by omega, rfl, rfl, World.ownsRow_nil _ _ _ _, hB0r, Mid.refl (Nat.le_refl _), hbel5⟩
      case round =>
        clear hB0r hbel5
        obtain ⟨n, v2, hn, rfl, rfl, hown, hB0, hM, hbel⟩ := hrel
        have hB1 := hB1r.mid hM (by omega) (by omega)
        have hB2 := hB2r.mid hM (by omega) (by omega)
        have HB1R := Lib.hid hB1r; have HB2R := Lib.hid hB2r; have HOWN5 := Lib.hid hown5
        clear hB1r hB2r hown5
        have hc0 := hB0.cell; have hf0 := hB0.frozen; have ha0 := hB0.at; have hr0 := hB0.row; have hc1 := hB1.cell; have hf1 := hB1.frozen; have hy0 := hB0.lt; have hy1 := hB1.lt; have hy2 := hB2.lt
        have hr2 := hB2.row
        by_cases hlt : n < jn.length
        · have hlt' : (n : Int) < (jn.length : Int) := by omega
          obtain ⟨x, hx⟩ := some_of_lt hlt
          obtain ⟨b, off, rfl, hbb0, hcx0⟩ := hJ n x hx
          have hcx := (hbel.cell (p := ⟨b, off + n, none⟩) hbb0).trans hcx0
          have hbb : b < wr.heap.size := by omega
          have hbne : b ≠ w.heap.size := by omega
          clear hcx0
          obtain ⟨s, hfs⟩ := some_of_lt (show n < fl.length by omega)
          have hs : s < 64 := (free_at (by rw [HFL.out]; exact hfs)).1
          have hs' : (s : Int) < 64 := by omega
          obtain ⟨g, gc, hge, _, hglt, hgc, _⟩ := ownCell (ownMid hTOW.out hM (by omega) (Nat.le_refl _)) (j := n) (u := I (s : Int)) (by rw [List.getElem?_map, List.getElem?_take, if_pos hlt, hfs]; rfl)
          cases hge
          have hsl := joinL_len fl jn n
          have hown2 : wr.ownsRow w5.heap.size 45 2 v2 n (seatC (joinL fl jn n)) := by have h := hown; unfold OwnSeats at h; rwa [hsl] at h
          obtain ⟨vo, vc, rfl⟩ := ownV hown2
          have he : joinL fl jn (n + 1) = joinL fl jn n ++ [⟨x, (s : Int)⟩] := by rw [joinL_succ]; simp [List.getD, hx, hfs]
          have hje : joinR rr fl jn since base (n + 1) = upd (joinR rr fl jn since base n) s ⟨x, base + n, since⟩ := by
            show upd (joinR rr fl jn since base n) (fl.getD n 0) ⟨jn.getD n 0, base + n, since⟩ = _
            simp [List.getD, hx, hfs]
          have hsm := hM.size
          have HE := Lib.hid he; have HSL := Lib.hid hsl; have HX := Lib.hid hx; have HFS := Lib.hid hfs; have HJE := Lib.hid hje
          have HB0 := Lib.hid hB0; have HB1 := Lib.hid hB1; have HB2 := Lib.hid hB2; have HAA := Lib.hid hA; have HJJ := Lib.hid hJ; have HM := Lib.hid hM
          clear he hsl hx hfs hje hown hB0 hB1 hB2 hA hJ hM ha0 hr2
          go_wp2_with (first | (at_builtin; refine wpList_append_own _ rfl _ _ 36 rfl w5.heap.size 45 i0 (.agg #[.int .i64 0, .int .i64 0]) 2 16 Tryd.underlying36 hi hz0 hz1 hz2 rfl (by decide) _ _ _ rfl ((ownSet (ownSet (ownSet hown2 (by simp; omega) _) (by simp; omega) _) (by simp; omega) _).alloc _) ⟨wr.heap.size, 0, none⟩ 1 1 [I x, I (s : Int)] rfl rfl (two_cells_at' _ _ (by first | rfl | simp) _ _ _) (two_one _ _) (by unfold maxLen; omega) (by omega) (by first | omega | (simp; done) | (simp; omega)) ?_; intro v' wa hown' hgrow _; simp only [Value.ownBlock] at hgrow; ))
          have hBe : Blk (((wr.setCell ⟨w.heap.size, s * 3, none⟩ (I x)).setCell ⟨w.heap.size, s * 3 + 1, none⟩ (I (base + n))).setCell ⟨w.heap.size, s * 3 + 2, none⟩ (I since)) w.heap.size (rosterC (joinR rr fl jn since base (n + 1))) 29 := by
            rw [HJE.out]; exact HB0.out.ent s hs _ _ _
          have hB0a := hBe.grown hgrow (fun k e => by have := ownLt hown2 k e; omega)
          have hMa := ((((HM.out.set (.inl (by simp)) _).set (.inl (by simp)) _).set (.inl (by simp)) _).alloc _).grown hgrow (fun k e => .inr (by have := ownLt hown2 k e; omega))
          have hba : Below w.heap.size w wa := (bAlloc (bSet (bSet (bSet hbel (Nat.le_refl _) _) (Nat.le_refl _) _) (Nat.le_refl _) _) _).grown hgrow (by simp; omega) (fun k e => by have := ownLt hown2 k e; omega)
          have HRR2 : OwnSeats wa w5.heap.size v' (joinL fl jn (n + 1)) := by
            rw [HE.out]; unfold OwnSeats; rw [seatC_snoc, List.length_append, HSL.out]; exact hown'
          go_roundw
          case rel => exact ⟨n + 1, v', by omega, by go_num, rfl, HRR2, hB0a, hMa, hba⟩
          case measure => simp [intOf]; omega
        · have hge : (jn.length : Int) ≤ (n : Int) := by omega
          obtain rfl : n = jn.length := by omega
          have hleft : OwnSeats wr (w.heap.size + 3) v (seatsOf r lv) := ownMid HOWN5.out hM (by omega) (Nat.le_refl _)
          have hat := (hB2.setRow (rosterC (joinR rr fl jn since base jn.length))).at 0 192
          rw [cellsIn_roster] at hat
          have HL := Lib.hid hleft; have HO := Lib.hid hown
          have HV := Lib.hid (show moveR r lv jn since base = joinR rr fl jn since base jn.length by unfold moveR; rw [HRR.out, HFL.out])
          have HV2 := Lib.hid (show moveJ r lv jn = joinL fl jn jn.length by unfold moveJ; rw [HRR.out, HFL.out])
          have hsm := hM.size
          clear hlt hn hleft hown hB0 hB1 hB2 hM hA hJ
          go_wp2
          exact bodyPost_ret (v := .tuple #[.agg (rosterC (joinR rr fl jn since base jn.length)), v, v2, .int .i64 0]) (by simp [results, Tryd.results49, Sem.run_bind, asAddr, loadVar_roster, ldV_roster, hat]) rfl ⟨v, v2, by rw [HV.out], ownBase (base := w.heap.size + 3) (ownRow HL.out (by omega) _) (by omega), by rw [HV2.out]; exact ownBase (ownRow HO.out (by omega) _) (by omega), below_setRow hbel (by omega) _⟩
end Go.Proofs.YtodgcmakdndbfaaDoor
