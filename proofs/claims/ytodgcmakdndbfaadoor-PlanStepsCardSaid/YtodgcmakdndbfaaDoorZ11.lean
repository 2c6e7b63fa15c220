/-
  Parts of a proof: Range, Take, MoveS. Merged by program.
-/
import Derived.Test.YtodgcmakdndbfaaDoorZ10
import Derived.Maps.AppendAt
import Derived.Shelf.RegionOpen
import Derived.Sort.QuietIn
/-
  'for slot := range each(s) { .. }': the law of the statement over the contract of seats.each's closure (which keeps its state in a cell of its own).
-/
namespace Go.Proofs.YtodgcmakdndbfaaDoor
open Go.RowKit Cot
set_option linter.unusedVariables false
/-- How the body of a round may be left. -/
def roundE (I : Nat → List Nat → World → Prop) (Ix : Code → List Nat → World → Prop) (c : Nat) (pre : List Nat) (W : World) : Exit → Act → World → Prop
  | .normal, _, W' => KeepsOthers W W' ∧ I c pre W'
  | .exit id, _, W' => KeepsOthers W W' ∧ Ix (.exit id) pre W'
  | .ret, _, W' => KeepsOthers W W' ∧ Ix .ret pre W'
  | _, _, _ => False
/-- The statement's mark on the deferred calls. -/
def markE (a : Act) (D : Nat) : Act := { a with defers := { target := .collected D, args := #[] } :: a.defers }
/-- What holds of the world while the loop runs: the caller's word, the loop's record, the block for deferred calls. -/
def underE (I : World → Prop) (r : Loop) (D : Nat) (W : World) : Prop := I W ∧ W.heap[D + 1]? = some (.loop r) ∧ W.heap[D]? = some (.deferred (some []))
theorem range_each {g : Operand} {ps : Array Tmp} {assign body : Code} {Q : Exit → Act → World → Prop} {a : Act} {w : World} {Bs s n : Nat}
    (hg : a.eval g = .func (.func 93) #[] #[.pointer (some ⟨Bs, 0, none⟩)]) (hps : ps.size = 1) (hs : s < 18446744073709551616) (hBs : Bs < w.heap.size)
    (I : Nat → List Nat → World → Prop) (Ix : Code → List Nat → World → Prop)
    (hIc : ∀ c pre W, I c pre W → W.cell? ⟨Bs, 0, none⟩ = some (.int .u64 c) ∧ W.frozen? ⟨Bs, 0, none⟩ = false ∧ TzAt W)
    (hIs : ∀ c c' pre W, I c pre W → I c' pre (W.setCell ⟨Bs, 0, none⟩ (.int .u64 c')))
    (hIp : ∀ c pre W l o o', I c pre W → w.heap.size ≤ l → W.heap[l]? = some o → o.isCells = false → I c pre (W.putObj l o'))
    (hXp : ∀ cd pre W l o o', Ix cd pre W → w.heap.size ≤ l → W.heap[l]? = some o → o.isCells = false → Ix cd pre (W.putObj l o'))
    (hIa : ∀ o o', I s [] ((w.alloc o).alloc o')) (a₁ : Nat → Act)
    (hassign : ∀ (l x : Nat) (W : World) (K : Act → World → Prop), K (a₁ x) W →
      assign.wpIn (Fence.wide.inRound l) (n - 1 - 1) Tryd.prog (Exit.then K (fun _ _ _ => False)) { tmps := (ps.zip #[.int .i64 x]).foldl (fun t (p, v) => t.setIfInBounds p v) a.tmps, defers := [] } W)
    (hbody : ∀ (l c : Nat) (pre : List Nat) (x : Nat) (rest : List Nat) (W : World), I c pre W → slots64 s = pre ++ x :: rest → body.wpIn (Fence.wide.inRound l) (n - 1 - 1) Tryd.prog (roundE I Ix c (pre ++ [x]) W) (a₁ x) W)
    (hdone : ∀ (D c : Nat) (W : World), w.heap.size ≤ D → I c (slots64 s) W → W.heap[D]? = some (.deferred (some [])) → Q .normal (markE a D) W)
    (hstop : ∀ (D : Nat) (cd : Code) (pre : List Nat) (W : World), w.heap.size ≤ D → pre <+: slots64 s → Ix cd pre W → W.heap[D]? = some (.deferred (some [])) → cd.wpIn Fence.wide n Tryd.prog Q (markE a D) W) :
    (Code.rangeFunc g ps assign body).wpIn Fence.wide n Tryd.prog Q a w := by
  refine wpIn_rangeFunc ?_
  intro fn hfn
  obtain ⟨rec, hrec⟩ : ∃ rec : LoopState → Option Code → Loop, rec = fun st pe => { state := st, pending := pe, fn, tmps := a.tmps, params := ps, assign, body, defers := w.heap.size } := ⟨_, rfl⟩
  obtain ⟨W1, hW1⟩ : ∃ W1, (w.alloc (.deferred (some []))).alloc (.loop (rec .ready none)) = W1 := ⟨_, rfl⟩
  have hL1 : W1.heap[w.heap.size + 1]? = some (.loop (rec .ready none)) := by
    rw [← hW1]; have := World.alloc_heap_new (w.alloc (.deferred (some []))) (.loop (rec .ready none)); rwa [World.size_alloc] at this
  have hK1 : W1.heap[w.heap.size]? = some (.deferred (some [])) := by
    rw [← hW1]; exact (Below.heap_alloc _ _ _ (by simp)).trans (World.alloc_heap_new w _)
  refine ⟨w.heap.size + 1, [{ target := .collected w.heap.size, args := #[] }], W1, { target := .fn (.func 93) #[.pointer (some ⟨Bs, 0, none⟩)], args := #[.func (.yield (w.heap.size + 1)) #[] #[]] }, W1, 93,
    #[.func (.yield (w.heap.size + 1)) #[] #[], .pointer (some ⟨Bs, 0, none⟩)], W1, ?_, ?_, ?_, ?_, (fun h => by cases h), ?_⟩
  · rw [← hW1, hrec]; exact run_enterLoop_outer _ _ _ _ _
  · simp only [resolve, hg]
    simp [go_sem]
  · intro f' hf'; trivial
  · simp [invoke, go_sem, enters_of Tryd.func93 (by kernel_rfl) rfl]
  · refine (each1_in (n - 1) (w.heap.size + 1) Bs s hs (fun c pre => underE (I c pre) (rec .ready none) w.heap.size) (fun pre W => ∃ cd, underE (Ix cd pre) (rec .done (some cd)) w.heap.size W)
      (fun c pre W h => hIc c pre W h.1)
      (fun c c' pre W h => ⟨hIs c c' pre W h.1, (Below.heap_setCell _ _ _ _ (by simp; omega)).trans h.2.1, (Below.heap_setCell _ _ _ _ (by simp; omega)).trans h.2.2⟩)
      ?_ W1 ⟨by rw [← hW1]; exact hIa _ _, hL1, hK1⟩).mono ?_
    · rintro c pre x rest W ⟨hi, hl, hk⟩ hx
      have hlt : w.heap.size + 1 < W.heap.size := (Array.getElem?_eq_some_iff.1 hl).1
      have hy := run_yield (P := Tryd.prog) (args := #[.int .i64 x]) hl (by rw [hrec]; simp [hps])
      rw [hrec] at hy
      refine ⟨fn, _, assign, body, hy, roundIn_of_wpIn hfn (hassign _ x W _ ⟨_, run_beginRound hl (by rw [hrec]), ?_⟩)⟩
      have hl2 : (W.putObj (w.heap.size + 1) (.loop { rec .ready none with state := .busy })).heap[w.heap.size + 1]? = some (.loop { rec .ready none with state := .busy }) := World.putObj_heap_same hlt
      have hk2 : (W.putObj (w.heap.size + 1) (.loop { rec .ready none with state := .busy })).heap[w.heap.size]? = some (.deferred (some [])) := (World.putObj_heap_other (by omega)).trans hk
      refine wpIn_mono (hbody _ c pre x rest _ (hIp _ _ _ _ _ _ hi (by omega) hl rfl) hx) ?_
      have fin : ∀ (jump : Option Code) (W3 : World), KeepsOthers (W.putObj (w.heap.size + 1) (.loop { rec .ready none with state := .busy })) W3 →
          (Instr.endRound (w.heap.size + 1) jump).run Tryd.prog W3 = .ok (.bool jump.isNone) (W3.putObj (w.heap.size + 1) (.loop (rec (if jump.isNone then .ready else .done) jump))) ∧
          W3.heap[w.heap.size + 1]? = some (.loop { rec .ready none with state := .busy }) ∧
          (W3.putObj (w.heap.size + 1) (.loop (rec (if jump.isNone then .ready else .done) jump))).heap[w.heap.size + 1]? = some (.loop (rec (if jump.isNone then .ready else .done) jump)) ∧
          (W3.putObj (w.heap.size + 1) (.loop (rec (if jump.isNone then .ready else .done) jump))).heap[w.heap.size]? = some (.deferred (some [])) := fun jump W3 hk3 => by
        have hl3 := hk3.same _ _ hl2 rfl
        have := run_endRound (P := Tryd.prog) jump hl3
        rw [hrec] at this ⊢
        exact ⟨this, by rw [hrec] at hl3; exact hl3, World.putObj_heap_same (Array.getElem?_eq_some_iff.1 hl3).1, (World.putObj_heap_other (by omega)).trans (hk3.same _ _ hk2 rfl)⟩
      rintro e a3 W3 hp
      cases e with
      | normal =>
        obtain ⟨hk3, hi3⟩ := hp
        obtain ⟨hr, hl3, hl4, hk4⟩ := fin none W3 hk3
        exact ⟨_, _, hr, .inl ⟨rfl, hIp _ _ _ _ _ _ hi3 (by omega) hl3 rfl, hl4, hk4⟩⟩
      | ret =>
        obtain ⟨hk3, hi3⟩ := hp
        obtain ⟨hr, hl3, hl4, hk4⟩ := fin (some .ret) W3 hk3
        exact ⟨_, _, hr, .inr ⟨rfl, .ret, hXp _ _ _ _ _ _ hi3 (by omega) hl3 rfl, hl4, hk4⟩⟩
      | exit id =>
        obtain ⟨hk3, hi3⟩ := hp
        obtain ⟨hr, hl3, hl4, hk4⟩ := fin (some (.exit id)) W3 hk3
        exact ⟨_, _, hr, .inr ⟨rfl, .exit id, hXp _ _ _ _ _ _ hi3 (by omega) hl3 rfl, hl4, hk4⟩⟩
      | goto t => exact hp.elim
      | panic ch => exact hp.elim
      | outgrown => exact hp.elim
    · rintro e W2 ⟨⟨v, rfl⟩, (⟨c, hi, hl, hk⟩ | ⟨pre, hSp, cd, hi, hl, hk⟩)⟩
      · exact ⟨none, _, by have := run_endLoop (P := Tryd.prog) hl (by rw [hrec]; simp); rw [hrec] at this; exact this, hdone _ c _ (Nat.le_refl _) (hIp _ _ _ _ _ _ hi (by omega) hl rfl) ((World.putObj_heap_other (by omega)).trans hk)⟩
      · exact ⟨some cd, _, by have := run_endLoop (P := Tryd.prog) hl (by rw [hrec]; simp); rw [hrec] at this; exact this, hstop _ cd pre _ (Nat.le_refl _) hSp (hXp _ _ _ _ _ _ hi (by omega) hl rfl) ((World.putObj_heap_other (by omega)).trans hk)⟩
end Go.Proofs.YtodgcmakdndbfaaDoor
/-
  Contract: seats.Take, where there are free places enough: the least free places.
-/
namespace Go.Proofs.YtodgcmakdndbfaaDoor
open Go.RowKit Cot Go.Shelf
attribute [local go_sem] Oper.semAt_some
set_option linter.unusedSimpArgs false
set_option linter.unusedVariables false
@[local simp, local go_sem] theorem wide_fn (f : FuncId) : Fence.wide.fn f ↔ True := Iff.rfl
@[local simp, local go_sem] theorem wide_depth : Fence.wide.depth = none := rfl
theorem not64 (x : Nat) (hx : x < 18446744073709551616) : ∃ y : Nat, y < 18446744073709551616 ∧ (∀ i, i < 64 → y.testBit i = !x.testBit i) ∧ bits .xor .u64 IntKind.u64.max (x : Int) = (y : Int) := by
  refine ⟨2 ^ 64 - 1 - x, by omega, fun i hi => ?_, ?_⟩
  · rw [show 2 ^ 64 - 1 - x = 2 ^ 64 - (x + 1) by omega, Nat.testBit_two_pow_sub_succ (by omega)]; simp [hi]
  · show IntKind.u64.wrap ((BitVec.ofInt 64 IntKind.u64.max ^^^ BitVec.ofInt 64 (x : Int)).toNat : Int) = _
    rw [show BitVec.ofInt 64 IntKind.u64.max = BitVec.allOnes 64 by decide, BitVec.allOnes_xor, BitVec.toNat_not, ofInt_u64 x hx, IntKind.wrap_u64]
    omega
/-- What holds between two rounds of Take's loop. -/
structure TakeI (w : World) (n c : Nat) (pre : List Nat) (W : World) : Prop where
  b0 : ∃ y : Int, Boxed W w.heap.size 63 (.int .u64 y)
  b1 : Boxed W (w.heap.size + 1) 3 (.int .i64 n)
  b2 : ∃ v, Boxed W (w.heap.size + 2) 32 v ∧ W.ownsRow (w.heap.size + 4) 3 1 v pre.length (pre.map fun (k : Nat) => I (k : Int))
  b3 : Boxed W (w.heap.size + 3) 63 (.int .u64 c)
  len : pre.length ≤ n
  below : Below w.heap.size w W
def TakeX (w : World) (n : Nat) (cd : Code) (pre : List Nat) (W : World) : Prop := cd = .exit 1 ∧ ∃ (q : List Nat) (x c : Nat), pre = q ++ [x] ∧ q.length = n ∧ TakeI w n c q W
theorem bxPut {W : World} {B : Nat} {t : TypeId} {v : Value} (h : Boxed W B t v) {l : Nat} (hl : B ≠ l) (o : Obj) : Boxed (W.putObj l o) B t v := (World.putObj_heap_other hl).trans h
theorem bxSet {W : World} {B : Nat} {t : TypeId} {v : Value} (h : Boxed W B t v) {a : Addr} (ha : B ≠ a.block) (x : Value) : Boxed (W.setCell a x) B t v := (Below.heap_setCell W a x B ha).trans h
theorem rowOther {W : World} {base : Nat} {e : TypeId} {size : Nat} {v : Value} {k : Nat} {xs : List Value} (h : W.ownsRow base e size v k xs) {b : Nat} (hb : b < base) (x : Value) : (W.setCell ⟨b, 0, none⟩ x).ownsRow base e size v k xs := by
  refine h.kept (grownBy_setCell' W b x) ?_
  rcases h.2 with ⟨rfl, _⟩ | ⟨g, cap, cur, rfl, hg, _⟩
  · exact .inl rfl
  · refine .inr fun e' => ?_
    have : g = b := by simpa [Value.ownBlock] using e'
    omega
theorem rowFar {W : World} {base : Nat} {e : TypeId} {size : Nat} {v : Value} {k : Nat} {xs : List Value} (h : W.ownsRow base e size v k xs) {b : Nat} (hb : b < base) : some b ≠ v.ownBlock := by
  rcases h.2 with ⟨rfl, _⟩ | ⟨g, cap, cur, rfl, hg, _⟩
  · simp [Value.ownBlock]
  · intro e'
    have : b = g := by simpa [Value.ownBlock] using e'
    omega
/-- 'out = append(out, ..)', out in a box that lies below the rows. -/
theorem bxAppended {W w1 : World} {n₀ base B : Nat} {t e : TypeId} {size : Nat} {v v' : Value} {k m : Nat} {xs ys : List Value} {tmp : Obj}
    (hv : Boxed W B t v) (hrow : W.ownsRow base e size v k xs) (hB : B < base) (hn₀ : n₀ ≤ B) (hbase : base ≤ W.heap.size)
    (hown' : w1.ownsRow base e size v' m ys) (hgrow : (W.alloc tmp).grownBy w1 v.ownBlock) :
    Boxed w1 B t v ∧ Boxed (w1.setCell ⟨B, 0, none⟩ v') B t v' ∧ (w1.setCell ⟨B, 0, none⟩ v').ownsRow base e size v' m ys ∧ KeepsOthers W (w1.setCell ⟨B, 0, none⟩ v') ∧ Below n₀ W (w1.setCell ⟨B, 0, none⟩ v') ∧
      ∀ b u tt, b < base → b ≠ B → Boxed W b tt u → Boxed w1 b tt u ∧ Boxed (w1.setCell ⟨B, 0, none⟩ v') b tt u := by
  have hv1 : Boxed w1 B t v := (hv.alloc tmp).kept hgrow (rowFar hrow hB)
  refine ⟨hv1, hv1.set v', hown'.kept (grownBy_setCell' w1 B v') (.inr (rowFar hown' hB).symm), ?_, ?_, fun b u tt hb hne hq => ?_⟩
  · refine ((KeepsOthers.alloc W tmp).trans (KeepsOthers.of_grownBy hgrow fun j o ej hj => ?_)).trans (KeepsOthers.setCell _ _ _)
    rcases (hrow.alloc tmp).2 with ⟨rfl, _⟩ | ⟨g, cap, cur, rfl, _, hgb, _⟩
    · simp [Value.ownBlock] at ej
    · obtain rfl : g = j := by simpa [Value.ownBlock] using ej
      rw [hgb] at hj; cases hj; rfl
  · refine (((Below.refl n₀ W).alloc (by omega) tmp).grown hgrow (by simp; omega) fun j ej => ?_).setCell (p := ⟨B, 0, none⟩) hn₀ v'
    rcases hrow.2 with ⟨rfl, _⟩ | ⟨g, cap, cur, rfl, hb, _, _⟩
    · simp [Value.ownBlock] at ej
    · obtain rfl : g = j := by simpa [Value.ownBlock] using ej
      omega
  · have h1 : Boxed w1 b tt u := (hq.alloc tmp).kept hgrow (rowFar hrow hb)
    exact ⟨h1, bxSet h1 hne _⟩
theorem TakeI.put {w W : World} {n c : Nat} {pre : List Nat} (h : TakeI w n c pre W) {l : Nat} {o : Obj} (o' : Obj) (hl : w.heap.size + 4 ≤ l) (ho : W.heap[l]? = some o) (hc : o.isCells = false) : TakeI w n c pre (W.putObj l o') := by
  obtain ⟨⟨y, h0⟩, h1, ⟨v, h2, hr⟩, h3, hn, hb⟩ := h
  exact ⟨⟨y, bxPut h0 (by omega) _⟩, bxPut h1 (by omega) _, ⟨v, bxPut h2 (by omega) _, ownsRow_putObj hr _ ho hc⟩, bxPut h3 (by omega) _, hn, hb.trans ⟨rfl, rfl, rfl, by simp, fun i hi => World.putObj_heap_other (by omega)⟩⟩
theorem TakeI.alloc {w W : World} {n c : Nat} {pre : List Nat} (h : TakeI w n c pre W) (o : Obj) : TakeI w n c pre (W.alloc o) := by
  obtain ⟨⟨y, h0⟩, h1, ⟨v, h2, hr⟩, h3, hn, hb⟩ := h
  exact ⟨⟨y, h0.alloc _⟩, h1.alloc _, ⟨v, h2.alloc _, hr.alloc _⟩, h3.alloc _, hn, hb.alloc hb.size _⟩
theorem TakeI.drew {w W : World} {n c : Nat} {pre : List Nat} (h : TakeI w n c pre W) : TakeI w n c pre W.drew := by
  obtain ⟨⟨y, h0⟩, h1, ⟨v, h2, hr⟩, h3, hn, hb⟩ := h
  exact ⟨⟨y, h0⟩, h1, ⟨v, h2, hr.drew⟩, h3, hn, hb.drew⟩
theorem TakeI.turn {w W : World} {n c : Nat} {pre : List Nat} (h : TakeI w n c pre W) (c' : Nat) : TakeI w n c' pre (W.setCell ⟨w.heap.size + 3, 0, none⟩ (.int .u64 c')) := by
  obtain ⟨⟨y, h0⟩, h1, ⟨v, h2, hr⟩, h3, hn, hb⟩ := h
  exact ⟨⟨y, bxSet h0 (by simp) _⟩, bxSet h1 (by simp) _, ⟨v, bxSet h2 (by simp) _, rowOther hr (by omega) _⟩, h3.set _, hn, hb.setCell (by simp) _⟩
theorem TakeI.word {w W : World} {n c : Nat} {pre : List Nat} (h : TakeI w n c pre W) (y : Int) : TakeI w n c pre (W.setCell ⟨w.heap.size, 0, none⟩ (.int .u64 y)) := by
  obtain ⟨⟨_, h0⟩, h1, ⟨v, h2, hr⟩, h3, hn, hb⟩ := h
  exact ⟨⟨y, h0.set _⟩, bxSet h1 (by simp) _, ⟨v, bxSet h2 (by simp) _, rowOther hr (by omega) _⟩, bxSet h3 (by simp) _, hn, hb.setCell (by simp) _⟩
/-- The free places, rising. -/
def freeL (x : Nat) : List Nat := (List.range 64).filter fun i => !x.testBit i
theorem freeL_eq {x y : Nat} (h : ∀ i, i < 64 → y.testBit i = !x.testBit i) : slots64 y = freeL x := by
  unfold slots64 freeL; exact List.filter_congr fun i hi => h i (List.mem_range.1 hi)
set_option maxRecDepth 100000 in
set_option maxHeartbeats 2000000 in
theorem seats_Take (x n : Nat) (hx : x < 18446744073709551616) (hn : n ≤ (freeL x).length) (hp : (popN 64 x : Int) = 64 - ((freeL x).length : Int)) (w : World) (hT : TzAt w) :
    Calls Tryd.prog 76 #[.int .u64 x, .int .i64 n] w fun e w' => ∃ (v : Value) (y : Int), e = .returned (.tuple #[v, .int .u64 y, .int .i64 0]) ∧ w'.ownsRow (w.heap.size + 4) 3 1 v n (((freeL x).take n).map fun (k : Nat) => I (k : Int)) ∧ Below w.heap.size w w' := by
  obtain ⟨y, hy, hyb, hyw⟩ := not64 x hx
  have hfl : (freeL x).length ≤ 64 := Nat.le_trans (List.length_filter_le _ _) (by simp)
  obtain ⟨i0, hi, hz0, hz1, hz2⟩ := info_parts info_int
  have hmix : Tryd.prog.follows .mixedOrders = true := by kernel_rfl
  refine (callsIn_wide (n := 5)).1 ?_
  refine callsIn_of_wp_marks Tryd.func76 rfl trivial ?_ rfl
  simp only [Tryd.ntmps76, List.size_toArray, List.length_cons, List.length_nil, Nat.reduceAdd, Nat.reduceSub, Array.replicate_succ, Array.replicate_zero, List.push_toArray, List.append_toArray, List.nil_append, List.cons_append]
  have hn0 : ¬ (n : Int) < 0 := by omega
  gi_wp2
  have hm : ∃ m : Nat, popN 64 x = m ∧ (m : Int) = 64 - ((freeL x).length : Int) := ⟨_, rfl, hp⟩
  obtain ⟨m, hm0, hm1⟩ := hm
  have hm2 : (n : Int) ≤ 64 - (m : Int) := by omega
  have hw1 : IntKind.i64.wrap (64 - (m : Int)) = 64 - (m : Int) := IntWalk.i64_in _ (by omega)
  have hd1 : decide (64 - (m : Int) < (n : Int)) = false := decide_eq_false (by omega)
  have hsc : ∀ w, Calls Tryd.prog 72 #[.int .u64 x] w (fun e w' => e = .returned (.int .i64 m) ∧ w = w') := fun w => by rw [← hm0]; exact seats_Count x hx w
  have HM0 := Lib.hid hm0; have HM1 := Lib.hid hm1
  clear hm0 hm1 hp
  gi_quiet ((exact callsIn_wide.2 (quietC (hsc _))))
  clear hw1 hd1
  gi_wp2_with fail
  refine (callsIn_wide.2 (seats_each y _)).mono ?_
  rintro e w' ⟨rfl, rfl⟩
  gi_wp2
  obtain ⟨W0, hW0⟩ : ∃ W0, ((((w.alloc (.cells #[.int .u64 x] 63)).alloc (.cells #[.int .i64 n] 3)).drewN nq).alloc (.cells #[.slice none 0 0] 32)).alloc (.cells #[.int .u64 y] 63) = W0 := ⟨_, rfl⟩
  have hsz : W0.heap.size = w.heap.size + 4 := by rw [← hW0]; simp
  have hI0 : TakeI w n y [] W0 := by
    rw [← hW0]
    have k1 := Boxed.new (w.alloc (.cells #[.int .u64 x] 63)) 3 (.int .i64 n)
    have k2 := Boxed.new (((w.alloc (.cells #[.int .u64 x] 63)).alloc (.cells #[.int .i64 n] 3)).drewN nq) 32 (.slice none 0 0)
    have k3 := Boxed.new ((((w.alloc (.cells #[.int .u64 x] 63)).alloc (.cells #[.int .i64 n] 3)).drewN nq).alloc (.cells #[.slice none 0 0] 32)) 63 (.int .u64 y)
    have ed : ∀ (W : World) (k : Nat), (W.drewN k).heap.size = W.heap.size := fun _ _ => rfl
    simp only [World.size_alloc, ed] at k1 k2 k3
    have k0 : Boxed (((w.alloc (.cells #[.int .u64 x] 63)).alloc (.cells #[.int .i64 n] 3)).drewN nq) w.heap.size 63 (.int .u64 x) := (Boxed.new w _ _).alloc _
    have k1' : Boxed (((w.alloc (.cells #[.int .u64 x] 63)).alloc (.cells #[.int .i64 n] 3)).drewN nq) (w.heap.size + 1) 3 (.int .i64 n) := k1
    exact ⟨⟨x, (k0.alloc _).alloc _⟩, (k1'.alloc _).alloc _, ⟨_, k2.alloc _, World.ownsRow_nil _ _ _ _⟩, k3, by simp, bAlloc (bAlloc (bDrewN (bAlloc (bAlloc (Below.refl _ _) _) _) nq) _) _⟩
  rw [hW0]
  clear hW0
  refine range_each (Bs := w.heap.size + 3) (s := y) rfl rfl hy (by omega) (TakeI w n) (TakeX w n)
    (fun c pre W h => ⟨h.b3.cell, h.b3.frozen, hT.kept h.below (Nat.le_refl _)⟩)
    (fun c c' pre W h => h.turn c')
    (fun c pre W l o o' h hl ho hc => h.put o' (by omega) ho hc)
    (fun cd pre W l o o' h hl ho hc => by
      obtain ⟨e, q, z, c, hq, hql, hi⟩ := h
      exact ⟨e, q, z, c, hq, hql, hi.put o' (by omega) ho hc⟩)
    (fun o o' => (hI0.alloc _).alloc _)
    (fun z => { tmps := #[.int .u64 x, .int .i64 n, .pointer (some ⟨w.heap.size, 0, none⟩), .pointer (some ⟨w.heap.size + 1, 0, none⟩), .slice none 0 0, .int .u64 0, .int .i64 0, .pointer (some ⟨w.heap.size + 2, 0, none⟩), .int .i64 z, .bool false, .int .i64 n, .bool false, .bool false, .int .i64 n, .int .u64 x, .int .i64 m, .int .i64 (64 - (m : Int)), .bool false, .int .u64 x, .int .u64 y, .func (.func 93) #[] #[.pointer (some ⟨w.heap.size + 3, 0, none⟩)], .int .i64 z, undef, undef, undef, undef, undef, undef, undef, undef, undef, undef, undef, undef, undef, undef], defers := [] }) ?assign ?body ?done ?stop
  case assign =>
    intro l z W K hK
    gi_wp2
    exact hK
  case body =>
    rintro l c pre z rest W hI hx
    have HI := Lib.hid hI
    obtain ⟨⟨y0, h0⟩, h1, ⟨v, h2, hr⟩, h3, hlen, hb⟩ := hI
    have c0 := h0.cell; have c1 := h1.cell; have c2 := h2.cell
    have f0 := h0.frozen; have f2 := h2.frozen
    obtain ⟨ao, cap, rfl⟩ := ownV hr
    have hzl : z < 64 := by
      have hm : z ∈ slots64 y := by rw [hx]; simp
      unfold slots64 at hm
      exact List.mem_range.1 (List.mem_filter.1 hm).1
    have hs4 := hb.size
    have h3lt := h3.lt
    clear hx
    by_cases hq : pre.length = n
    · have hq' : ((pre.length : Int) == (n : Int)) = true := by simp; omega
      have HQ := Lib.hid hq; clear hq
      gi_wp2
      exact ⟨KeepsOthers.refl _, rfl, pre, z, c, rfl, HQ.out, HI.out⟩
    · have hq' : ((pre.length : Int) == (n : Int)) = false := by simp; omega
      have hlt : pre.length < n := by omega
      have H0 := Lib.hid h0; have H1 := Lib.hid h1; have H3 := Lib.hid h3; have HT := Lib.hid hT
      clear hq h0 h1 h3 hT hyb hsc
      gi_wp2_with (gi_at_builtin; refine wpListIn_append_own _ rfl _ _ 32 rfl (w.heap.size + 4) 3 i0 (.int .i64 0) 1 8 Tryd.underlying32 hi hz0 hz1 hz2 rfl (by decide) _ _ _ rfl (hr.alloc _) ⟨W.heap.size, 0, none⟩ 1 1 [.int .i64 z] rfl rfl (cell_one_new _ _ _) (by simp [Value.oneCell']) (by unfold maxLen; omega) (by omega) (by simp; omega) ?_; intro v' w1 hown' hgrow _; obtain ⟨g', cap', rfl⟩ := ownsRow_succ hown'; obtain ⟨hv1, hv2, hr2, hk2, hb2, hoth⟩ := bxAppended (n₀ := w.heap.size) h2 hr (by omega) (by omega) (by omega) hown' hgrow; have hc1 := hv1.cell; have hf1 := hv1.frozen)
      have q0 := (hoth w.heap.size _ _ (by omega) (by omega) H0.out).2
      have q1 := (hoth (w.heap.size + 1) _ _ (by omega) (by omega) H1.out).2
      have q3 := (hoth (w.heap.size + 3) _ _ (by omega) (by omega) H3.out).2
      have hlq : (pre ++ [z]).length ≤ n := by simp; omega
      have HR : TakeI w n c (pre ++ [z]) (w1.setCell ⟨w.heap.size + 2, 0, none⟩ (.slice (some ⟨g', 0, none⟩) (pre.length + 1) cap')) := ⟨⟨_, q0⟩, q1, ⟨_, hv2, by simpa using hr2⟩, q3, hlq, hb.trans hb2⟩
      have HRR := Lib.hid HR; have HK := Lib.hid hk2
      have d0 := q0.cell; have d1 := q0.frozen
      clear q0 q1 q3 HR hk2 hv2 hr2 hoth hgrow hown' hc1 hf1 hv1 h2 hr c0 c1 c2 f0 f2 hb2 hb
      generalize w1.setCell ⟨w.heap.size + 2, 0, none⟩ (.slice (some ⟨g', 0, none⟩) (pre.length + 1) cap') = W9 at *
      gi_region_with_o (refine (CallsIn.inRound l (callsIn_wide.2 (seats_bit z hzl _))).mono ?_; rintro e w' ⟨rfl, rfl⟩)
      all_goals exact ⟨(HK.out.trans (KeepsOthers.setCell _ _ _)).trans (KeepsOthers.drew _), (HRR.out.word _).drew⟩
  case done =>
    rintro D c W hD hI hK
    obtain ⟨⟨y0, h0⟩, h1, ⟨v, h2, hr⟩, h3, hlen, hb⟩ := hI
    have c0 := h0.cell; have c2 := h2.cell
    have hl : (slots64 y).map (fun (k : Nat) => I (k : Int)) = ((freeL x).take n).map (fun (k : Nat) => I (k : Int)) ∧ (slots64 y).length = n := by
      have hf := freeL_eq hyb
      rw [hf] at hlen ⊢
      exact ⟨by rw [List.take_of_length_le (by omega)], by omega⟩
    have HL := Lib.hid hl
    clear hl hyb hsc h0 h1 h2 h3 hlen
    simp only [markE]
    gi_wp2
    gi_quiet (fail)
    gi_wp2
    refine ⟨by simp, .inl ⟨_, _, rfl, run_takeDeferred hK, ?_⟩⟩
    have hr' : (W.drewN nq).ownsRow (w.heap.size + 4) 3 1 v n (((freeL x).take n).map fun (k : Nat) => I (k : Int)) := by rw [← HL.out.1, ← HL.out.2]; exact hr
    exact ⟨.tuple #[v, .int .u64 y0, .int .i64 0], by simp [results, Tryd.results76, go_sem], v, y0, rfl, ownsRow_putObj hr' _ hK rfl, (bDrewN hb nq).trans ⟨rfl, rfl, rfl, by simp, fun i hi => World.putObj_heap_other (by omega)⟩⟩
  case stop =>
    rintro D cd pre W hD hpre ⟨rfl, q, z, c, rfl, hql, hI⟩ hK
    obtain ⟨⟨y0, h0⟩, h1, ⟨v, h2, hr⟩, h3, hlen, hb⟩ := hI
    have c0 := h0.cell; have c2 := h2.cell
    have hl : q.map (fun (k : Nat) => I (k : Int)) = ((freeL x).take n).map (fun (k : Nat) => I (k : Int)) ∧ q.length = n := by
      have hf := freeL_eq hyb
      rw [hf] at hpre
      obtain ⟨t, ht⟩ := hpre
      exact ⟨by rw [← ht, ← hql]; simp, hql⟩
    have HL := Lib.hid hl
    clear hl hyb hsc h0 h1 h2 h3 hlen
    simp only [markE]
    gi_wp2
    gi_quiet (fail)
    gi_wp2
    refine ⟨by simp, .inl ⟨_, _, rfl, run_takeDeferred hK, ?_⟩⟩
    have hr' : (W.drewN nq).ownsRow (w.heap.size + 4) 3 1 v n (((freeL x).take n).map fun (k : Nat) => I (k : Int)) := by rw [← HL.out.1, ← HL.out.2]; exact hr
    exact ⟨.tuple #[v, .int .u64 y0, .int .i64 0], by simp [results, Tryd.results76, go_sem], v, y0, rfl, ownsRow_putObj hr' _ hK rfl, (bDrewN hb nq).trans ⟨rfl, rfl, rfl, by simp, fun i hi => World.putObj_heap_other (by omega)⟩⟩
end Go.Proofs.YtodgcmakdndbfaaDoor
/-
  Plain: what Move computes: who leaves, the free places, who joins. No program, no world.
-/
namespace Cot
open Go.Proofs.YtodgcmakdndbfaaDoor
theorem scan_zero {r : Nat → Entry} {lv : Bool} : ∀ {l pre : List Int}, scanS r lv pre l = 0 → okTo r lv pre l l.length
  | [], _, _ => fun j x hj => absurd hj (by simp)
  | y :: l, pre, h => by
    unfold scanS at h
    by_cases h0 : personS r pre lv y = 0
    · rw [if_pos h0] at h
      intro j x hj hx
      match j with
      | 0 => simp at hx; subst hx; simpa using h0
      | j + 1 =>
        have := scan_zero h j x (by simpa using hj) (by simpa using hx)
        simpa using this
    · rw [if_neg h0] at h; exact absurd h h0
/-- A batch that fits. -/
structure FitsOK (r : Nat → Entry) (lv jn : List Int) : Prop where
  right : RightRoster r
  leaves : ∀ n x, lv[n]? = some x → (0 ≤ x ∧ x < 256) ∧ x ∉ lv.take n ∧ 0 ≤ findI r x
  joins : ∀ n x, jn[n]? = some x → (0 ≤ x ∧ x < 256) ∧ x ∉ lv ++ jn.take n ∧ ¬ 0 ≤ findI r x
  room : jn.length + cntOf (takenP r) 64 ≤ 64 + lv.length
theorem person_zero {r : Nat → Entry} {seen : List Int} {lv : Bool} {x : Int} (h : personS r seen lv x = 0) : (0 ≤ x ∧ x < 256) ∧ x ∉ seen ∧ decide (0 ≤ findI r x) = lv := by
  unfold personS at h
  by_cases h1 : x < 0 ∨ 256 ≤ x
  · rw [if_pos h1] at h; exact absurd h (by decide)
  · rw [if_neg h1] at h
    by_cases h2 : x ∈ seen
    · rw [if_pos h2] at h; exact absurd h (by decide)
    · rw [if_neg h2] at h
      by_cases h3 : decide (0 ≤ findI r x) = lv
      · exact ⟨by omega, h2, h3⟩
      · rw [if_neg h3] at h; cases lv <;> exact absurd h (by decide)
theorem fits_ok {r : Nat → Entry} {lv jn : List Int} (h : fitsS r lv jn = 0) : FitsOK r lv jn := by
  unfold fitsS at h
  by_cases h0 : RightRoster r
  · rw [if_neg (by simpa using h0)] at h
    by_cases h1 : scanS r true [] lv = 0
    · rw [if_neg (by simpa using h1)] at h
      by_cases h2 : scanS r false lv jn = 0
      · rw [if_neg (by simpa using h2)] at h
        have k1 := scan_zero h1
        have k2 := scan_zero h2
        refine ⟨h0, fun n x hx => ?_, fun n x hx => ?_, ?_⟩
        · obtain ⟨a, b, c⟩ := person_zero (k1 n x (List.getElem?_eq_some_iff.1 hx).1 hx)
          exact ⟨a, by simpa using b, by simpa using c⟩
        · obtain ⟨a, b, c⟩ := person_zero (k2 n x (List.getElem?_eq_some_iff.1 hx).1 hx)
          exact ⟨a, b, by simpa using c⟩
        · by_cases h3 : (64 : Int) - cntOf (takenP r) 64 + lv.length < jn.length
          · rw [if_pos h3] at h; exact absurd h (by decide)
          · omega
      · rw [if_pos (by simpa using h2)] at h; exact absurd h h2
    · rw [if_pos (by simpa using h1)] at h; exact absurd h h1
  · rw [if_pos h0] at h; exact absurd h (by decide)

/-! ### who leaves -/
def seatsOf (r : Nat → Entry) (lv : List Int) : List Seat := lv.map fun x => ⟨x, findI r x⟩
def goneR (r : Nat → Entry) (l : List Int) : Nat → Entry := fun s => if takenP r s && l.contains (r s).who then Entry.zero else r s
theorem gone_nil (r : Nat → Entry) : goneR r [] = r := by funext s; simp [goneR]
theorem findI_nat {r : Nat → Entry} {x : Int} (h : 0 ≤ findI r x) : ∃ n : Nat, n < 64 ∧ findI r x = n ∧ takenP r n = true ∧ (r n).who = x := by
  rw [findI_eq] at h ⊢
  rcases firstI_cases (whoP r x) with ⟨n, hn, e, hp, _⟩ | ⟨e, _⟩
  · unfold whoP at hp
    simp only [Bool.and_eq_true, beq_iff_eq] at hp
    exact ⟨n, hn, e, hp.1, hp.2⟩
  · rw [e] at h; exact absurd h (by decide)
theorem taken_gone {r : Nat → Entry} {l : List Int} (s : Nat) : takenP (goneR r l) s = (takenP r s && !l.contains (r s).who) := by
  show decide ((goneR r l s).base ≠ 0) = _
  unfold goneR
  by_cases h : (takenP r s && l.contains (r s).who) = true
  · rw [if_pos h]
    have h2 := h
    rw [Bool.and_eq_true] at h2
    rw [h2.1, h2.2]; rfl
  · rw [if_neg h]
    show takenP r s = _
    cases ht : takenP r s
    · rfl
    · rw [ht] at h; simp at h; simp [h]
theorem find_gone {r : Nat → Entry} {l : List Int} {x : Int} (hx : x ∉ l) : findI (goneR r l) x = findI r x := by
  rw [findI_eq, findI_eq]
  congr 1
  funext s
  unfold whoP
  rw [taken_gone]
  by_cases h : (takenP r s && l.contains (r s).who) = true
  · have hw : (r s).who ≠ x := by
      intro e; rw [e] at h; simp at h; exact hx h.2
    have h2 := h
    rw [Bool.and_eq_true] at h2
    rw [h2.1, h2.2]
    have : ((r s).who == x) = false := by simpa using hw
    simp [this]
  · have e : goneR r l s = r s := by unfold goneR; rw [if_neg h]
    rw [e]
    cases ht : takenP r s
    · rfl
    · rw [ht] at h; simp at h; simp [h]
theorem right_who {r : Nat → Entry} (hR : RightRoster r) {i j : Nat} (hi : i < 64) (hj : j < 64) (ti : takenP r i = true) (tj : takenP r j = true) (h : (r i).who = (r j).who) : i = j := by
  unfold takenP at ti tj
  simp only [decide_eq_true_eq] at ti tj
  have zero : ∀ k, r k = Entry.zero → (r k).base = 0 := fun k e => by rw [e]; rfl
  rcases Nat.lt_trichotomy i j with h1 | h1 | h1
  · rcases hR j hj with e | ⟨_, e⟩
    · exact absurd (zero j e) tj
    · rcases e i h1 with e | e
      · exact absurd (zero i e) ti
      · exact absurd h e.1
  · exact h1
  · rcases hR i hi with e | ⟨_, e⟩
    · exact absurd (zero i e) ti
    · rcases e j h1 with e | e
      · exact absurd (zero j e) tj
      · exact absurd h.symm e.1
theorem gone_snoc {r : Nat → Entry} (hR : RightRoster r) {l : List Int} {x : Int} {n : Nat} (hn : n < 64) (ht : takenP r n = true) (hw : (r n).who = x) : ∀ s, s < 64 → upd (goneR r l) n Entry.zero s = goneR r (l ++ [x]) s := by
  intro s hs
  by_cases h : s = n
  · subst h
    rw [upd_same]; unfold goneR
    rw [if_pos (by simp [ht, hw])]
  · rw [upd_other _ _ _ h]
    unfold goneR
    by_cases hts : takenP r s = true
    · have hne : (r s).who ≠ x := fun e => h (right_who hR hs hn hts ht (e.trans hw.symm))
      have e : (l ++ [x]).contains (r s).who = l.contains (r s).who := by
        rw [Bool.eq_iff_iff]; simp [hne]
      rw [e]
    · have : takenP r s = false := by simpa using hts
      simp [this]
theorem cnt_flip {p q : Nat → Bool} {n : Nat} (hp : p n = true) (hq : q n = false) (h : ∀ s, s ≠ n → p s = q s) : ∀ m, n < m → cntOf p m = cntOf q m + 1
  | 0, hm => by omega
  | m + 1, hm => by
    unfold cntOf
    by_cases hmn : n = m
    · subst hmn
      have : cntOf p n = cntOf q n := cntOf_congr (fun i hi => h i (by omega))
      simp [hp, hq, this]
    · rw [cnt_flip hp hq h m (by omega), h m (by omega)]; omega
theorem cnt_gone {r : Nat → Entry} {lv jn : List Int} (F : FitsOK r lv jn) : ∀ k, k ≤ lv.length → cntOf (takenP (goneR r (lv.take k))) 64 + k = cntOf (takenP r) 64
  | 0, _ => by rw [List.take_zero, gone_nil]; rfl
  | k + 1, hk => by
    obtain ⟨x, hx⟩ : ∃ x, lv[k]? = some x := ⟨lv[k], by simp⟩
    obtain ⟨_, hno, hf⟩ := F.leaves k x hx
    obtain ⟨n, hn, _, ht, hw⟩ := findI_nat hf
    have ih := cnt_gone F k (by omega)
    rw [take_snoc' hx]
    have := cnt_flip (p := takenP (goneR r (lv.take k))) (q := takenP (goneR r (lv.take k ++ [x]))) (n := n)
      (by rw [taken_gone, ht, hw]; simpa using hno) (by rw [taken_gone, ht, hw]; simp)
    have h2 := cntOf_congr (p := takenP (goneR r (lv.take k ++ [x]))) (q := fun s => if s = n then false else takenP (goneR r (lv.take k)) s) (n := 64) (by
      intro s hs
      have e := gone_snoc F.right hn ht hw s hs (l := lv.take k)
      unfold takenP at *
      rw [← e]
      by_cases h : s = n
      · subst h; simp [upd_same, Entry.zero]
      · simp [upd_other _ _ _ h, h])
    have h3 := cnt_flip (p := takenP (goneR r (lv.take k))) (q := fun s => if s = n then false else takenP (goneR r (lv.take k)) s) (n := n)
      (by rw [taken_gone, ht, hw]; simpa using hno) (by simp) (fun s h => by simp [h]) 64 hn
    rw [h2]; omega
theorem lv_len {r : Nat → Entry} {lv jn : List Int} (F : FitsOK r lv jn) : lv.length ≤ 64 := by
  have h := cnt_gone F lv.length (Nat.le_refl _)
  have h2 := cntOf_le (takenP r) 64
  omega
theorem jn_len {r : Nat → Entry} {lv jn : List Int} (F : FitsOK r lv jn) : jn.length ≤ 64 := by
  have h := cnt_gone F lv.length (Nat.le_refl _)
  have h2 := F.room
  omega

/-! ### the free places -/
def freeP (p : Nat → Bool) : List Nat := (List.range 64).filter fun i => !p i
theorem freeL_taken (r : Nat → Entry) : freeL (takenN r) = freeP (takenP r) := by
  unfold freeL freeP takenN
  apply List.filter_congr
  intro i hi
  rw [testBit_bitsOf]; simp [List.mem_range.1 hi]
theorem free_cnt (p : Nat → Bool) : (freeP p).length + cntOf p 64 = 64 := by
  have h : ∀ n, ((List.range n).filter fun i => !p i).length + cntOf p n = n := by
    intro n
    induction n with
    | zero => rfl
    | succ n ih =>
      rw [List.range_succ, List.filter_append, List.length_append]
      unfold cntOf
      cases hp : p n <;> simp [hp] <;> omega
  exact h 64
theorem free_mem {p : Nat → Bool} {s : Nat} : s ∈ freeP p ↔ s < 64 ∧ p s = false := by
  unfold freeP; rw [List.mem_filter, List.mem_range]; simp
theorem free_sorted (p : Nat → Bool) : (freeP p).Pairwise (· < ·) := by
  unfold freeP; exact List.Pairwise.filter _ List.pairwise_lt_range
theorem free_at {p : Nat → Bool} {k s : Nat} (h : (freeP p)[k]? = some s) : s < 64 ∧ p s = false := free_mem.1 (List.mem_of_getElem? h)
theorem free_lt {p : Nat → Bool} {i j s t : Nat} (hi : (freeP p)[i]? = some s) (hj : (freeP p)[j]? = some t) (h : i < j) : s < t := by
  obtain ⟨h1, rfl⟩ := List.getElem?_eq_some_iff.1 hi
  obtain ⟨h2, rfl⟩ := List.getElem?_eq_some_iff.1 hj
  exact List.pairwise_iff_getElem.1 (free_sorted p) i j h1 h2 h
theorem free_take {p : Nat → Bool} {k s : Nat} (hs : s < 64) : (freeP p)[k]? = some s → p s = false ∧ s ∉ (freeP p).take k ∧ ∀ j, j < s → p j = true ∨ j ∈ (freeP p).take k := by
  intro h
  refine ⟨(free_at h).2, fun hm => ?_, fun j hj => ?_⟩
  · obtain ⟨i, hi⟩ := List.getElem?_of_mem hm
    rw [List.getElem?_take] at hi
    split at hi
    · rename_i hik
      exact absurd (free_lt hi h hik) (by omega)
    · cases hi
  · by_cases hp : p j = true
    · exact .inl hp
    · refine .inr ?_
      have hm : j ∈ freeP p := free_mem.2 ⟨by omega, by simpa using hp⟩
      obtain ⟨i, hi⟩ := List.getElem?_of_mem hm
      rcases Nat.lt_trichotomy i k with h1 | h1 | h1
      · exact List.mem_of_getElem? (i := i) (by rw [List.getElem?_take, if_pos h1]; exact hi)
      · subst h1; rw [h] at hi; cases hi; omega
      · exact absurd (free_lt h hi h1) (by omega)

/-! ### who joins -/
def joinR (r : Nat → Entry) (fl : List Nat) (jn : List Int) (since base : Int) : Nat → Nat → Entry
  | 0 => r
  | k + 1 => upd (joinR r fl jn since base k) (fl.getD k 0) ⟨jn.getD k 0, base + k, since⟩
def joinL (fl : List Nat) (jn : List Int) (k : Nat) : List Seat := (List.range k).map fun i => ⟨jn.getD i 0, (fl.getD i 0 : Nat)⟩
theorem joinL_succ (fl : List Nat) (jn : List Int) (k : Nat) : joinL fl jn (k + 1) = joinL fl jn k ++ [⟨jn.getD k 0, (fl.getD k 0 : Nat)⟩] := by
  unfold joinL; rw [List.range_succ, List.map_append]; rfl
theorem joinL_len (fl : List Nat) (jn : List Int) (k : Nat) : (joinL fl jn k).length = k := by unfold joinL; simp
theorem taken_join {r : Nat → Entry} {fl : List Nat} {jn : List Int} {since base : Int} (hb : 1 ≤ base) : ∀ k, k ≤ fl.length → ∀ s, takenP (joinR r fl jn since base k) s = (takenP r s || (fl.take k).contains s)
  | 0, _, s => by simp [joinR]
  | k + 1, hk, s => by
    obtain ⟨x, hx⟩ : ∃ x, fl[k]? = some x := ⟨fl[k], by simp⟩
    have ih := taken_join hb k (by omega) s (r := r) (fl := fl) (jn := jn) (since := since)
    have hg : fl.getD k 0 = x := by simp [List.getD, hx]
    rw [take_snoc' hx]
    show takenP (upd _ (fl.getD k 0) _) s = _
    rw [hg]
    by_cases h : s = x
    · subst h
      have : takenP (upd (joinR r fl jn since base k) s ⟨jn.getD k 0, base + k, since⟩) s = true := by
        unfold takenP; rw [upd_same]; simp; omega
      rw [this]; simp
    · have : takenP (upd (joinR r fl jn since base k) x ⟨jn.getD k 0, base + k, since⟩) s = takenP (joinR r fl jn since base k) s := by
        unfold takenP; rw [upd_other _ _ _ h]
      rw [this, ih]
      have e : (List.take k fl ++ [x]).contains s = (List.take k fl).contains s := by rw [Bool.eq_iff_iff]; simp [h]
      rw [e]
/-- The least free place behind k joins. -/
theorem join_least {r : Nat → Entry} {jn : List Int} {since base : Int} (hb : 1 ≤ base) {k s : Nat} (h : (freeP (takenP r))[k]? = some s) :
    s < 64 ∧ takenP (joinR r (freeP (takenP r)) jn since base k) s = false ∧ ∀ j, j < s → takenP (joinR r (freeP (takenP r)) jn since base k) j = true := by
  have hk := (List.getElem?_eq_some_iff.1 h).1
  have hs := (free_at h).1
  obtain ⟨h1, h2, h3⟩ := free_take hs h
  refine ⟨hs, ?_, fun j hj => ?_⟩
  · rw [taken_join hb k (by omega), h1]; simpa using h2
  · rw [taken_join hb k (by omega)]
    rcases h3 j hj with e | e
    · rw [e]; rfl
    · simp [e]
def moveR (r : Nat → Entry) (lv jn : List Int) (since base : Int) : Nat → Entry := joinR (goneR r lv) (freeP (takenP (goneR r lv))) jn since base jn.length
def moveJ (r : Nat → Entry) (lv jn : List Int) : List Seat := joinL (freeP (takenP (goneR r lv))) jn jn.length
theorem free_room {r : Nat → Entry} {lv jn : List Int} (F : FitsOK r lv jn) : jn.length ≤ (freeP (takenP (goneR r lv))).length := by
  have h := cnt_gone F lv.length (Nat.le_refl _)
  rw [List.take_length] at h
  have h2 := free_cnt (takenP (goneR r lv))
  have h3 := F.room
  omega
end Cot
