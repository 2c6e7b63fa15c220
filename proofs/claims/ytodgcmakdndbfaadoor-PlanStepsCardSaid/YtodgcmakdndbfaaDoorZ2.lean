/-
  Parts of a proof: Maps, Spec, Shape, Shape2. Merged by program.
-/
import Derived.Test.YtodgcmakdndbfaaDoorZ1
import Derived.Maps.Own
import Derived.Maps.OwnOps
import Derived.Maps.OwnSet
import Derived.Maps.Views
import Derived.Lib.Hide
import Derived.Deep.RegionWith
import Derived.Deep.QuietTactic
import Derived.BigQuiet
/-
  Maps from int to int that the call makes: what a map holds at a key as a function of the world ('mapFn'), the look-up and the store as equations on the operation's run.
-/
namespace Go.Proofs.YtodgcmakdndbfaaDoor
open Go.RowKit Go.Maps Cot

def I64 (n : Int) : Prop := -9223372036854775808 ≤ n ∧ n ≤ 9223372036854775807
theorem I64.wf {n : Int} (h : I64 n) : (Lit.int .i64 n).wf = true := WalkArith.wf_i64 h
theorem mapLaw : Keyed Tryd.prog 3 := int_keyed Tryd.underlying3
theorem zeroInt (w : World) : (zeroValue 3).run Tryd.prog w = .ok (.int .i64 0) w := by kernel_rfl
theorem keyInt {n : Int} (h : I64 n) : keyOf Tryd.prog 3 (.int .i64 n) = some (.int .i64 n) := keyOf_int_mk Tryd.underlying3 h.wf

/-- Block b is a map from int to int of at most n entries. -/
def isII (w : World) (b n : Nat) : Prop := ∃ D : DataW Unit, w.ownsMap Tryd.prog 3 (plainElem Tryd.prog 3) b n D
/-- What a datum holds at a key. -/
def litOf : DataW Unit → Int | .lit (.int _ v) => v | _ => 0
def datFn (D : DataW Unit) (k : Int) : Option Int := if Maps.has D (.int .i64 k) then some (litOf (D.atKey (.int .i64 k) .nil)) else none
noncomputable def datOf (w : World) (b : Nat) : DataW Unit := match w.heap[b]? with | some (.map es _) => .map ((es.toList.map (WideElems.rg Tryd.prog 3 (plainElem Tryd.prog 3))).foldr DataW.insert []) | _ => .nil
/-- What the map in block b holds at a key. -/
noncomputable def mapFn (w : World) (b : Nat) (k : Int) : Option Int := datFn (datOf w b) k
theorem datOf_own {w : World} {b n : Nat} {D : DataW Unit} (h : w.ownsMap Tryd.prog 3 (plainElem Tryd.prog 3) b n D) : datOf w b = D := by
  obtain ⟨es, clock, hb, _, _, rfl⟩ := h
  simp [datOf, hb]
theorem isII.own {w : World} {b n : Nat} (h : isII w b n) : w.ownsMap Tryd.prog 3 (plainElem Tryd.prog 3) b n (datOf w b) := by
  obtain ⟨D, h⟩ := h
  rw [datOf_own h]; exact h
theorem isII.lt {w : World} {b n : Nat} (h : isII w b n) : b < w.heap.size := h.own.lt
theorem isII.mono {w : World} {b n m : Nat} (h : isII w b n) (hm : n ≤ m) : isII w b m := let ⟨D, h⟩ := h; ⟨D, h.mono hm⟩
theorem isII_of_block {w w' : World} {b n : Nat} (h : w'.heap[b]? = w.heap[b]?) : isII w' b n ↔ isII w b n := by
  unfold isII World.ownsMap
  simp only [h]
theorem mapFn_of_block {w w' : World} {b : Nat} (h : w'.heap[b]? = w.heap[b]?) (k : Int) : mapFn w' b k = mapFn w b k := by
  unfold mapFn datOf; rw [h]
theorem isII.kept {w w' : World} {b n B : Nat} (h : isII w b n) (hb : Below B w w') (hB : b < B) : isII w' b n := (isII_of_block (hb.block b hB)).2 h
theorem mapFn_kept {w w' : World} {b B : Nat} (hb : Below B w w') (hB : b < B) : mapFn w' b = mapFn w b := funext fun k => mapFn_of_block (hb.block b hB) k

/-- The look-up: what comes back. -/
theorem isII.look {w : World} {b n : Nat} (h : isII w b n) {k : Int} (hk : I64 k) : (Instr.lookup 52 (.map (some b)) (.int .i64 k) true).run Tryd.prog w = .ok (.tuple #[.int .i64 ((mapFn w b k).getD 0), .bool (mapFn w b k).isSome]) w ∧
    (Instr.lookup 52 (.map (some b)) (.int .i64 k) false).run Tryd.prog w = .ok (.int .i64 ((mapFn w b k).getD 0)) w := by
  have own := h.own
  obtain ⟨v, ps, h1, h2⟩ := own.look_ok mapLaw Tryd.underlying52 (zeroInt w) (plainElem_int Tryd.underlying3 (by decide)) (keyInt hk)
  obtain ⟨c, h3, h4, _⟩ := own.lookup_int mapLaw Tryd.underlying52 Tryd.underlying3 (zeroInt w) (keyInt hk)
  obtain ⟨a, rfl, h6, _⟩ := plainElem_int_inv Tryd.underlying3 h2
  simp only [Prod.mk.injEq] at h6
  have ha : a = c := by rw [h4] at h6; have := h6.1; simp at this; exact this.symm
  subst ha
  have hv : (mapFn w b k).getD 0 = a ∧ (mapFn w b k).isSome = Maps.has (datOf w b) (.int .i64 k) := by
    unfold mapFn datFn
    by_cases hh : Maps.has (datOf w b) (.int .i64 k) = true
    · rw [if_pos hh, hh]
      refine ⟨?_, rfl⟩
      have e : (datOf w b).atKey (.int .i64 k) .nil = (datOf w b).atKey (.int .i64 k) (.lit (.int .i64 0)) := by
        obtain ⟨es, hes⟩ := own.isMap
        rw [hes] at hh ⊢
        simp only [Maps.has, List.any_eq_true] at hh
        obtain ⟨p, hp, hs⟩ := hh
        unfold DataW.atKey
        cases hf : es.find? (fun p => p.1.sameKey (.int .i64 k)) with
        | none => exact absurd hs (by have := List.find?_eq_none.1 hf p hp; simpa using this)
        | some q => simp only [hf]
      rw [e, h4]; rfl
    · rw [if_neg hh]
      have hf : Maps.has (datOf w b) (.int .i64 k) = false := by simpa using hh
      rw [hf]
      refine ⟨?_, rfl⟩
      have := Maps.atKey_of_not_has hf (.lit (.int .i64 0))
      rw [h4] at this
      simp at this
      simp [this]
  rw [hv.1, hv.2]
  exact ⟨h1, h3⟩

/-! The world behind 'm[k] = v', written out. -/
def isK (k : Int) (e : MapEntry) : Bool := match e.key with | .int .i64 x => x == k | _ => false
theorem isK_iff (k : Int) (e : MapEntry) : isK k e = true ↔ e.key = .int .i64 k := by
  unfold isK; split
  · rename_i x h; rw [h]; simp
  · rename_i h; constructor
    · intro e; cases e
    · intro e1; exact absurd e1 (h k)
def putEs (es : Array MapEntry) (clock : Nat) (k v : Int) : Obj :=
  match es.toList.findIdx? (isK k) with
  | some i => .map (es.modify i fun e => { e with key := .int .i64 k, val := .int .i64 v }) clock
  | none => .map (es.push { key := .int .i64 k, val := .int .i64 v, born := clock }) (clock + 1)
def putObj (k v : Int) : Obj → Obj
  | .map es clock => putEs es clock k v
  | o => o
def mapPut (w : World) (b : Nat) (k v : Int) : World := { w with heap := w.heap.modify b (putObj k v) }
theorem putEs_map (es : Array MapEntry) (clock : Nat) (k v : Int) : ∃ es' clock', putEs es clock k v = .map es' clock' := by
  unfold putEs; split <;> exact ⟨_, _, rfl⟩
section
variable (w : World) (b : Nat) (k v : Int)
@[go_sem] theorem mapPut_size : (mapPut w b k v).heap.size = w.heap.size := by simp [mapPut]
@[go_sem] theorem mapPut_tape : (mapPut w b k v).tape = w.tape := rfl
theorem mapPut_heap (i : Nat) : (mapPut w b k v).heap[i]? = if b = i then (w.heap[i]?).map (putObj k v) else w.heap[i]? := by
  simp only [mapPut, Array.getElem?_modify]
theorem mapPut_other {i : Nat} (h : i ≠ b) : (mapPut w b k v).heap[i]? = w.heap[i]? := by rw [mapPut_heap, if_neg (fun e => h e.symm)]
@[go_sem] theorem mapPut_cell (a : Addr) : (mapPut w b k v).cell? a = w.cell? a := by
  by_cases h : a.block = b
  · unfold World.cell?
    rw [mapPut_heap, if_pos h.symm]
    cases ho : w.heap[a.block]? with
    | none => rfl
    | some o =>
      cases o <;> simp only [Option.map_some, putObj]
      rename_i es clock
      obtain ⟨es', c', e⟩ := putEs_map es clock k v
      rw [e]
  · exact World.cell?_of_block (mapPut_other w b k v h)
@[go_sem] theorem mapPut_frozen (a : Addr) : (mapPut w b k v).frozen? a = w.frozen? a := by
  by_cases h : a.block = b
  · unfold World.frozen?
    rw [mapPut_heap, if_pos h.symm]
    cases ho : w.heap[a.block]? with
    | none => rfl
    | some o =>
      cases o <;> simp only [Option.map_some, putObj]
      rename_i es clock
      obtain ⟨es', c', e⟩ := putEs_map es clock k v
      rw [e]
  · exact World.frozen?_of_block (mapPut_other w b k v h)
@[go_sem] theorem mapPut_cellsAt (a : Addr) (n : Nat) : cellsAt (mapPut w b k v) a n = cellsAt w a n := by
  by_cases h : a.block = b
  · unfold cellsAt
    rw [mapPut_heap, if_pos h.symm]
    cases ho : w.heap[a.block]? with
    | none => rfl
    | some o =>
      cases o <;> simp only [Option.map_some, putObj]
      rename_i es clock
      obtain ⟨es', c', e⟩ := putEs_map es clock k v
      rw [e]
  · unfold cellsAt; rw [mapPut_other w b k v h]
@[go_sem] theorem mapPut_rowOf (i n : Nat) : rowOf (mapPut w b k v) i n = rowOf w i n := by
  by_cases h : i = b
  · unfold rowOf
    rw [mapPut_heap, if_pos h.symm]
    cases ho : w.heap[i]? with
    | none => rfl
    | some o =>
      cases o <;> simp only [Option.map_some, putObj]
      rename_i es clock
      obtain ⟨es', c', e⟩ := putEs_map es clock k v
      rw [e]
  · unfold rowOf; rw [mapPut_other w b k v h]
@[go_sem] theorem mapPut_alloc (o : Obj) (h : b < w.heap.size) : mapPut (w.alloc o) b k v = (mapPut w b k v).alloc o := by
  simp only [mapPut, World.alloc]
  congr 1
  apply Array.ext
  · simp
  · intro i h1 h2
    simp only [Array.getElem_modify, Array.getElem_push, Array.size_modify]
    split <;> split <;> simp_all <;> omega
@[go_sem] theorem mapPut_drew : mapPut w.drew b k v = (mapPut w b k v).drew := rfl
end
theorem fit_uniq {es : Array MapEntry} {clock : Nat} {R : Value → Option (DataW Unit × List MemPlace)} (F : WideElems.Fit Tryd.prog 3 R es clock) {k : Int} (hk : I64 k) {j : Nat} {e0 : MapEntry} (hj : es.toList[j]? = some e0) (hkey : e0.key = .int .i64 k) : es.toList.findIdx? (isK k) = some j := by
  have hap := Maps.fit_apart mapLaw F
  cases hf : es.toList.findIdx? (isK k) with
  | none =>
    have := List.findIdx?_eq_none_iff.1 hf e0 (List.mem_of_getElem? hj)
    rw [(isK_iff k e0).2 hkey] at this; cases this
  | some i =>
    obtain ⟨hi, hp, _⟩ := List.findIdx?_eq_some_iff_getElem.1 hf
    have hki := (isK_iff k _).1 hp
    obtain ⟨hjlt, hje⟩ := List.getElem?_eq_some_iff.1 hj
    congr 1
    by_cases hij : i = j
    · exact hij
    · exfalso
      rw [List.pairwise_map] at hap
      have hrg : ∀ x ∈ es.toList, x.key = .int .i64 k → (WideElems.rg Tryd.prog 3 R x).1 = .int .i64 k := by
        intro x hx hxk
        obtain ⟨y, hy⟩ := F.reads x hx
        have m := WideElems.rd_key hy
        rw [WideElems.rg_of hy]
        rw [hxk, keyInt hk] at m
        exact (Option.some.inj m).symm
      have e1 := hrg _ (List.getElem_mem hi) hki
      have e2 := hrg _ (List.getElem_mem hjlt) (by rw [hje]; exact hkey)
      rcases Nat.lt_or_gt_of_ne hij with hlt | hlt
      · exact List.pairwise_iff_getElem.1 hap i j hi hjlt hlt (e1.trans e2.symm)
      · exact List.pairwise_iff_getElem.1 hap j i hjlt hi hlt (e2.trans e1.symm)
theorem set_eq_modify {h : Array Obj} {b : Nat} {x o : Obj} {f : Obj → Obj} (hb : h[b]? = some x) (hf : f x = o) : h.setIfInBounds b o = h.modify b f := by
  apply Array.ext_getElem?
  intro i
  rw [Array.getElem?_modify, Array.getElem?_setIfInBounds]
  by_cases hi : b = i
  · subst hi
    have hlt := (Array.getElem?_eq_some_iff.1 hb).1
    simp only [if_true, hb, Option.map_some, hf]
    rw [if_pos hlt]
  · rw [if_neg hi, if_neg hi]
theorem isII.put {w : World} {b n : Nat} (h : isII w b n) (hn : n < maxLen) {k v : Int} (hk : I64 k) (hv : I64 v) :
    (Instr.mapUpdate 52 (.map (some b)) (.int .i64 k) (.int .i64 v)).run Tryd.prog w = .ok () (mapPut w b k v) ∧ isII (mapPut w b k v) b (n + 1) ∧
    ∀ x, mapFn (mapPut w b k v) b x = if x = k then some v else mapFn w b x := by
  have own := h.own
  obtain ⟨w', h1, h2, h3⟩ := own.store mapLaw Tryd.underlying52 hn (keyInt hk) (plainElem_int Tryd.underlying3 hv.wf)
  have hw : w' = mapPut w b k v := by
    obtain ⟨es, clock, hb, F, _, _⟩ := own
    have hset : ∀ o, putObj k v (.map es clock) = o → { w with heap := w.heap.setIfInBounds b o } = mapPut w b k v := by
      intro o ho
      exact congrArg (fun h => ({ w with heap := h } : World)) (set_eq_modify hb ho)
    rcases mapLaw.find w (keyInt hk) es.toList F.keys with ⟨hf, hno⟩ | ⟨j, e0, hf, hj, hkey⟩
    · have hr : (Instr.mapUpdate 52 (.map (some b)) (.int .i64 k) (.int .i64 v)).run Tryd.prog w = .ok () { w with heap := w.heap.setIfInBounds b (.map (es.push ⟨.int .i64 k, .int .i64 v, clock⟩) (clock + 1)) } := by
        simp [Instr.mapUpdate, run_underlying Tryd.underlying52, MapKept.run_getObj_map hb, mapLaw.check w false (keyInt hk), hf, MapKept.run_setObj_map _ hb, Result.andThen]
      rw [hr] at h1
      have := hset (.map (es.push ⟨.int .i64 k, .int .i64 v, clock⟩) (clock + 1)) (by
        simp only [putObj, putEs]
        rw [List.findIdx?_eq_none_iff.2 (fun x hx => by
          cases hq : isK k x with
          | false => rfl
          | true => exact absurd ((isK_iff k x).1 hq) (hno x hx))])
      rw [← this]
      exact (Result.ok.inj h1).2.symm
    · have hr : (Instr.mapUpdate 52 (.map (some b)) (.int .i64 k) (.int .i64 v)).run Tryd.prog w = .ok () { w with heap := w.heap.setIfInBounds b (.map (es.modify j fun e => { e with key := .int .i64 k, val := .int .i64 v }) clock) } := by
        have hj' : es[j]? = some e0 := by simpa using hj
        have hs : Instr.sameBits 10000 (.int .i64 k) (.int .i64 k) = true := by simp [Instr.sameBits]
        simp [Instr.mapUpdate, run_underlying Tryd.underlying52, MapKept.run_getObj_map hb, mapLaw.check w false (keyInt hk), hf, MapKept.run_setObj_map _ hb, Result.andThen, hj', hkey, Instr.keyThatStays, hs]
      rw [hr] at h1
      have := hset (.map (es.modify j fun e => { e with key := .int .i64 k, val := .int .i64 v }) clock) (by
        simp only [putObj, putEs]
        rw [fit_uniq F hk hj hkey])
      rw [← this]
      exact (Result.ok.inj h1).2.symm
  subst hw
  refine ⟨h1, ⟨_, h2⟩, fun x => ?_⟩
  unfold mapFn
  rw [datOf_own h2]
  unfold datFn
  by_cases hx : x = k
  · subst hx
    rw [Maps.has_put_same own.isMap (mapLaw.key (keyInt hk)), Maps.atKey_put_same own.isMap (mapLaw.key (keyInt hk))]
    simp [litOf]
  · rw [if_neg hx, Maps.has_put_other (by simpa using hx), Maps.atKey_put_other (by simpa using hx)]

/-! For the walk: equations on runs. -/
def isM (w : World) (b : Nat) : Prop := ∃ n, n < maxLen ∧ isII w b n
theorem isII.m {w : World} {b n : Nat} (h : isII w b n) (hn : n < 4611686018427387904) : isM w b := ⟨n, by unfold maxLen; omega, h⟩
def lkMap (m k : Value) (c : Bool) : Sem Value := Instr.lookup 52 m k c
def upMap (m k v : Value) : Sem Unit := Instr.mapUpdate 52 m k v
/-- The same, under another name (so that the equation below is no rule of itself). -/
def upMap' (m k v : Value) : Sem Unit := upMap m k v
@[go_sem ↓] theorem lookup_at (m k : Value) (c : Bool) : Instr.lookup 52 m k c = lkMap m k c := rfl
@[go_sem ↓] theorem update_at (m k v : Value) : Instr.mapUpdate 52 m k v = upMap m k v := rfl
def lkMap' (m k : Value) (c : Bool) : Sem Value := Instr.lookup 52 m k c
noncomputable instance (w : World) (b : Nat) (k : Int) : Decidable (isM w b ∧ I64 k) := Classical.propDecidable _
@[go_sem] theorem run_lkMap (w : World) (b : Nat) (k : Int) : (lkMap (.map (some b)) (.int .i64 k) false).run Tryd.prog w =
    if isM w b ∧ I64 k then .ok (.int .i64 ((mapFn w b k).getD 0)) w else (lkMap' (.map (some b)) (.int .i64 k) false).run Tryd.prog w := by
  split
  · rename_i h; obtain ⟨⟨n, _, h⟩, hk⟩ := h; exact (h.look hk).2
  · rfl
@[go_sem] theorem run_lkMap_ok (w : World) (b : Nat) (k : Int) : (lkMap (.map (some b)) (.int .i64 k) true).run Tryd.prog w =
    if isM w b ∧ I64 k then .ok (.tuple #[.int .i64 ((mapFn w b k).getD 0), .bool (mapFn w b k).isSome]) w else (lkMap' (.map (some b)) (.int .i64 k) true).run Tryd.prog w := by
  split
  · rename_i h; obtain ⟨⟨n, _, h⟩, hk⟩ := h; exact (h.look hk).1
  · rfl
@[go_sem] theorem run_upMap (w : World) (b : Nat) (k v : Int) : (upMap (.map (some b)) (.int .i64 k) (.int .i64 v)).run Tryd.prog w =
    if isM w b ∧ I64 k then (if -1152921504606846976 ≤ v ∧ v ≤ 1152921504606846976 then .ok () (mapPut w b k v) else (upMap' (.map (some b)) (.int .i64 k) (.int .i64 v)).run Tryd.prog w) else (upMap' (.map (some b)) (.int .i64 k) (.int .i64 v)).run Tryd.prog w := by
  split
  · rename_i h; obtain ⟨⟨n, hn, h⟩, hk⟩ := h
    split
    · rename_i hv
      exact (h.put hn hk ⟨by omega, by omega⟩).1
    · rfl
  · rfl
section
variable (w : World) (b : Nat)
@[go_sem] theorem isM_alloc (o : Obj) (h : b < w.heap.size) : isM (w.alloc o) b ↔ isM w b := by
  unfold isM; simp only [isII_of_block (Below.heap_alloc w o b h)]
@[go_sem] theorem isM_drew : isM w.drew b ↔ isM w b := Iff.rfl
@[go_sem] theorem isM_setCell (a : Addr) (v : Value) (h : b ≠ a.block) : isM (w.setCell a v) b ↔ isM w b := by
  unfold isM; simp only [isII_of_block (Below.heap_setCell w a v b h)]
@[go_sem] theorem isM_put_other (c : Nat) (k v : Int) (h : b ≠ c) : isM (mapPut w c k v) b ↔ isM w b := by
  unfold isM; simp only [isII_of_block (mapPut_other w c k v h)]
@[go_sem] theorem mapFn_alloc (o : Obj) (h : b < w.heap.size) (k : Int) : mapFn (w.alloc o) b k = mapFn w b k := mapFn_of_block (Below.heap_alloc w o b h) k
@[go_sem] theorem mapFn_drew (k : Int) : mapFn w.drew b k = mapFn w b k := rfl
@[go_sem] theorem mapFn_setCell (a : Addr) (v : Value) (h : b ≠ a.block) (k : Int) : mapFn (w.setCell a v) b k = mapFn w b k := mapFn_of_block (Below.heap_setCell w a v b h) k
@[go_sem] theorem mapFn_put_other (c : Nat) (k v : Int) (h : b ≠ c) (x : Int) : mapFn (mapPut w c k v) b x = mapFn w b x := mapFn_of_block (mapPut_other w c k v h) x
end
theorem isII_new (w : World) : isII (w.alloc (.map #[] 0)) w.heap.size 0 := ⟨_, World.ownsMap_made _ _ _ _⟩
theorem mapFn_new (w : World) (k : Int) : mapFn (w.alloc (.map #[] 0)) w.heap.size k = none := by
  unfold mapFn; rw [datOf_own (World.ownsMap_made w _ _ _)]; rfl
theorem isII.alloc {w : World} {b n : Nat} (h : isII w b n) (o : Obj) : isII (w.alloc o) b n := (isII_of_block (Below.heap_alloc w o b h.lt)).2 h
theorem Below_mapPut {B : Nat} {a w : World} (h : Below B a w) {b : Nat} (hb : B ≤ b) (k v : Int) : Below B a (mapPut w b k v) :=
  h.trans ⟨rfl, rfl, rfl, by simp [mapPut], fun i hi => mapPut_other w b k v (by omega)⟩
/-- A map behind a store into it, a new block, and a call that leaves it. -/
theorem mapAfter {w w' W : World} {b n : Nat} {k v : Int} (h : isII w b n) (hn : n < 4611686018427387904) (hk : I64 k) (hv : I64 v) (hW : W.heap[b]? = (mapPut w b k v).heap[b]?) (hb : Below W.heap.size W w') (hlt : b < W.heap.size) :
    isII w' b (n + 1) ∧ ∀ x, mapFn w' b x = if x = k then some v else mapFn w b x := by
  obtain ⟨_, h2, h3⟩ := h.put (by unfold maxLen; omega) hk hv
  have e : w'.heap[b]? = (mapPut w b k v).heap[b]? := (hb.block b hlt).trans hW
  exact ⟨(isII_of_block e).2 h2, fun x => (mapFn_of_block e x).trans (h3 x)⟩
end Go.Proofs.YtodgcmakdndbfaaDoor
/-
  Plain: what the document says of layers 1, 2, 8 to 12, as functions on numbers, lists and the structs of XTab. No program, no world.
-/
namespace Cot

/-! ## shape -/
def levelI (v : Int) : Int := if v < 0 ∨ 85 ≤ v then -1 else if 21 ≤ v then 3 else if 5 ≤ v then 2 else if 1 ≤ v then 1 else 0
def leafI (s : Int) : Int := if 0 ≤ s ∧ s < 64 then 21 + s else -1
def slotI (v : Int) : Int := if 21 ≤ v ∧ v < 85 then v - 21 else -1
/-- Does the leaf of slot s lie at or below the node v? -/
def up (v s : Nat) : Bool := v == 0 || v == 1 + s / 16 || v == 5 + s / 4 || v == 21 + s
def firstN (l : Nat) : Nat := if l = 0 then 0 else if l = 1 then 1 else if l = 2 then 5 else 21
/-- The mask of a node's slots. -/
def maskN (v : Nat) : Nat :=
  if v = 0 then 18446744073709551615 else if v < 5 then 65535 * 2 ^ ((v - 1) * 16) else if v < 21 then 15 * 2 ^ ((v - 5) * 4) else if v < 85 then 2 ^ (v - 21) else 0
/-- Bits by a predicate. -/
def bitsOf (p : Nat → Bool) : Nat → Nat
  | 0 => 0
  | n + 1 => bitsOf p n + if p n then 2 ^ n else 0
theorem bitsOf_lt (p : Nat → Bool) : ∀ n, bitsOf p n < 2 ^ n
  | 0 => by simp [bitsOf]
  | n + 1 => by
    have := bitsOf_lt p n
    unfold bitsOf
    rw [Nat.pow_succ]
    split <;> omega
theorem testBit_bitsOf (p : Nat → Bool) (i : Nat) : ∀ n, (bitsOf p n).testBit i = (decide (i < n) && p i)
  | 0 => by simp [bitsOf]
  | n + 1 => by
    have ih := testBit_bitsOf p i n
    have hlt := bitsOf_lt p n
    unfold bitsOf
    by_cases hp : p n = true
    · rw [if_pos hp, Nat.add_comm]
      by_cases hi : i = n
      · subst hi
        rw [Nat.testBit_two_pow_add_eq, Nat.testBit_lt_two_pow hlt]
        simp [hp]
      · by_cases hin : i < n
        · rw [Nat.testBit_two_pow_add_gt hin, ih]
          simp [hin, show i < n + 1 by omega]
        · rw [Nat.testBit_lt_two_pow (Nat.lt_of_lt_of_le (show 2 ^ n + bitsOf p n < 2 ^ (n + 1) by rw [Nat.pow_succ]; omega) (Nat.pow_le_pow_right (by omega) (by omega)))]
          simp [show ¬ i < n + 1 by omega]
    · rw [if_neg hp, Nat.add_zero, ih]
      by_cases hi : i = n
      · subst hi; simp at hp; simp [hp]
      · by_cases hin : i < n
        · simp [hin, show i < n + 1 by omega]
        · simp [hin, show ¬ i < n + 1 by omega]
theorem bitsOf_congr {p q : Nat → Bool} : ∀ {n : Nat}, (∀ i, i < n → p i = q i) → bitsOf p n = bitsOf q n
  | 0, _ => rfl
  | n + 1, h => by
    unfold bitsOf
    rw [bitsOf_congr (fun i hi => h i (by omega)), h n (by omega)]
theorem eq_bitsOf {m n : Nat} {p : Nat → Bool} (h : ∀ i, m.testBit i = (decide (i < n) && p i)) : m = bitsOf p n :=
  Nat.eq_of_testBit_eq fun i => by rw [h, testBit_bitsOf]
def cntOf (p : Nat → Bool) : Nat → Nat
  | 0 => 0
  | n + 1 => cntOf p n + if p n then 1 else 0
theorem cntOf_le (p : Nat → Bool) : ∀ n, cntOf p n ≤ n
  | 0 => by simp [cntOf]
  | n + 1 => by have := cntOf_le p n; unfold cntOf; split <;> omega
theorem cntOf_congr {p q : Nat → Bool} : ∀ {n : Nat}, (∀ i, i < n → p i = q i) → cntOf p n = cntOf q n
  | 0, _ => rfl
  | n + 1, h => by unfold cntOf; rw [cntOf_congr (fun i hi => h i (by omega)), h n (by omega)]

theorem maskN_lt (v : Nat) : maskN v < 18446744073709551616 := by
  by_cases h : v < 85
  · have : ∀ v, v < 85 → maskN v < 18446744073709551616 := by decide
    exact this v h
  · unfold maskN; rw [if_neg (by omega), if_neg (by omega), if_neg (by omega), if_neg h]; omega
theorem maskN_bits : ∀ v, v < 85 → ∀ s, s < 64 → (maskN v).testBit s = up v s := by decide +kernel

/-- Is v met on the way up from w? -/
def par (w : Nat) : Nat := (w - 1) / 4
def bel (v w : Nat) : Bool := v == w || v == par w || v == par (par w) || v == par (par (par w))
theorem bel_step : ∀ v, v < 85 → ∀ w, w < 85 → v < w → bel v w = bel v ((w - 1) / 4) := by decide +kernel
theorem bel_end : ∀ v, v < 85 → ∀ w, w < 85 → ¬ v < w → bel v w = (w == v) := by decide +kernel
theorem bel_leaf : ∀ v, v < 85 → ∀ s, s < 64 → bel v (21 + s) = up v s := by decide +kernel

/-! ## the sets -/
def takenP (r : Nat → Entry) (s : Nat) : Bool := decide ((r s).base ≠ 0)
def takenN (r : Nat → Entry) : Nat := bitsOf (takenP r) 64
/-- Is a seat taken at or below the node? -/
def heldP (r : Nat → Entry) (v : Nat) : Bool := (List.range 64).any fun s => takenP r s && up v s
theorem mask_taken (r : Nat → Entry) {v : Nat} (hv : v < 85) : (maskN v &&& takenN r ≠ 0) ↔ heldP r v = true := by
  have hb : ∀ i, (maskN v &&& takenN r).testBit i = (decide (i < 64) && (takenP r i && up v i)) := by
    intro i
    rw [Nat.testBit_and, takenN, testBit_bitsOf]
    by_cases hi : i < 64
    · rw [maskN_bits v hv i hi]; simp [hi, Bool.and_comm]
    · simp [hi]
  constructor
  · intro h
    obtain ⟨i, hi⟩ := Nat.exists_testBit_of_ne_zero h
    rw [hb] at hi
    simp only [Bool.and_eq_true, decide_eq_true_eq] at hi
    unfold heldP
    rw [List.any_eq_true]
    exact ⟨i, List.mem_range.2 hi.1, by simp [hi.2]⟩
  · intro h e
    unfold heldP at h
    rw [List.any_eq_true] at h
    obtain ⟨i, hi, h2⟩ := h
    have := hb i
    rw [e] at this
    simp only [Nat.zero_testBit] at this
    rw [h2] at this
    simp [List.mem_range.1 hi] at this

/-! ## keys and rosters -/
def goodK (k : Key) : Prop := (1 ≤ k.base ∧ k.base ≤ 65535) ∧ 0 ≤ k.step ∧ k.step ≤ 255
instance (k : Key) : Decidable (goodK k) := by unfold goodK; infer_instance
def RightKeys (k : Nat → Key) : Prop := ∀ j, j < 21 → (goodK (k j) ∧ (k j).base < 32768) ∧ ∀ i, i < j → (k i).base ≠ (k j).base
instance (k : Nat → Key) : Decidable (RightKeys k) := by unfold RightKeys; infer_instance
def rightE (e : Entry) : Prop := (0 ≤ e.who ∧ e.who < 256) ∧ (1 ≤ e.base ∧ e.base < 32768) ∧ 1 ≤ e.since ∧ e.since ≤ 200
instance (e : Entry) : Decidable (rightE e) := by unfold rightE; infer_instance
def RightRoster (r : Nat → Entry) : Prop := ∀ j, j < 64 → r j = Entry.zero ∨ (rightE (r j) ∧ ∀ i, i < j → r i = Entry.zero ∨ ((r i).who ≠ (r j).who ∧ (r i).base ≠ (r j).base))
instance (r : Nat → Entry) : Decidable (RightRoster r) := by unfold RightRoster; infer_instance
structure RightTree (t : Tree) : Prop where
  epoch0 : 0 ≤ t.epoch
  epoch1 : t.epoch ≤ 200
  fresh0 : 21 < t.fresh
  fresh1 : t.fresh ≤ 32768
  keys : RightKeys t.keys
  roster : RightRoster t.roster
  kb : ∀ j, j < 21 → (t.keys j).base < t.fresh ∧ (t.keys j).step ≤ t.epoch
  eb : ∀ s, s < 64 → ((t.roster s).base < t.fresh ∧ (t.roster s).since ≤ t.epoch) ∧ ∀ j, j < 21 → (t.keys j).base ≠ (t.roster s).base
noncomputable instance (t : Tree) : Decidable (RightTree t) := Classical.propDecidable _
noncomputable def checkKeysI (k : Nat → Key) : Int := if RightKeys k then 0 else 31
noncomputable def checkRosterI (r : Nat → Entry) : Int := if RightRoster r then 0 else 31
noncomputable def checkTreeI (t : Tree) : Int := if RightTree t then 0 else 31
/-- How many of the first j values of f are x. -/
def cntV (f : Nat → Int) (j : Nat) (x : Int) : Nat := cntOf (fun i => f i == x) j
theorem cntV_succ (f : Nat → Int) (j : Nat) (x : Int) : cntV f (j + 1) x = cntV f j x + if f j = x then 1 else 0 := by
  show cntOf _ j + _ = _
  simp [cntV]
theorem cntV_le (f : Nat → Int) (j : Nat) (x : Int) : cntV f j x ≤ j := cntOf_le _ _
theorem cntV_pos (f : Nat → Int) (x : Int) : ∀ j, 0 < cntV f j x ↔ ∃ i, i < j ∧ f i = x
  | 0 => by simp [cntV, cntOf]
  | j + 1 => by
    rw [cntV_succ]
    have ih := cntV_pos f x j
    constructor
    · intro h
      by_cases hj : f j = x
      · exact ⟨j, by omega, hj⟩
      · rw [if_neg hj] at h
        obtain ⟨i, hi, e⟩ := ih.1 (by omega)
        exact ⟨i, by omega, e⟩
    · rintro ⟨i, hi, e⟩
      by_cases hij : i = j
      · subst hij; rw [if_pos e]; omega
      · have := ih.2 ⟨i, by omega, e⟩; omega

/-! ## people -/
def findN (r : Nat → Entry) (who : Int) : Option Nat := (List.range 64).find? fun s => takenP r s && (r s).who == who
def findI (r : Nat → Entry) (who : Int) : Int := match findN r who with | some s => (s : Int) | none => -1
end Cot
/-
  Contracts of layer 1 (shape) and of its reference.
-/
namespace Go.Proofs.YtodgcmakdndbfaaDoor
open Go.RowKit Cot

/-- At a call inside a region that is walked by 'go_quiet'. -/
theorem quietC {P : Program} {f : FuncId} {args : Array Value} {w : World} {n : Nat} {v : Value} (h : Calls P f args (w.drewN n) fun e w' => e = .returned v ∧ w.drewN n = w') :
    Calls P f args (w.drewN n) fun e w'' => e = .returned v ∧ ∃ m, w'' = w.drewN m := h.mono fun _ _ ⟨he, hm⟩ => ⟨he, n, hm.symm⟩
theorem ret_int {k : IntKind} {a b : Int} (h : a = b) : Ending.returned (.int k a) = .returned (.int k b) := by rw [h]
theorem ret_bool {a b : Bool} (h : a = b) : Ending.returned (.bool a) = .returned (.bool b) := by rw [h]

set_option maxHeartbeats 400000 in
theorem shape_first (n : Int) (l : Nat) (h : l ≤ 3) (hn : n = l) (w : World) : Calls Tryd.prog 80 #[.int .i64 n] w fun e w' => e = .returned (.int .i64 (firstN l)) ∧ w = w' := by
  have : l = 0 ∨ l = 1 ∨ l = 2 ∨ l = 3 := by omega
  subst hn
  rcases this with rfl | rfl | rfl | rfl
  all_goals
    go_enter Tryd.func80, Tryd.ntmps80
    go_wp2
    go_ret
    exact ⟨rfl, rfl⟩
set_option maxHeartbeats 400000 in
theorem shape_Level (v : Int) (w : World) : Calls Tryd.prog 57 #[.int .i64 v] w fun e w' => e = .returned (.int .i64 (levelI v)) ∧ w = w' := by
  by_cases h1 : v < 0
  · go_enter Tryd.func57, Tryd.ntmps57
    go_wp2
    go_ret
    exact ⟨ret_int (by unfold levelI; rw [if_pos (by omega)]), rfl⟩
  by_cases h2 : 85 ≤ v
  · go_enter Tryd.func57, Tryd.ntmps57
    go_wp2
    go_ret
    exact ⟨ret_int (by unfold levelI; rw [if_pos (by omega)]), rfl⟩
  go_enter Tryd.func57, Tryd.ntmps57
  go_wp2
  go_loop [3] (fun l => ∃ n : Nat, n ≤ 3 ∧ l = .int .i64 n ∧ (n < 3 → v < firstN (n + 1))) (fun l => (intOf l).toNat)
  case atStart => exact ⟨3, by omega, rfl, by omega⟩
  case round =>
    obtain ⟨n, hn, rfl, hlt⟩ := hrel
    by_cases hv : v < firstN n
    · have hn0 : 1 ≤ n := by
        rcases Nat.eq_zero_or_pos n with h | h
        · subst h; simp [firstN] at hv; omega
        · exact h
      go_wp2_with (go_at_call 80; refine (shape_first _ n hn rfl _).mono ?_; rintro e w' ⟨rfl, rfl⟩)
      go_round
      case rel => exact ⟨n - 1, by omega, by congr 1; omega, fun _ => by rw [Nat.sub_add_cancel hn0]; exact hv⟩
      case measure => simp [intOf]; omega
    · have hv' : (firstN n : Int) ≤ v := by omega
      go_wp2_with (go_at_call 80; refine (shape_first _ n hn rfl _).mono ?_; rintro e w' ⟨rfl, rfl⟩)
      go_ret
      refine ⟨ret_int ?_, rfl⟩
      have : n = 0 ∨ n = 1 ∨ n = 2 ∨ n = 3 := by omega
      rcases this with rfl | rfl | rfl | rfl <;> simp [firstN] at hlt hv' ⊢ <;> unfold levelI
      · rw [if_neg (by omega), if_neg (by omega), if_neg (by omega), if_neg (by omega)]
      · rw [if_neg (by omega), if_neg (by omega), if_neg (by omega), if_pos (by omega)]
      · rw [if_neg (by omega), if_neg (by omega), if_pos (by omega)]
      · rw [if_neg (by omega), if_pos (by omega)]

set_option maxHeartbeats 400000 in
theorem shape_Leaf (s : Int) (w : World) : Calls Tryd.prog 33 #[.int .i64 s] w fun e w' => e = .returned (.int .i64 (leafI s)) ∧ w = w' := by
  by_cases h1 : s < 0
  · go_enter Tryd.func33, Tryd.ntmps33
    go_wp2
    go_ret
    exact ⟨ret_int (by unfold leafI; rw [if_neg (by omega)]), rfl⟩
  by_cases h2 : 64 ≤ s
  · go_enter Tryd.func33, Tryd.ntmps33
    go_wp2
    go_ret
    exact ⟨ret_int (by unfold leafI; rw [if_neg (by omega)]), rfl⟩
  go_enter Tryd.func33, Tryd.ntmps33
  go_wp2
  go_ret
  exact ⟨ret_int (by unfold leafI; rw [if_pos (by omega)]), rfl⟩
set_option maxHeartbeats 400000 in
theorem ref01_Leaf (s : Int) (w : World) : Calls Tryd.prog 12 #[.int .i64 s] w fun e w' => e = .returned (.int .i64 (leafI s)) ∧ w = w' := by
  by_cases h1 : s < 0
  · go_enter Tryd.func12, Tryd.ntmps12
    go_wp2
    go_ret
    exact ⟨ret_int (by unfold leafI; rw [if_neg (by omega)]), rfl⟩
  by_cases h2 : 64 ≤ s
  · go_enter Tryd.func12, Tryd.ntmps12
    go_wp2
    go_ret
    exact ⟨ret_int (by unfold leafI; rw [if_neg (by omega)]), rfl⟩
  go_enter Tryd.func12, Tryd.ntmps12
  go_wp2
  go_ret
  exact ⟨ret_int (by unfold leafI; rw [if_pos (by omega)]), rfl⟩
set_option maxHeartbeats 400000 in
theorem shape_Slot (s : Int) (w : World) : Calls Tryd.prog 78 #[.int .i64 s] w fun e w' => e = .returned (.int .i64 (slotI s)) ∧ w = w' := by
  by_cases h1 : s < 21
  · go_enter Tryd.func78, Tryd.ntmps78
    go_wp2
    go_ret
    exact ⟨ret_int (by unfold slotI; rw [if_neg (by omega)]), rfl⟩
  by_cases h2 : 85 ≤ s
  · go_enter Tryd.func78, Tryd.ntmps78
    go_wp2
    go_ret
    exact ⟨ret_int (by unfold slotI; rw [if_neg (by omega)]), rfl⟩
  go_enter Tryd.func78, Tryd.ntmps78
  go_wp2
  go_ret
  exact ⟨ret_int (by unfold slotI; rw [if_pos (by omega)]), rfl⟩
set_option maxHeartbeats 400000 in
theorem shape_Child (v i : Int) (hv : 0 ≤ v) (hv' : v < 21) (hi : 0 ≤ i) (hi' : i < 4) (w : World) : Calls Tryd.prog 54 #[.int .i64 v, .int .i64 i] w fun e w' => e = .returned (.int .i64 (4 * v + 1 + i)) ∧ w = w' := by
  go_enter Tryd.func54, Tryd.ntmps54
  go_wp2
  go_ret
  exact ⟨ret_int (by omega), rfl⟩
set_option maxHeartbeats 400000 in
theorem ref01_Child (v i : Int) (hv : 0 ≤ v) (hv' : v < 21) (hi : 0 ≤ i) (hi' : i < 4) (w : World) : Calls Tryd.prog 56 #[.int .i64 v, .int .i64 i] w fun e w' => e = .returned (.int .i64 (4 * v + 1 + i)) ∧ w = w' := by
  go_enter Tryd.func56, Tryd.ntmps56
  go_wp2
  go_ret
  exact ⟨ret_int (by omega), rfl⟩
set_option maxHeartbeats 400000 in
theorem ref01_Node (v : Int) (w : World) : Calls Tryd.prog 29 #[.int .i64 v] w fun e w' => e = .returned (.bool (decide (0 ≤ v ∧ v < 85))) ∧ w = w' := by
  by_cases h1 : 0 ≤ v
  · go_enter Tryd.func29, Tryd.ntmps29
    go_wp2
    go_ret
    exact ⟨ret_bool (by simp [h1]), rfl⟩
  · have h1' : v < 0 := by omega
    go_enter Tryd.func29, Tryd.ntmps29
    go_wp2
    go_ret
    exact ⟨ret_bool (by simp; omega), rfl⟩
set_option maxHeartbeats 400000 in
theorem ref01_Parent (v : Int) (hv : 1 ≤ v) (hv' : v < 85) (w : World) : Calls Tryd.prog 31 #[.int .i64 v] w fun e w' => e = .returned (.int .i64 ((v - 1) / 4)) ∧ w = w' := by
  go_enter Tryd.func31, Tryd.ntmps31
  go_wp2
  go_loop [3, 4] (fun p _ => ∃ n : Nat, n ≤ 21 ∧ p = .int .i64 n ∧ 4 * (n : Int) + 1 ≤ v) (fun p _ => 21 - (intOf p).toNat)
  case atStart => exact ⟨0, by omega, rfl, by omega⟩
  case round =>
    obtain ⟨n, hn, rfl, hp⟩ := hrel
    have hlt : (n : Int) < 21 := by omega
    go_wp2
    go_loop [4] (fun i => ∃ k : Nat, k ≤ 4 ∧ i = .int .i64 k ∧ 4 * (n : Int) + 1 + k ≤ v) (fun i => 4 - (intOf i).toNat)
    case atStart => exact ⟨0, by omega, rfl, by omega⟩
    case round =>
      obtain ⟨k, hk, rfl, hq⟩ := hrel
      by_cases hk4 : k < 4
      · have h4 : (k : Int) < 4 := by omega
        by_cases he : 4 * (n : Int) + 1 + k = v
        · have he' : ((4 * (n : Int) + 1 + k) == v) = true := by simpa using he
          go_wp2_with (go_at_call 56; refine (ref01_Child _ _ (by omega) (by omega) (by omega) (by omega) _).mono ?_; rintro e w' ⟨rfl, rfl⟩)
          go_ret
          exact ⟨ret_int (by omega), rfl⟩
        · have he' : ((4 * (n : Int) + 1 + k) == v) = false := by simpa using he
          go_wp2_with (go_at_call 56; refine (ref01_Child _ _ (by omega) (by omega) (by omega) (by omega) _).mono ?_; rintro e w' ⟨rfl, rfl⟩)
          go_round
          case rel => exact ⟨k + 1, by omega, by go_num, by omega⟩
          case measure => simp [intOf]; omega
      · have h4 : ¬ (k : Int) < 4 := by omega
        go_wp2
        go_round
        case rel => exact ⟨n + 1, by omega, by go_num, by omega⟩
        case measure => simp [intOf]; omega

set_option maxHeartbeats 400000 in
theorem ref01_Below (v u : Nat) (hv : v < 85) (hu : u < 85) (w : World) : Calls Tryd.prog 84 #[.int .i64 v, .int .i64 u] w fun e w' => e = .returned (.bool (bel v u)) ∧ w = w' := by
  have d1 : decide (0 ≤ (v : Int) ∧ (v : Int) < 85) = true := by simp; omega
  have d2 : decide (0 ≤ (u : Int) ∧ (u : Int) < 85) = true := by simp; omega
  go_enter Tryd.func84, Tryd.ntmps84
  go_wp2_with (first | (go_at_call 29; refine (ref01_Node _ _).mono ?_; rintro e w' ⟨rfl, rfl⟩; simp only [d1, d2]))
  go_loop [1] (fun x => ∃ n : Nat, n < 85 ∧ x = .int .i64 n ∧ bel v n = bel v u) (fun x => (intOf x).toNat)
  case atStart => exact ⟨u, hu, rfl, rfl⟩
  case round =>
    obtain ⟨n, hn, rfl, hb⟩ := hrel
    by_cases hlt : v < n
    · have hs := bel_step v hv n hn hlt
      have H := Lib.hid hs; clear hs
      have H2 := Lib.hid hb; clear hb
      go_wp2_with (go_at_call 31; refine (ref01_Parent _ (by omega) (by omega) _).mono ?_; rintro e w' ⟨rfl, rfl⟩)
      go_round
      case rel => exact ⟨(n - 1) / 4, by omega, by congr 1; omega, H.out.symm.trans H2.out⟩
      case measure => simp [intOf]; omega
    · have hs := bel_end v hv n hn hlt
      have H := Lib.hid hs; clear hs
      have H2 := Lib.hid hb; clear hb
      go_wp2
      go_ret
      refine ⟨ret_bool ?_, rfl⟩
      rw [← H2.out, H.out]
      rw [Bool.eq_iff_iff, beq_iff_eq, beq_iff_eq]
      omega
end Go.Proofs.YtodgcmakdndbfaaDoor
/-
  Contracts of layer 1's masks and paths, and of their references.
-/
namespace Go.Proofs.YtodgcmakdndbfaaDoor
open Go.RowKit Cot

set_option maxHeartbeats 400000 in
theorem ref01_In (m v : Nat) (hm : m < 4294967296) (hv : v < 32) (w : World) : Calls Tryd.prog 16 #[.int .u32 m, .int .i64 v] w fun e w' => e = .returned (.bool (m.testBit v)) ∧ w = w' := by
  go_enter Tryd.func16, Tryd.ntmps16
  go_wp2
  go_loop [0, 5] (fun x i => ∃ k : Nat, k ≤ v ∧ i = .int .i64 k ∧ x = .int .u32 ((m / 2 ^ k : Nat) : Int)) (fun _ i => v - (intOf i).toNat)
  case atStart => exact ⟨0, by omega, rfl, by simp⟩
  case round =>
    obtain ⟨k, hk, rfl, rfl⟩ := hrel
    have hle : m / 2 ^ k ≤ m := Nat.div_le_self _ _
    have hd : m / 2 ^ (k + 1) = m / 2 ^ k / 2 := by rw [Nat.pow_succ, Nat.div_div_eq_div_mul]
    have hb : k = v → m.testBit v = decide (m / 2 ^ k % 2 = 1) := by rintro rfl; exact Nat.testBit_eq_decide_div_mod_eq
    have H := Lib.hid hd; clear hd
    have H2 := Lib.hid hb; clear hb
    generalize hx : m / 2 ^ k = x at *
    clear hx
    by_cases hlt : k < v
    · go_wp2
      go_round
      case rel => exact ⟨k + 1, by omega, by go_num, by rw [H.out]; rfl⟩
      case measure => simp [intOf]; omega
    · go_wp2
      go_ret
      refine ⟨ret_bool ?_, rfl⟩
      rw [H2.out (by omega), Bool.eq_iff_iff, beq_iff_eq, decide_eq_true_eq]
      omega
def pathI (s : Nat) : Array Value := #[I (5 + (s : Int) / 4), I (1 + (s : Int) / 16), I 0]
theorem bAlloc {a w : World} (h : Below a.heap.size a w) (o : Obj) : Below a.heap.size a (w.alloc o) := h.alloc h.size o
theorem bDrew {a w : World} (h : Below a.heap.size a w) : Below a.heap.size a w.drew := h.drew
theorem bCall {a w w' : World} (h : Below a.heap.size a w) (k : Below w.heap.size w w') : Below a.heap.size a w' := h.trans (k.mono h.size)

theorem ref01_Parent' (v r : Int) (hv : 1 ≤ v) (hv' : v < 85) (h : (v - 1) / 4 = r) (w : World) : Calls Tryd.prog 31 #[.int .i64 v] w fun e w' => e = .returned (.int .i64 r) ∧ w = w' := by
  subst h; exact ref01_Parent v hv hv' w
set_option maxHeartbeats 800000 in
theorem ref01_Path (s : Nat) (hs : s < 64) (w : World) : Calls Tryd.prog 13 #[.int .i64 s] w fun e w' => e = .returned (.tuple #[.agg (pathI s), .bool true]) ∧ Below w.heap.size w w' := by
  have hl : leafI s = 21 + s := by unfold leafI; rw [if_pos (by omega)]
  go_enter Tryd.func13, Tryd.ntmps13
  go_wp2_with (first | (go_at_call 12; refine (ref01_Leaf _ _).mono ?_; rintro e w' ⟨rfl, rfl⟩))
  have e1 : (21 + (s : Int) - 1) / 4 = ((5 + s / 4 : Nat) : Int) := by omega
  have e2 : (((5 + s / 4 : Nat) : Int) - 1) / 4 = ((1 + s / 16 : Nat) : Int) := by omega
  have e3 : (((1 + s / 16 : Nat) : Int) - 1) / 4 = 0 := by omega
  have H1 := Lib.hid e1; have H2 := Lib.hid e2; have H3 := Lib.hid e3
  clear e1 e2 e3
  refine wp_loop_rounds 4 ?_
  rw [rounds_succ]
  go_wp2_with (first | (go_at_call 31; refine (ref01_Parent' _ _ (by omega) (by omega) H1.out _).mono ?_; rintro e w' ⟨rfl, rfl⟩))
  rw [rounds_succ]
  go_wp2_with (first | (go_at_call 31; refine (ref01_Parent' _ _ (by omega) (by omega) H2.out _).mono ?_; rintro e w' ⟨rfl, rfl⟩))
  rw [rounds_succ]
  go_wp2_with (first | (go_at_call 31; refine (ref01_Parent' _ _ (by omega) (by omega) H3.out _).mono ?_; rintro e w' ⟨rfl, rfl⟩))
  rw [rounds_succ]
  go_wp2
  exact bodyPost_ret (v := .tuple #[.agg (pathI s), .bool true]) (by simp [results, Tryd.results13, go_sem, pathI]) rfl ⟨rfl, bAlloc (bAlloc (Below.refl _ _) _) _⟩

theorem shape_first' (n : Int) (l : Nat) (r : Int) (h : l ≤ 3) (hn : n = l) (hr : (firstN l : Int) = r) (w : World) : Calls Tryd.prog 80 #[.int .i64 n] w fun e w' => e = .returned (.int .i64 r) ∧ w = w' := by
  subst hr; exact shape_first n l h hn w
set_option maxHeartbeats 800000 in
theorem shape_Path (s : Nat) (hs : s < 64) (w : World) : Calls Tryd.prog 55 #[.int .i64 s] w fun e w' => e = .returned (.tuple #[.agg (pathI s), .bool true]) ∧ Below w.heap.size w w' := by
  have hl : leafI s = 21 + s := by unfold leafI; rw [if_pos (by omega)]
  go_enter Tryd.func55, Tryd.ntmps55
  go_wp2_with (first | (go_at_call 33; refine (shape_Leaf _ _).mono ?_; rintro e w' ⟨rfl, rfl⟩))
  refine wp_loop_rounds 4 ?_
  rw [rounds_succ]
  go_wp2
  go_region_with (go_at_call 80; refine (shape_first' _ 2 5 (by omega) rfl rfl _).mono ?_; rintro e w' ⟨rfl, rfl⟩)
  go_wp2
  rw [rounds_succ]
  go_wp2
  go_region_with (go_at_call 80; refine (shape_first' _ 1 1 (by omega) rfl rfl _).mono ?_; rintro e w' ⟨rfl, rfl⟩)
  go_wp2
  rw [rounds_succ]
  go_wp2
  go_region_with (go_at_call 80; refine (shape_first' _ 0 0 (by omega) rfl rfl _).mono ?_; rintro e w' ⟨rfl, rfl⟩)
  go_wp2
  rw [rounds_succ]
  go_wp2
  have e0 : (s : Int) / 64 = 0 := by omega
  exact bodyPost_ret (v := .tuple #[.agg #[I (5 + (s : Int) / 4), I (1 + (s : Int) / 16), I ((s : Int) / 64)], .bool true]) (by simp [results, Tryd.results55, go_sem]) rfl ⟨by rw [e0]; rfl, bDrew (bDrew (bDrew (bAlloc (bAlloc (Below.refl _ _) _) _)))⟩
end Go.Proofs.YtodgcmakdndbfaaDoor
