/-
  Parts of a proof: Tab, Laws. Merged by program.
-/
import Derived.WalkKit
import Derived.Test.YtodgcmakdndbfaaDoorRows
import Derived.WalkSpells
import Derived.WalkLawsBesides
/-
  Plain: tables of cells ('tab n f': n cells, cell p is f p), and the program's structs as such tables. No program, no world.
-/
namespace Cot
open Go

/-- n cells; cell p is f p. -/
@[irreducible] def tabL (n : Nat) (f : Nat → Value) : List Value := (List.range n).map f
@[irreducible] def tab (n : Nat) (f : Nat → Value) : Array Value := (tabL n f).toArray

theorem tabL_length (n : Nat) (f : Nat → Value) : (tabL n f).length = n := by unfold tabL; simp
theorem tabL_get (n : Nat) (f : Nat → Value) (p : Nat) : (tabL n f)[p]? = if p < n then some (f p) else none := by
  unfold tabL
  by_cases h : p < n <;> simp [h]
theorem tab_toList (n : Nat) (f : Nat → Value) : (tab n f).toList = tabL n f := by unfold tab; simp
theorem tab_size (n : Nat) (f : Nat → Value) : (tab n f).size = n := by unfold tab; simp [tabL_length]
theorem tab_get (n : Nat) (f : Nat → Value) (p : Nat) : (tab n f)[p]? = if p < n then some (f p) else none := by
  unfold tab; simp [tabL_get]
theorem tab_get_lt {n : Nat} {f : Nat → Value} {p : Nat} (h : p < n) : (tab n f)[p]? = some (f p) := by rw [tab_get, if_pos h]

theorem arr_ext {a b : Array Value} (hs : a.size = b.size) (h : ∀ p, p < a.size → a[p]? = b[p]?) : a = b := by
  apply Array.ext hs
  intro p h1 h2
  have := h p h1
  rw [Array.getElem?_eq_getElem h1, Array.getElem?_eq_getElem h2] at this
  exact Option.some.inj this

theorem tab_congr {n : Nat} {f g : Nat → Value} (h : ∀ p, p < n → f p = g p) : tab n f = tab n g := by
  apply arr_ext (by simp [tab_size])
  intro p hp
  rw [tab_size] at hp
  rw [tab_get_lt hp, tab_get_lt hp, h p hp]
theorem tab_inj {n : Nat} {f g : Nat → Value} (h : tab n f = tab n g) : ∀ p, p < n → f p = g p := by
  intro p hp
  have := congrArg (fun a : Array Value => a[p]?) h
  simp only [tab_get_lt hp] at this
  exact Option.some.inj this
theorem tab_extract (n : Nat) (f : Nat → Value) (a b : Nat) (h : a + b ≤ n) : (tab n f).extract a (a + b) = tab b (fun p => f (a + p)) := by
  apply arr_ext
  · simp [tab_size]; omega
  · intro p hp
    simp only [Array.size_extract, tab_size] at hp
    have hp' : p < b := by omega
    rw [Array.getElem?_extract, tab_get_lt hp', if_pos (by simp [tab_size]; omega), tab_get_lt (by omega)]
theorem tab_set (n : Nat) (f : Nat → Value) (q : Nat) (v : Value) : (tab n f).setIfInBounds q v = tab n (fun p => if p = q then v else f p) := by
  apply arr_ext
  · simp [tab_size]
  · intro p hp
    simp only [Array.size_setIfInBounds, tab_size] at hp
    rw [Array.getElem?_setIfInBounds, tab_get_lt (f := fun p => if p = q then v else f p) hp, tab_size]
    by_cases h : q = p
    · subst h; simp [hp]
    · rw [if_neg h, tab_get_lt hp, if_neg (fun e => h e.symm)]
theorem tab_of (a : Array Value) : a = tab a.size (fun p => a.getD p undef) := by
  apply arr_ext (by simp [tab_size])
  intro p hp
  rw [tab_get_lt hp]
  simp [hp]

/-! ## The structs -/
@[reducible] def I (n : Int) : Value := .int .i64 n
structure Key where
  base : Int
  step : Int
  deriving DecidableEq
structure Entry where
  who : Int
  base : Int
  since : Int
  deriving DecidableEq
structure Seat where
  who : Int
  slot : Int
  deriving DecidableEq
structure Itm where
  node : Int
  frm : Int
  under : Key
  load : Key
  deriving DecidableEq
structure Tree where
  epoch : Int
  fresh : Int
  keys : Nat → Key
  roster : Nat → Entry
structure Batch where
  leaves : List Int
  joins : List Int
  deriving DecidableEq
structure Rekey where
  epoch : Int
  leaves : List Seat
  joins : List Seat
  items : List Itm
  deriving DecidableEq
structure Record where
  epoch : Int
  fresh : Int
  leaves : List Int
  joins : List Seat
  deriving DecidableEq

def Key.zero : Key := ⟨0, 0⟩
def Entry.zero : Entry := ⟨0, 0, 0⟩
def Seat.cells (s : Seat) : List Value := [I s.who, I s.slot]
def Itm.cells (x : Itm) : List Value := [I x.node, I x.frm, I x.under.base, I x.under.step, I x.load.base, I x.load.step]

def keyCell (k : Nat → Key) (p : Nat) : Value := I (if p % 2 = 0 then (k (p / 2)).base else (k (p / 2)).step)
def entCell (r : Nat → Entry) (p : Nat) : Value := I (if p % 3 = 0 then (r (p / 3)).who else if p % 3 = 1 then (r (p / 3)).base else (r (p / 3)).since)
def treeCell (t : Tree) (p : Nat) : Value := if p = 0 then I t.epoch else if p = 1 then I t.fresh else if p < 44 then keyCell t.keys (p - 2) else entCell t.roster (p - 44)
@[irreducible] def keysC (k : Nat → Key) : Array Value := tab 42 (keyCell k)
@[irreducible] def rosterC (r : Nat → Entry) : Array Value := tab 192 (entCell r)
@[irreducible] def treeC (t : Tree) : Array Value := tab 236 (treeCell t)
@[irreducible] def pathC (k : Nat → Key) : Array Value := tab 6 (keyCell k)

theorem keysC_size (k : Nat → Key) : (keysC k).size = 42 := by unfold keysC; exact tab_size _ _
theorem rosterC_size (r : Nat → Entry) : (rosterC r).size = 192 := by unfold rosterC; exact tab_size _ _
theorem treeC_size (t : Tree) : (treeC t).size = 236 := by unfold treeC; exact tab_size _ _
theorem pathC_size (k : Nat → Key) : (pathC k).size = 6 := by unfold pathC; exact tab_size _ _

theorem keyCell_base (k : Nat → Key) (j : Nat) : keyCell k (j * 2) = I (k j).base := by unfold keyCell; rw [if_pos (by omega), show j * 2 / 2 = j by omega]
theorem keyCell_step (k : Nat → Key) (j : Nat) : keyCell k (j * 2 + 1) = I (k j).step := by unfold keyCell; rw [if_neg (by omega), show (j * 2 + 1) / 2 = j by omega]
theorem entCell_who (r : Nat → Entry) (j : Nat) : entCell r (j * 3) = I (r j).who := by unfold entCell; rw [if_pos (by omega), show j * 3 / 3 = j by omega]
theorem entCell_base (r : Nat → Entry) (j : Nat) : entCell r (j * 3 + 1) = I (r j).base := by unfold entCell; rw [if_neg (by omega), if_pos (by omega), show (j * 3 + 1) / 3 = j by omega]
theorem entCell_since (r : Nat → Entry) (j : Nat) : entCell r (j * 3 + 2) = I (r j).since := by unfold entCell; rw [if_neg (by omega), if_neg (by omega), show (j * 3 + 2) / 3 = j by omega]

/-- The function with another value at one place. -/
def upd {α : Type} (f : Nat → α) (q : Nat) (v : α) : Nat → α := fun p => if p = q then v else f p
theorem upd_same {α : Type} (f : Nat → α) (q : Nat) (v : α) : upd f q v q = v := by simp [upd]
theorem upd_other {α : Type} (f : Nat → α) (q : Nat) (v : α) {p : Nat} (h : p ≠ q) : upd f q v p = f p := by simp [upd, h]

theorem list2 {l : List Value} {a b : Value} (hl : l.length = 2) (h0 : l[0]? = some a) (h1 : l[1]? = some b) : l = [a, b] := by
  match l, hl with
  | [x, y], _ => simp at h0 h1; rw [h0, h1]
theorem list3 {l : List Value} {a b c : Value} (hl : l.length = 3) (h0 : l[0]? = some a) (h1 : l[1]? = some b) (h2 : l[2]? = some c) : l = [a, b, c] := by
  match l, hl with
  | [x, y, z], _ => simp at h0 h1 h2; rw [h0, h1, h2]

/-- The key at place j, out of the row of keys. -/
theorem keysC_at (k : Nat → Key) (j : Nat) (h : j < 21) : (keysC k).extract (j * 2) (j * 2 + 2) = #[I (k j).base, I (k j).step] := by
  unfold keysC
  rw [tab_extract _ _ _ _ (by omega)]
  apply arr_ext (by simp [tab_size])
  intro p hp
  rw [tab_size] at hp
  match p, hp with
  | 0, _ => rw [tab_get_lt (by omega)]; simp [keyCell_base]
  | 1, _ => rw [tab_get_lt (by omega)]; simp [keyCell_step]
theorem rosterC_at (r : Nat → Entry) (j : Nat) (h : j < 64) : (rosterC r).extract (j * 3) (j * 3 + 3) = #[I (r j).who, I (r j).base, I (r j).since] := by
  unfold rosterC
  rw [tab_extract _ _ _ _ (by omega)]
  apply arr_ext (by simp [tab_size])
  intro p hp
  rw [tab_size] at hp
  match p, hp with
  | 0, _ => rw [tab_get_lt (by omega)]; simp [entCell_who]
  | 1, _ => rw [tab_get_lt (by omega)]; simp [entCell_base]
  | 2, _ => rw [tab_get_lt (by omega)]; simp [entCell_since]
theorem treeC_keys (t : Tree) : (treeC t).extract 2 44 = keysC t.keys := by
  unfold treeC keysC
  rw [show (44 : Nat) = 2 + 42 from rfl, tab_extract _ _ _ _ (by omega)]
  apply tab_congr
  intro p hp
  unfold treeCell
  rw [if_neg (by omega), if_neg (by omega), if_pos (by omega), show 2 + p - 2 = p by omega]
theorem treeC_roster (t : Tree) : (treeC t).extract 44 236 = rosterC t.roster := by
  unfold treeC rosterC
  rw [show (236 : Nat) = 44 + 192 from rfl, tab_extract _ _ _ _ (by omega)]
  apply tab_congr
  intro p hp
  unfold treeCell
  rw [if_neg (by omega), if_neg (by omega), if_neg (by omega), show 44 + p - 44 = p by omega]
theorem treeC_epoch (t : Tree) : (treeC t)[0]? = some (I t.epoch) := by unfold treeC; rw [tab_get_lt (by omega)]; rfl
theorem treeC_fresh (t : Tree) : (treeC t)[1]? = some (I t.fresh) := by unfold treeC; rw [tab_get_lt (by omega)]; rfl

/-- Trees that read alike. -/
structure Tree.Same (t u : Tree) : Prop where
  epoch : t.epoch = u.epoch
  fresh : t.fresh = u.fresh
  keys : ∀ j, j < 21 → t.keys j = u.keys j
  roster : ∀ j, j < 64 → t.roster j = u.roster j
theorem keyCell_eq {k l : Nat → Key} {p : Nat} (h : k (p / 2) = l (p / 2)) : keyCell k p = keyCell l p := by unfold keyCell; rw [h]
theorem entCell_eq {k l : Nat → Entry} {p : Nat} (h : k (p / 3) = l (p / 3)) : entCell k p = entCell l p := by unfold entCell; rw [h]
theorem keysC_congr {k l : Nat → Key} (h : ∀ j, j < 21 → k j = l j) : keysC k = keysC l := by
  unfold keysC; exact tab_congr fun p hp => keyCell_eq (h _ (by omega))
theorem rosterC_congr {k l : Nat → Entry} (h : ∀ j, j < 64 → k j = l j) : rosterC k = rosterC l := by
  unfold rosterC; exact tab_congr fun p hp => entCell_eq (h _ (by omega))
theorem treeC_congr {t u : Tree} (h : t.Same u) : treeC t = treeC u := by
  unfold treeC
  apply tab_congr
  intro p hp
  unfold treeCell
  rw [h.epoch, h.fresh]
  split; · rfl
  split; · rfl
  split
  · exact keyCell_eq (h.keys _ (by omega))
  · exact entCell_eq (h.roster _ (by omega))
theorem I_inj {a b : Int} (h : I a = I b) : a = b := by injection h
theorem keysC_inj {k l : Nat → Key} (h : keysC k = keysC l) : ∀ j, j < 21 → k j = l j := by
  unfold keysC at h
  intro j hj
  have h0 := tab_inj h (j * 2) (by omega)
  have h1 := tab_inj h (j * 2 + 1) (by omega)
  rw [keyCell_base, keyCell_base] at h0
  rw [keyCell_step, keyCell_step] at h1
  cases hk : k j; cases hl : l j
  simp [hk, hl] at h0 h1
  simp [h0, h1]
theorem rosterC_inj {k l : Nat → Entry} (h : rosterC k = rosterC l) : ∀ j, j < 64 → k j = l j := by
  unfold rosterC at h
  intro j hj
  have h0 := tab_inj h (j * 3) (by omega)
  have h1 := tab_inj h (j * 3 + 1) (by omega)
  have h2 := tab_inj h (j * 3 + 2) (by omega)
  rw [entCell_who, entCell_who] at h0
  rw [entCell_base, entCell_base] at h1
  rw [entCell_since, entCell_since] at h2
  cases hk : k j; cases hl : l j
  simp [hk, hl] at h0 h1 h2
  simp [h0, h1, h2]
theorem treeC_inj {t u : Tree} (h : treeC t = treeC u) : t.Same u := by
  have e0 := treeC_epoch t; have e1 := treeC_epoch u
  have f0 := treeC_fresh t; have f1 := treeC_fresh u
  have k0 := treeC_keys t; have k1 := treeC_keys u
  have r0 := treeC_roster t; have r1 := treeC_roster u
  rw [h] at e0 f0 k0 r0
  exact ⟨I_inj (Option.some.inj (e0.symm.trans e1)), I_inj (Option.some.inj (f0.symm.trans f1)), keysC_inj (k0.symm.trans k1), rosterC_inj (r0.symm.trans r1)⟩
end Cot
/-
  Laws of the walk for the program's great values: keys, rosters, trees (rows of cells): loads, stores, indexes, fields, zero values. Over this seat's program; type numbers are filled in by a program.
-/
namespace Go.Proofs.YtodgcmakdndbfaaDoor
open Go.RowKit Cot

/-- The cells from an address on, as a row. -/
def cellsIn (c : Array Value) (off n : Nat) : Option (Array Value) := if off + n ≤ c.size then some (c.extract off (off + n)) else none
def cellsAt (w : World) (a : Addr) (n : Nat) : Option (Array Value) :=
  match w.heap[a.block]? with
  | some (.cells c _ _) => if a.spot = none then cellsIn c a.off n else none
  | _ => none
theorem cellsAt_cell {w : World} {b off n : Nat} {cs : Array Value} (h : cellsAt w ⟨b, off, none⟩ n = some cs) : ∀ j v, cs.toList[j]? = some v → w.cell? ((⟨b, off, none⟩ : Addr).add j) = some v := by
  intro j v hv
  have hadd : (⟨b, off, none⟩ : Addr).add j = ⟨b, off + j, none⟩ := by unfold Addr.add; split <;> simp_all
  rw [hadd]
  unfold cellsAt at h
  split at h
  · rename_i c e fr hb
    simp only [if_true] at h
    unfold cellsIn at h
    split at h
    · rename_i hle
      obtain rfl := Option.some.inj h
      simp only [Array.getElem?_toList, Array.getElem?_extract] at hv
      split at hv
      · simp [World.cell?, hb, hv]
      · cases hv
    · cases h
  · cases h
theorem cellsAt_size {w : World} {a : Addr} {n : Nat} {cs : Array Value} (h : cellsAt w a n = some cs) : cs.size = n := by
  unfold cellsAt at h
  split at h
  · split at h
    · unfold cellsIn at h
      split at h
      · obtain rfl := Option.some.inj h; simp; omega
      · cases h
    · cases h
  · cases h
theorem run_loadVar_big {P : Program} (ty : TypeId) (n : Nat) (d : TypeDesc) (hu : P.underlying ty = some d) (hd : (match d with | .struct _ | .array _ _ => true | _ => false) = true) (hi : (P.info? ty).map (·.size) = some n)
    (w : World) (b off : Nat) (h : (cellsAt w ⟨b, off, none⟩ n).isSome = true) : (loadVar ty ⟨b, off, none⟩).run P w = .ok (.agg ((cellsAt w ⟨b, off, none⟩ n).getD #[])) w := by
  obtain ⟨cs, hcs⟩ := Option.isSome_iff_exists.1 h
  have hl : (loadCells ⟨b, off, none⟩ cs.toList.length).run P w = .ok cs.toList.toArray w := run_loadCells_list (P := P) w ⟨b, off, none⟩ cs.toList (cellsAt_cell hcs)
  have hsz := cellsAt_size hcs
  cases hq : P.info? ty with
  | none => simp [hq] at hi
  | some i =>
    have hs : i.size = cs.size := by rw [hsz]; simpa [hq] using hi
    have hagg : (isAgg ty).run P w = .ok true w := by
      unfold isAgg
      rw [Sem.run_bind, run_underlying hu w]
      cases d <;> simp_all
    simp only [Array.length_toList, Array.toArray_toList] at hl
    simp [loadVar, Sem.run_bind, hagg, sizeOf, typeInfo, hq, hs, hl, hcs]
/-! the operations on great values go behind names, so that the walk does not unfold them -/
def ldBig (t : TypeId) (x : Value) : Sem Value := Instr.loadAt t x
def ldBig' (t : TypeId) (x : Value) : Sem Value := Instr.loadAt t x
theorem run_ldBig {P : Program} (t : TypeId) (a : Addr) (w : World) : (ldBig t (.pointer (some a))).run P w = (loadVar t a).run P w := rfl
@[go_sem ↓] theorem loadAt_keys (x : Value) : Instr.loadAt 25 x = ldBig 25 x := rfl
@[go_sem ↓] theorem loadAt_roster (x : Value) : Instr.loadAt 29 x = ldBig 29 x := rfl
@[go_sem ↓] theorem loadAt_tree (x : Value) : Instr.loadAt 31 x = ldBig 31 x := rfl
@[go_sem] theorem load_keys (w : World) (b off : Nat) : (ldBig 25 (.pointer (some ⟨b, off, none⟩))).run Tryd.prog w = match cellsAt w ⟨b, off, none⟩ 42 with | some cs => .ok (.agg cs) w | none => (ldBig' 25 (.pointer (some ⟨b, off, none⟩))).run Tryd.prog w := by
  split
  · rename_i cs h; exact (run_loadVar_big _ 42 _ Tryd.underlying25 rfl (by kernel_rfl) w b off (by rw [h]; rfl)).trans (by rw [h]; rfl)
  · rfl
@[go_sem] theorem load_roster (w : World) (b off : Nat) : (ldBig 29 (.pointer (some ⟨b, off, none⟩))).run Tryd.prog w = match cellsAt w ⟨b, off, none⟩ 192 with | some cs => .ok (.agg cs) w | none => (ldBig' 29 (.pointer (some ⟨b, off, none⟩))).run Tryd.prog w := by
  split
  · rename_i cs h; exact (run_loadVar_big _ 192 _ Tryd.underlying29 rfl (by kernel_rfl) w b off (by rw [h]; rfl)).trans (by rw [h]; rfl)
  · rfl
@[go_sem] theorem load_tree (w : World) (b off : Nat) : (ldBig 31 (.pointer (some ⟨b, off, none⟩))).run Tryd.prog w = match cellsAt w ⟨b, off, none⟩ 236 with | some cs => .ok (.agg cs) w | none => (ldBig' 31 (.pointer (some ⟨b, off, none⟩))).run Tryd.prog w := by
  split
  · rename_i cs h; exact (run_loadVar_big _ 236 _ Tryd.underlying31 rfl (by kernel_rfl) w b off (by rw [h]; rfl)).trans (by rw [h]; rfl)
  · rfl

/-- A store of a whole great value into a block of its own. -/
def stBig' (t : TypeId) (x v : Value) : Sem Unit := Instr.storeAt t x v
def stBig (t : TypeId) (x v : Value) : Sem Unit := Instr.storeAt t x v
@[go_sem ↓] theorem storeAt_keys (x v : Value) : Instr.storeAt 25 x v = stBig 25 x v := rfl
@[go_sem ↓] theorem storeAt_roster (x v : Value) : Instr.storeAt 29 x v = stBig 29 x v := rfl
@[go_sem ↓] theorem storeAt_tree (x v : Value) : Instr.storeAt 31 x v = stBig 31 x v := rfl
/-- Is block b a row of n cells that may be written? -/
def rowOf (w : World) (b n : Nat) : Bool := match w.heap[b]? with | some (.cells c _ fr) => c.size == n && fr == (0, 0) | _ => false
theorem run_stBig {P : Program} (ty : TypeId) (n : Nat) (hi : (P.info? ty).map (·.size) = some n) (cs : Array Value) (hcs : cs.size = n) (h1 : ∀ v ∈ cs.toList, v.oneCell' = true)
    (w : World) (b : Nat) (h : rowOf w b n = true) : (stBig ty (.pointer (some ⟨b, 0, none⟩)) (.agg cs)).run P w = .ok () (w.setRow b cs) := by
  unfold rowOf at h
  split at h
  · rename_i c t fr hb
    simp only [Bool.and_eq_true, beq_iff_eq] at h
    obtain ⟨hc, rfl⟩ := h
    exact run_storeVar_row w b t ty c cs hb (by rw [hi, hcs]) (by rw [hc, hcs]) (by rw [Array.all_eq_true_iff_forall_mem]; intro v hv; exact h1 v (Array.mem_toList_iff.2 hv))
  · cases h

section
variable (w : World)
@[go_sem] theorem cellsAt_alloc_at (c : Array Value) (t : TypeId) (b off n : Nat) (hb : b = w.heap.size) : cellsAt (w.alloc (.cells c t)) ⟨b, off, none⟩ n = cellsIn c off n := by
  subst hb; unfold cellsAt; rw [Go.heap_alloc_new]; simp
@[go_sem] theorem cellsAt_alloc_past (o : Obj) (b off n : Nat) (hb : b < w.heap.size) : cellsAt (w.alloc o) ⟨b, off, none⟩ n = cellsAt w ⟨b, off, none⟩ n := by
  unfold cellsAt; rw [Below.heap_alloc w o b hb]
@[go_sem] theorem rowOf_alloc_at (c : Array Value) (t : TypeId) (b n : Nat) (hb : b = w.heap.size) : rowOf (w.alloc (.cells c t)) b n = (c.size == n) := by
  subst hb; unfold rowOf; rw [Go.heap_alloc_new]; simp
@[go_sem] theorem rowOf_alloc_past (o : Obj) (b n : Nat) (hb : b < w.heap.size) : rowOf (w.alloc o) b n = rowOf w b n := by
  unfold rowOf; rw [Below.heap_alloc w o b hb]
@[go_sem] theorem rowOf_drew (b n : Nat) : rowOf w.drew b n = rowOf w b n := rfl
theorem rowOf_blk {b : Nat} {c : Array Value} {t : TypeId} (h : w.heap[b]? = some (.cells c t (0, 0))) (n : Nat) : rowOf w b n = (c.size == n) := by
  simp [rowOf, h]
@[go_sem] theorem setRow_alloc_at (c cs : Array Value) (t : TypeId) (b : Nat) (hb : b = w.heap.size) : (w.alloc (.cells c t)).setRow b cs = w.alloc (.cells cs t) := by
  subst hb
  simp only [World.setRow, World.alloc]
  congr 1
  apply Array.ext
  · simp
  · intro i h1 h2
    simp only [Array.getElem_modify, Array.getElem_push]
    split <;> split <;> simp_all <;> omega
@[go_sem] theorem setRow_alloc_past (o : Obj) (cs : Array Value) (b : Nat) (hb : b < w.heap.size) : (w.alloc o).setRow b cs = (w.setRow b cs).alloc o := by
  simp only [World.setRow, World.alloc]
  congr 1
  apply Array.ext
  · simp
  · intro i h1 h2
    simp only [Array.getElem_modify, Array.getElem_push, Array.size_modify]
    split <;> split <;> simp_all <;> omega
@[go_sem] theorem setRow_drew (cs : Array Value) (b : Nat) : w.drew.setRow b cs = (w.setRow b cs).drew := rfl
@[go_sem] theorem cellsAt_drew (a : Addr) (n : Nat) : cellsAt w.drew a n = cellsAt w a n := rfl
theorem cellsAt_blk {b : Nat} {c : Array Value} {t : TypeId} {fr : Nat × Nat} (h : w.heap[b]? = some (.cells c t fr)) (off n : Nat) : cellsAt w ⟨b, off, none⟩ n = cellsIn c off n := by
  simp [cellsAt, h]
end
@[go_sem] theorem cellsIn_keys (k : Nat → Key) : cellsIn (keysC k) 0 42 = some (keysC k) := by
  have h := keysC_size k
  simp only [cellsIn, h]
  rw [if_pos (by omega)]
  congr 1
  rw [show (0 + 42 : Nat) = (keysC k).size by rw [h]]
  simp
@[go_sem] theorem cellsIn_roster (k : Nat → Entry) : cellsIn (rosterC k) 0 192 = some (rosterC k) := by
  have h := rosterC_size k
  simp only [cellsIn, h]
  rw [if_pos (by omega)]
  congr 1
  rw [show (0 + 192 : Nat) = (rosterC k).size by rw [h]]
  simp
@[go_sem] theorem cellsIn_tree (k : Tree) : cellsIn (treeC k) 0 236 = some (treeC k) := by
  have h := treeC_size k
  simp only [cellsIn, h]
  rw [if_pos (by omega)]
  congr 1
  rw [show (0 + 236 : Nat) = (treeC k).size by rw [h]]
  simp
@[go_sem] theorem cellsIn_tree_keys (k : Tree) : cellsIn (treeC k) 2 42 = some (keysC k.keys) := by
  simp only [cellsIn, treeC_size]
  rw [if_pos (by omega), treeC_keys]
@[go_sem] theorem cellsIn_tree_roster (k : Tree) : cellsIn (treeC k) 44 192 = some (rosterC k.roster) := by
  simp only [cellsIn, treeC_size]
  rw [if_pos (by omega), treeC_roster]

/-! single cells of the rows -/
@[go_sem] theorem keysC_get0 (k : Nat → Key) (j : Nat) (h : j < 21) : (keysC k)[j * 2]? = some (I (k j).base) := by
  unfold keysC; rw [tab_get_lt (by omega), keyCell_base]
@[go_sem] theorem keysC_get1 (k : Nat → Key) (j : Nat) (h : j < 21) : (keysC k)[j * 2 + 1]? = some (I (k j).step) := by
  unfold keysC; rw [tab_get_lt (by omega), keyCell_step]
@[go_sem] theorem rosterC_get0 (k : Nat → Entry) (j : Nat) (h : j < 64) : (rosterC k)[j * 3]? = some (I (k j).who) := by
  unfold rosterC; rw [tab_get_lt (by omega), entCell_who]
@[go_sem] theorem rosterC_get1 (k : Nat → Entry) (j : Nat) (h : j < 64) : (rosterC k)[j * 3 + 1]? = some (I (k j).base) := by
  unfold rosterC; rw [tab_get_lt (by omega), entCell_base]
@[go_sem] theorem rosterC_get2 (k : Nat → Entry) (j : Nat) (h : j < 64) : (rosterC k)[j * 3 + 2]? = some (I (k j).since) := by
  unfold rosterC; rw [tab_get_lt (by omega), entCell_since]
@[go_sem] theorem treeC_get0 (t : Tree) : (treeC t)[0]? = some (I t.epoch) := treeC_epoch t
@[go_sem] theorem treeC_get1 (t : Tree) : (treeC t)[1]? = some (I t.fresh) := treeC_fresh t
theorem treeC_get_key (t : Tree) (p : Nat) (h : p < 42) : (treeC t)[2 + p]? = some (keyCell t.keys p) := by
  unfold treeC; rw [tab_get_lt (by omega)]; unfold treeCell; rw [if_neg (by omega), if_neg (by omega), if_pos (by omega), show 2 + p - 2 = p by omega]
theorem treeC_get_ent (t : Tree) (p : Nat) (h : p < 192) : (treeC t)[44 + p]? = some (entCell t.roster p) := by
  unfold treeC; rw [tab_get_lt (by omega)]; unfold treeCell; rw [if_neg (by omega), if_neg (by omega), if_neg (by omega), show 44 + p - 44 = p by omega]
@[go_sem] theorem treeC_key0 (t : Tree) (j : Nat) (h : j < 21) : (treeC t)[2 + j * 2]? = some (I (t.keys j).base) := by
  rw [treeC_get_key t _ (by omega), keyCell_base]
@[go_sem] theorem treeC_key1 (t : Tree) (j : Nat) (h : j < 21) : (treeC t)[2 + j * 2 + 1]? = some (I (t.keys j).step) := by
  rw [Nat.add_assoc, treeC_get_key t _ (by omega), keyCell_step]
@[go_sem] theorem treeC_ent0 (t : Tree) (j : Nat) (h : j < 64) : (treeC t)[44 + j * 3]? = some (I (t.roster j).who) := by
  rw [treeC_get_ent t _ (by omega), entCell_who]
@[go_sem] theorem treeC_ent1 (t : Tree) (j : Nat) (h : j < 64) : (treeC t)[44 + j * 3 + 1]? = some (I (t.roster j).base) := by
  rw [Nat.add_assoc, treeC_get_ent t _ (by omega), entCell_base]
@[go_sem] theorem treeC_ent2 (t : Tree) (j : Nat) (h : j < 64) : (treeC t)[44 + j * 3 + 2]? = some (I (t.roster j).since) := by
  rw [Nat.add_assoc, treeC_get_ent t _ (by omega), entCell_since]

/-! 'x[i]' of an array value -/
theorem run_index_arr {P : Program} {t e : TypeId} {n s : Nat} (hu : P.underlying t = some (.array n e)) (hi : (P.info? e).map (·.size) = some s) (w : World) (cs : Array Value) (j : Nat) (hj : j < n) (R : Value)
    (hp : ∀ w : World, (part e cs (j * s)).run P w = .ok R w) : (Instr.index t (.agg cs) (.int .i64 (j : Int))).run P w = .ok R w := by
  cases hq : P.info? e with
  | none => simp [hq] at hi
  | some i =>
    have hs : i.size = s := by simpa [hq] using hi
    have hb : 0 ≤ (j : Int) ∧ (j : Int) < (n : Int) := ⟨by omega, by omega⟩
    simp [Instr.index, asIntOf, Sem.run_bind, run_underlying hu, sizeOf, typeInfo, hq, hs, hp w]
    intro h; omega
theorem run_part_agg {P : Program} {e : TypeId} {s : Nat} {d : TypeDesc} (hu : P.underlying e = some d) (hd : (match d with | .struct _ | .array _ _ => true | _ => false) = true) (hi : (P.info? e).map (·.size) = some s)
    (cs out : Array Value) (off : Nat) (hx : cs.extract off (off + s) = out) (w : World) : (part e cs off).run P w = .ok (.agg out) w := by
  cases hq : P.info? e with
  | none => simp [hq] at hi
  | some i =>
    have hs : i.size = s := by simpa [hq] using hi
    have hagg : (isAgg e).run P w = .ok true w := by
      unfold isAgg
      rw [Sem.run_bind, run_underlying hu w]
      cases d <;> simp_all
    simp [part, Sem.run_bind, hagg, sizeOf, typeInfo, hq, hs, hx]
def ixBig (t : TypeId) (x i : Value) : Sem Value := Instr.index t x i
@[go_sem ↓] theorem index_at_keys (x i : Value) : Instr.index 25 x i = ixBig 25 x i := rfl
@[go_sem ↓] theorem index_at_roster (x i : Value) : Instr.index 29 x i = ixBig 29 x i := rfl
@[go_sem] theorem index_keys (w : World) (k : Nat → Key) (j : Nat) (h : j < 21) : (ixBig 25 (.agg (keysC k)) (.int .i64 (j : Int))).run Tryd.prog w = .ok (.agg #[I (k j).base, I (k j).step]) w :=
  run_index_arr Tryd.underlying25 (s := 2) (by kernel_rfl) w _ j h _ fun w => run_part_agg Tryd.underlying23 rfl (by kernel_rfl) _ _ _ (keysC_at k j h) w
@[go_sem] theorem index_roster (w : World) (k : Nat → Entry) (j : Nat) (h : j < 64) : (ixBig 29 (.agg (rosterC k)) (.int .i64 (j : Int))).run Tryd.prog w = .ok (.agg #[I (k j).who, I (k j).base, I (k j).since]) w :=
  run_index_arr Tryd.underlying29 (s := 3) (by kernel_rfl) w _ j h _ fun w => run_part_agg Tryd.underlying27 rfl (by kernel_rfl) _ _ _ (rosterC_at k j h) w

/-! zero values; composite literals -/
theorem oneCell_tab (n : Nat) (f : Nat → Value) (h : ∀ p, (f p).oneCell' = true) : ∀ v ∈ (tab n f).toList, v.oneCell' = true := by
  rw [tab_toList]; unfold tabL
  intro v hv
  obtain ⟨p, _, rfl⟩ := List.mem_map.1 hv
  exact h p
theorem oneCell_keys (k : Nat → Key) : ∀ v ∈ (keysC k).toList, v.oneCell' = true := by unfold keysC; exact oneCell_tab _ _ fun p => rfl
theorem oneCell_roster (k : Nat → Entry) : ∀ v ∈ (rosterC k).toList, v.oneCell' = true := by unfold rosterC; exact oneCell_tab _ _ fun p => rfl
theorem oneCell_tree (k : Tree) : ∀ v ∈ (treeC k).toList, v.oneCell' = true := by
  unfold treeC; refine oneCell_tab _ _ fun p => ?_
  unfold treeCell; split; · rfl
  split; · rfl
  split <;> rfl
@[go_sem] theorem store_keys (w : World) (b : Nat) (k : Nat → Key) : (stBig 25 (.pointer (some ⟨b, 0, none⟩)) (.agg (keysC k))).run Tryd.prog w = if rowOf w b 42 = true then .ok () (w.setRow b (keysC k)) else (stBig' 25 (.pointer (some ⟨b, 0, none⟩)) (.agg (keysC k))).run Tryd.prog w := by
  split
  · rename_i h; exact run_stBig _ 42 (by kernel_rfl) _ (keysC_size k) (oneCell_keys k) w b h
  · rfl
@[go_sem] theorem store_roster (w : World) (b : Nat) (k : Nat → Entry) : (stBig 29 (.pointer (some ⟨b, 0, none⟩)) (.agg (rosterC k))).run Tryd.prog w = if rowOf w b 192 = true then .ok () (w.setRow b (rosterC k)) else (stBig' 29 (.pointer (some ⟨b, 0, none⟩)) (.agg (rosterC k))).run Tryd.prog w := by
  split
  · rename_i h; exact run_stBig _ 192 (by kernel_rfl) _ (rosterC_size k) (oneCell_roster k) w b h
  · rfl
@[go_sem] theorem store_tree (w : World) (b : Nat) (k : Tree) : (stBig 31 (.pointer (some ⟨b, 0, none⟩)) (.agg (treeC k))).run Tryd.prog w = if rowOf w b 236 = true then .ok () (w.setRow b (treeC k)) else (stBig' 31 (.pointer (some ⟨b, 0, none⟩)) (.agg (treeC k))).run Tryd.prog w := by
  split
  · rename_i h; exact run_stBig _ 236 (by kernel_rfl) _ (treeC_size k) (oneCell_tree k) w b h
  · rfl

def keys0 : Nat → Key := fun _ => ⟨0, 0⟩
def roster0 : Nat → Entry := fun _ => ⟨0, 0, 0⟩
def tree0 : Tree := ⟨0, 0, keys0, roster0⟩
@[go_sem] theorem keysC_size_b (k : Nat → Key) : ((keysC k).size == 42) = true := by rw [keysC_size]; rfl
@[go_sem] theorem rosterC_size_b (k : Nat → Entry) : ((rosterC k).size == 192) = true := by rw [rosterC_size]; rfl
@[go_sem] theorem treeC_size_b (k : Tree) : ((treeC k).size == 236) = true := by rw [treeC_size]; rfl
def alBig (t : TypeId) (old : Value) : Sem Value := Instr.alloc t true old
@[go_sem ↓] theorem alloc_at_keys (v : Value) : Instr.alloc 25 true v = alBig 25 v := rfl
@[go_sem ↓] theorem alloc_at_roster (v : Value) : Instr.alloc 29 true v = alBig 29 v := rfl
@[go_sem ↓] theorem alloc_at_tree (v : Value) : Instr.alloc 31 true v = alBig 31 v := rfl
@[go_sem] theorem alloc_keys (w : World) : (alBig 25 (.tuple #[])).run Tryd.prog w = .ok (.pointer (some ⟨w.heap.size, 0, none⟩)) (w.alloc (.cells (keysC keys0) 25)) := by kernel_rfl
@[go_sem] theorem alloc_roster (w : World) : (alBig 29 (.tuple #[])).run Tryd.prog w = .ok (.pointer (some ⟨w.heap.size, 0, none⟩)) (w.alloc (.cells (rosterC roster0) 29)) := by kernel_rfl
@[go_sem] theorem alloc_tree (w : World) : (alBig 31 (.tuple #[])).run Tryd.prog w = .ok (.pointer (some ⟨w.heap.size, 0, none⟩)) (w.alloc (.cells (treeC tree0) 31)) := by kernel_rfl
def buBig (t : TypeId) (parts : Array (Nat × Value)) : Sem Value := Instr.build t parts
@[go_sem ↓] theorem build_at_keys (v : Array (Nat × Value)) : Instr.build 25 v = buBig 25 v := rfl
@[go_sem ↓] theorem build_at_roster (v : Array (Nat × Value)) : Instr.build 29 v = buBig 29 v := rfl
@[go_sem ↓] theorem build_at_tree (v : Array (Nat × Value)) : Instr.build 31 v = buBig 31 v := rfl
@[go_sem] theorem build_keys (w : World) : (buBig 25 #[]).run Tryd.prog w = .ok (.agg (keysC keys0)) w := by kernel_rfl
@[go_sem] theorem build_roster (w : World) : (buBig 29 #[]).run Tryd.prog w = .ok (.agg (rosterC roster0)) w := by kernel_rfl
@[go_sem] theorem build_tree (w : World) : (buBig 31 #[]).run Tryd.prog w = .ok (.agg (treeC tree0)) w := by kernel_rfl

/-! a store and a load at one address: without a condition (the walk's simp discharges conditions two deep only) -/
@[go_sem high] theorem cell?_setCell_self (w : World) (b o : Nat) (v : Value) : (w.setCell ⟨b, o, none⟩ v).cell? ⟨b, o, none⟩ = (w.cell? ⟨b, o, none⟩).map fun _ => v := by
  cases h : w.cell? ⟨b, o, none⟩ with
  | some u => rw [World.cell?_setCell_same w _ v h]; rfl
  | none =>
    simp only [Option.map_none]
    unfold World.cell? at h ⊢
    simp only [World.setCell, Array.getElem?_modify, if_true]
    cases hb : w.heap[b]? with
    | none => rfl
    | some ob =>
      rw [hb] at h
      cases ob <;> first | rfl | (simp at h ⊢; omega)

/-! a literal is not wrapped (inside a region that draws its order the walk does not ask linear arithmetic) -/
@[go_sem] theorem wrap_lit (n : Nat) (h : n ≤ 1099511627776) : IntKind.i64.wrap (no_index (OfNat.ofNat n : Int)) = (OfNat.ofNat n : Int) := IntWalk.i64_in _ (by
  have e : (OfNat.ofNat n : Int) = (n : Int) := rfl
  rw [e]; omega)
@[go_sem] theorem wrap_zero : IntKind.i64.wrap 0 = 0 := by decide
@[go_sem] theorem wrap_one : IntKind.i64.wrap 1 = 1 := by decide
end Go.Proofs.YtodgcmakdndbfaaDoor
