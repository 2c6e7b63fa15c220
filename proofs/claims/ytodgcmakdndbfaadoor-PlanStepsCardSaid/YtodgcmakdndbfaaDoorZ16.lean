/-
  Parts of a proof: NextS, NextG, Next1, Move3, SetC. Merged by program.
-/
import Derived.Test.YtodgcmakdndbfaaDoorZ15
/-
  Plain: how a tree goes one step on; the new tree is right. No program, no world.
-/
namespace Cot
open Go.Proofs.YtodgcmakdndbfaaDoor
def cntR (t : Tree) (lv : List Int) : Nat := cntOf (replP (seatsOf t.roster lv)) 21
noncomputable def errI (t : Tree) (lv jn : List Int) : Int :=
  if ¬ RightTree t then 31 else if t.epoch = 200 then 19 else if fitsS t.roster lv jn ≠ 0 then fitsS t.roster lv jn else if 32768 < t.fresh + (cntR t lv : Nat) + (jn.length : Nat) then 3 else 0
def nextT (t : Tree) (lv jn : List Int) : Tree :=
  ⟨t.epoch + 1, t.fresh + (cntR t lv : Nat) + (jn.length : Nat), turnK t.keys (replP (seatsOf t.roster lv)) t.fresh, moveR t.roster lv jn (t.epoch + 1) (t.fresh + (cntR t lv : Nat))⟩
/-- A step that is taken. -/
structure StepOK (t : Tree) (lv jn : List Int) : Prop where
  right : RightTree t
  epoch : t.epoch < 200
  fits : fitsS t.roster lv jn = 0
  room : t.fresh + (cntR t lv : Nat) + (jn.length : Nat) ≤ 32768
theorem step_ok {t : Tree} {lv jn : List Int} (h : errI t lv jn = 0) : StepOK t lv jn := by
  unfold errI at h
  by_cases h0 : RightTree t
  · rw [if_neg (by simpa using h0)] at h
    by_cases h1 : t.epoch = 200
    · rw [if_pos h1] at h; exact absurd h (by decide)
    · rw [if_neg h1] at h
      by_cases h2 : fitsS t.roster lv jn = 0
      · rw [if_neg (by simpa using h2)] at h
        by_cases h3 : 32768 < t.fresh + (cntR t lv : Nat) + (jn.length : Nat)
        · rw [if_pos h3] at h; exact absurd h (by decide)
        · exact ⟨h0, by have := h0.epoch1; omega, h2, by omega⟩
      · rw [if_pos h2] at h; exact absurd h h2
  · rw [if_pos h0] at h; exact absurd h (by decide)
theorem ok_step {t : Tree} {lv jn : List Int} (h : StepOK t lv jn) : errI t lv jn = 0 := by
  unfold errI
  rw [if_neg (by simpa using h.right), if_neg (by have := h.epoch; omega), if_neg (by simpa using h.fits), if_neg (by have := h.room; omega)]
theorem err_tree {t : Tree} {lv jn : List Int} (h : ¬ RightTree t) : errI t lv jn = 31 := by unfold errI; rw [if_pos h]
theorem err_epoch {t : Tree} {lv jn : List Int} (h : RightTree t) (he : t.epoch = 200) : errI t lv jn = 19 := by unfold errI; rw [if_neg (by simpa using h), if_pos he]
theorem err_fits {t : Tree} {lv jn : List Int} (h : RightTree t) (he : t.epoch ≠ 200) (hf : fitsS t.roster lv jn ≠ 0) : errI t lv jn = fitsS t.roster lv jn := by unfold errI; rw [if_neg (by simpa using h), if_neg he, if_pos hf]
theorem err_room {t : Tree} {lv jn : List Int} (h : RightTree t) (he : t.epoch ≠ 200) (hf : fitsS t.roster lv jn = 0) (hr : 32768 < t.fresh + (cntR t lv : Nat) + (jn.length : Nat)) : errI t lv jn = 3 := by
  unfold errI; rw [if_neg (by simpa using h), if_neg he, if_neg (by simpa using hf), if_pos hr]
theorem seats_ok {r : Nat → Entry} {lv jn : List Int} (F : FitsOK r lv jn) : okSlots (seatsOf r lv) := by
  intro x hx
  unfold seatsOf at hx
  obtain ⟨y, hy, rfl⟩ := List.mem_map.1 hx
  obtain ⟨n, hn⟩ := List.getElem?_of_mem hy
  obtain ⟨_, _, hf⟩ := F.leaves n y hn
  obtain ⟨m, hm, e, _⟩ := findI_nat hf
  exact ⟨hf, by show findI r y < 64; omega⟩
theorem seats_len (r : Nat → Entry) (lv : List Int) : (seatsOf r lv).length = lv.length := by unfold seatsOf; simp
theorem joins_ok {r : Nat → Entry} {lv jn : List Int} (F : FitsOK r lv jn) : okSlots (moveJ r lv jn) := by
  intro x hx
  unfold moveJ joinL at hx
  obtain ⟨i, hi, rfl⟩ := List.mem_map.1 hx
  have hr := free_room F
  have hi' := List.mem_range.1 hi
  obtain ⟨s, hs⟩ := some_of_lt (show i < (freeP (takenP (goneR r lv))).length by omega)
  have h64 := (free_at hs).1
  show (0 : Int) ≤ ((List.getD _ i 0 : Nat) : Int) ∧ ((List.getD _ i 0 : Nat) : Int) < 64
  simp only [List.getD, hs, Option.getD_some]
  omega
theorem joins_len (r : Nat → Entry) (lv jn : List Int) : (moveJ r lv jn).length = jn.length := joinL_len _ _ _

/-! ### the new keys -/
theorem above_lt {p : Nat → Bool} : ∀ (d v : Nat), v + d < 21 → p (v + d) = true → aboveN p (v + d + 1) < aboveN p v
  | 0, v, h, hp => by have := aboveN_step p v (by omega); rw [Nat.add_zero] at hp; rw [hp] at this; simp at this; simp; omega
  | d + 1, v, h, hp => by
    have h1 := above_lt d (v + 1) (by omega) (by rw [show v + 1 + d = v + (d + 1) by omega]; exact hp)
    have h2 := aboveN_step p v (by omega)
    rw [show v + 1 + d + 1 = v + (d + 1) + 1 by omega] at h1
    omega
theorem above_all {p : Nat → Bool} {v : Nat} (hv : v < 21) (hp : p v = true) : aboveN p (v + 1) < cntOf p 21 := by
  have := above_lt v 0 (by omega) (by simpa using hp)
  rw [aboveN_all] at this
  simpa using this
theorem turn_base {k : Nat → Key} {p : Nat → Bool} {f : Int} {v : Nat} : (turnK k p f v).base = if p v then f + aboveN p (v + 1) else (k v).base := by unfold turnK; split <;> rfl
theorem turn_step {k : Nat → Key} {p : Nat → Bool} {f : Int} {v : Nat} : (turnK k p f v).step = if p v then 0 else (k v).step + 1 := by unfold turnK; split <;> rfl
theorem turn_right {k : Nat → Key} {p : Nat → Bool} {f : Int} (hk : RightKeys k) (hb : ∀ j, j < 21 → (k j).base < f) (hs : ∀ j, j < 21 → (k j).step ≤ 254) (hf : 1 ≤ f) (hr : f + (cntOf p 21 : Nat) ≤ 32768) : RightKeys (turnK k p f) := by
  intro j hj
  obtain ⟨⟨⟨hg1, hg2⟩, hg3, hg4⟩, ho⟩ := (hk j hj).1
  have hbj := hb j hj
  have hsj := hs j hj
  refine ⟨⟨?_, ?_⟩, fun i hi => ?_⟩
  · unfold goodK
    rw [turn_base, turn_step]
    cases hp : p j
    · simp; omega
    · have := above_all hj hp
      simp; omega
  · rw [turn_base]
    cases hp : p j
    · simp; omega
    · have := above_all hj hp
      simp; omega
  · rw [turn_base, turn_base]
    have hbi := hb i (by omega)
    have hne := (hk j hj).2 i hi
    cases hpi : p i <;> cases hpj : p j
    · simpa using hne
    · simp; omega
    · simp; omega
    · have := above_lt (p := p) (j - (i + 1)) (i + 1) (by omega) (by rw [show i + 1 + (j - (i + 1)) = j by omega]; exact hpj)
      rw [show i + 1 + (j - (i + 1)) + 1 = j + 1 by omega] at this
      simp; omega

/-! ### the new roster -/
theorem join_cases {r : Nat → Entry} {fl : List Nat} {jn : List Int} {since base : Int} : ∀ k, k ≤ fl.length → k ≤ jn.length → ∀ s, (∃ i x, i < k ∧ fl[i]? = some s ∧ jn[i]? = some x ∧ joinR r fl jn since base k s = ⟨x, base + i, since⟩) ∨ (s ∉ fl.take k ∧ joinR r fl jn since base k s = r s)
  | 0, _, _, s => .inr ⟨by simp, rfl⟩
  | k + 1, h1, h2, s => by
    obtain ⟨q, hq⟩ := some_of_lt (show k < fl.length by omega)
    obtain ⟨x, hx⟩ := some_of_lt (show k < jn.length by omega)
    have hg : fl.getD k 0 = q := by simp [List.getD, hq]
    have hgx : jn.getD k 0 = x := by simp [List.getD, hx]
    show (∃ i y, i < k + 1 ∧ fl[i]? = some s ∧ jn[i]? = some y ∧ upd (joinR r fl jn since base k) (fl.getD k 0) ⟨jn.getD k 0, base + k, since⟩ s = _) ∨ (_ ∧ upd (joinR r fl jn since base k) (fl.getD k 0) ⟨jn.getD k 0, base + k, since⟩ s = _)
    rw [hg, hgx]
    by_cases h : s = q
    · subst h
      exact .inl ⟨k, x, by omega, hq, hx, upd_same _ _ _⟩
    · rw [upd_other _ _ _ h]
      rcases join_cases (r := r) (fl := fl) (jn := jn) (since := since) (base := base) k (by omega) (by omega) s with ⟨i, y, hi, hs, hy, e⟩ | ⟨hno, e⟩
      · exact .inl ⟨i, y, by omega, hs, hy, e⟩
      · refine .inr ⟨?_, e⟩
        rw [take_snoc' hq]; simp [hno, h]
theorem gone_cases (r : Nat → Entry) (l : List Int) (s : Nat) : goneR r l s = Entry.zero ∨ (goneR r l s = r s ∧ ((takenP r s = true → (r s).who ∉ l))) := by
  unfold goneR
  by_cases h : (takenP r s && l.contains (r s).who) = true
  · rw [if_pos h]; exact .inl rfl
  · rw [if_neg h]
    refine .inr ⟨rfl, fun ht hm => h ?_⟩
    rw [ht]; simpa using hm
/-- An entry of the new roster: free; one that stayed; or one who joined. -/
inductive NewEntry (r : Nat → Entry) (lv jn : List Int) (since base : Int) (s : Nat) (e : Entry) : Prop
  | free (h : e = Entry.zero)
  | stayed (h : e = r s) (ht : takenP r s = true) (hl : (r s).who ∉ lv)
  | joined (i : Nat) (x : Int) (hi : jn[i]? = some x) (hf : (freeP (takenP (goneR r lv)))[i]? = some s) (h : e = ⟨x, base + i, since⟩)
theorem move_entry {r : Nat → Entry} {lv jn : List Int} {since base : Int} (F : FitsOK r lv jn) (s : Nat) (hs : s < 64) : NewEntry r lv jn since base s (moveR r lv jn since base s) := by
  rcases join_cases (r := goneR r lv) (since := since) (base := base) jn.length (free_room F) (Nat.le_refl _) s with ⟨i, x, _, hf, hx, e⟩ | ⟨_, e⟩
  · exact .joined i x hx hf e
  · rcases gone_cases r lv s with h | ⟨h, hl⟩
    · exact .free (e.trans h)
    · by_cases ht : takenP r s = true
      · exact .stayed (e.trans h) ht (hl ht)
      · have h0 : (r s).base = 0 := by unfold takenP at ht; simpa using ht
        rcases F.right s hs with hz | ⟨hz, _⟩
        · exact .free ((e.trans h).trans hz)
        · unfold rightE at hz; omega
theorem not_on {r : Nat → Entry} {x : Int} (h : ¬ 0 ≤ findI r x) {s : Nat} (hs : s < 64) (ht : takenP r s = true) : (r s).who ≠ x := by
  intro e
  rw [findI_eq] at h
  rcases firstI_cases (whoP r x) with ⟨n, _, e2, _⟩ | ⟨_, hno⟩
  · rw [e2] at h; omega
  · have := hno s hs
    unfold whoP at this
    rw [ht, e] at this
    simp at this
theorem take_idx {l : List Int} {i j : Nat} {x : Int} (hi : l[i]? = some x) (h : i < j) : x ∈ l.take j := List.mem_of_getElem? (i := i) (by rw [List.getElem?_take, if_pos h]; exact hi)
theorem join_apart {r : Nat → Entry} {lv jn : List Int} (F : FitsOK r lv jn) {i j : Nat} {x y : Int} (hi : jn[i]? = some x) (hj : jn[j]? = some y) (h : i < j) : x ≠ y := by
  intro e; subst e
  obtain ⟨_, hno, _⟩ := F.joins j x hj
  exact hno (List.mem_append.2 (.inr (take_idx hi h)))
theorem right_apart {r : Nat → Entry} (hR : RightRoster r) {i j : Nat} (hi : i < 64) (hj : j < 64) (hne : i ≠ j) (ti : takenP r i = true) (tj : takenP r j = true) : (r i).who ≠ (r j).who ∧ (r i).base ≠ (r j).base := by
  unfold takenP at ti tj
  simp only [decide_eq_true_eq] at ti tj
  have zero : ∀ k, r k = Entry.zero → (r k).base = 0 := fun k e => by rw [e]; rfl
  rcases Nat.lt_or_gt_of_ne hne with h | h
  · rcases hR j hj with e | ⟨_, e⟩
    · exact absurd (zero j e) tj
    · rcases e i h with e | e
      · exact absurd (zero i e) ti
      · exact e
  · rcases hR i hi with e | ⟨_, e⟩
    · exact absurd (zero i e) ti
    · rcases e j h with e | e
      · exact absurd (zero j e) tj
      · exact ⟨e.1.symm, e.2.symm⟩
theorem right_taken {r : Nat → Entry} (hR : RightRoster r) {s : Nat} (hs : s < 64) (ht : takenP r s = true) : rightE (r s) := by
  rcases hR s hs with e | ⟨e, _⟩
  · unfold takenP at ht; rw [e] at ht; exact absurd ht (by decide)
  · exact e
theorem move_right {r : Nat → Entry} {lv jn : List Int} {since base : Int} (F : FitsOK r lv jn) (hb : ∀ j, j < 64 → (r j).base < base) (h1 : 1 ≤ since) (h2 : since ≤ 200) (h3 : 1 ≤ base) (h4 : base + jn.length ≤ 32768) : RightRoster (moveR r lv jn since base) := by
  intro j hj
  have hlen : ∀ {i : Nat} {x : Int}, jn[i]? = some x → i < jn.length := fun h => (List.getElem?_eq_some_iff.1 h).1
  rcases move_entry (since := since) (base := base) F j hj with e | ⟨e, tj, lj⟩ | ⟨n, x, hn, hfn, e⟩
  · exact .inl e
  · refine .inr ⟨by rw [e]; exact right_taken F.right hj tj, fun i hi => ?_⟩
    rcases move_entry (since := since) (base := base) F i (by omega) with e' | ⟨e', ti, li⟩ | ⟨m, y, hm, hfm, e'⟩
    · exact .inl e'
    · rw [e, e']; exact .inr (right_apart F.right (by omega) hj (by omega) ti tj)
    · rw [e, e']
      have hy := (F.joins m y hm).2.2
      exact .inr ⟨(not_on hy hj tj).symm, by have := hb j hj; show base + m ≠ (r j).base; omega⟩
  · have hx := F.joins n x hn
    have hnl := hlen hn
    refine .inr ⟨by rw [e]; exact ⟨hx.1, ⟨by show 1 ≤ base + n; omega, by show base + n < 32768; omega⟩, h1, h2⟩, fun i hi => ?_⟩
    rcases move_entry (since := since) (base := base) F i (by omega) with e' | ⟨e', ti, li⟩ | ⟨m, y, hm, hfm, e'⟩
    · exact .inl e'
    · rw [e, e']
      exact .inr ⟨not_on hx.2.2 (by omega) ti, by have := hb i (by omega); show (r i).base ≠ base + n; omega⟩
    · rw [e, e']
      have hne : m ≠ n := by intro h; subst h; rw [hfm] at hfn; cases hfn; omega
      refine .inr ⟨?_, by show base + m ≠ base + n; omega⟩
      rcases Nat.lt_or_gt_of_ne hne with h | h
      · exact join_apart F hm hn h
      · exact (join_apart F hn hm h).symm
theorem next_right {t : Tree} {lv jn : List Int} (h : StepOK t lv jn) : RightTree (nextT t lv jn) := by
  have T := h.right
  have F := fits_ok h.fits
  have he := h.epoch
  have hr := h.room
  have h0 := T.epoch0
  have hf := T.fresh0
  have hst : ∀ j, j < 21 → (t.keys j).step ≤ 254 := fun j hj => by have := (T.kb j hj).2; omega
  have hkb : ∀ j, j < 21 → (t.keys j).base < t.fresh := fun j hj => (T.kb j hj).1
  have hrb : ∀ j, j < 64 → (t.roster j).base < t.fresh + (cntR t lv : Nat) := fun j hj => by have := (T.eb j hj).1.1; omega
  have hc : ∀ {v : Nat}, v < 21 → replP (seatsOf t.roster lv) v = true → aboveN (replP (seatsOf t.roster lv)) (v + 1) < cntR t lv := fun hv hp => above_all hv hp
  have hlen : ∀ {i : Nat} {x : Int}, jn[i]? = some x → i < jn.length := fun h => (List.getElem?_eq_some_iff.1 h).1
  refine ⟨by show 0 ≤ t.epoch + 1; omega, by show t.epoch + 1 ≤ 200; omega, by show 21 < t.fresh + (cntR t lv : Nat) + (jn.length : Nat); omega, hr, turn_right T.keys hkb hst (by omega) (by have : cntOf (replP (seatsOf t.roster lv)) 21 = cntR t lv := rfl; omega), move_right F hrb (by omega) (by omega) (by omega) (by omega), fun j hj => ?_, fun s hs => ?_⟩
  · show (turnK t.keys _ t.fresh j).base < t.fresh + (cntR t lv : Nat) + (jn.length : Nat) ∧ (turnK t.keys _ t.fresh j).step ≤ t.epoch + 1
    rw [turn_base, turn_step]
    have h1 := T.kb j hj
    cases hp : replP (seatsOf t.roster lv) j
    · simp; omega
    · have := hc hj hp
      simp; omega
  · show ((moveR t.roster lv jn (t.epoch + 1) (t.fresh + (cntR t lv : Nat)) s).base < t.fresh + (cntR t lv : Nat) + (jn.length : Nat) ∧ (moveR t.roster lv jn (t.epoch + 1) (t.fresh + (cntR t lv : Nat)) s).since ≤ t.epoch + 1) ∧ ∀ j, j < 21 → (turnK t.keys _ t.fresh j).base ≠ (moveR t.roster lv jn (t.epoch + 1) (t.fresh + (cntR t lv : Nat)) s).base
    have hke : ∀ j, j < 21 → (1 ≤ (turnK t.keys (replP (seatsOf t.roster lv)) t.fresh j).base ∧ (turnK t.keys (replP (seatsOf t.roster lv)) t.fresh j).base < t.fresh + (cntR t lv : Nat)) := fun j hj => by
      rw [turn_base]
      have h1 := T.kb j hj
      have h2 := ((T.keys j hj).1.1).1.1
      cases hp : replP (seatsOf t.roster lv) j
      · simp; omega
      · have := hc hj hp
        simp; omega
    rcases move_entry (since := t.epoch + 1) (base := t.fresh + (cntR t lv : Nat)) F s hs with e | ⟨e, ts, _⟩ | ⟨n, x, hn, _, e⟩
    · rw [e]
      refine ⟨⟨by show (0 : Int) < _; omega, by show (0 : Int) ≤ _; omega⟩, fun j hj => ?_⟩
      have := hke j hj
      show _ ≠ (0 : Int); omega
    · rw [e]
      have h1 := T.eb s hs
      refine ⟨⟨by omega, by omega⟩, fun j hj => ?_⟩
      rw [turn_base]
      cases hp : replP (seatsOf t.roster lv) j
      · simpa using h1.2 j hj
      · simp; omega
    · rw [e]
      have := hlen hn
      refine ⟨⟨by show t.fresh + (cntR t lv : Nat) + (n : Nat) < _; omega, by show t.epoch + 1 ≤ t.epoch + 1; omega⟩, fun j hj => ?_⟩
      have := hke j hj
      show _ ≠ t.fresh + (cntR t lv : Nat) + (n : Nat); omega
end Cot
/-
  Plain: the keys of a right tree's nodes are good. No program, no world.
-/
namespace Cot
open Go.Proofs.YtodgcmakdndbfaaDoor
theorem leaf_good {t : Tree} (T : RightTree t) {s : Nat} (hs : s < 64) (ht : takenP t.roster s = true) : nodeKI t (21 + s) = (⟨(t.roster s).base, t.epoch - (t.roster s).since⟩, 0) ∧ goodK (nodeK t (21 + s)) := by
  obtain ⟨_, ⟨hb1, hb2⟩, hs1, hs2⟩ := right_taken T.roster hs ht
  have he := (T.eb s hs).1.2
  have h1 := T.epoch1
  have e : nodeKI t (21 + s) = (⟨(t.roster s).base, t.epoch - (t.roster s).since⟩, 0) := by
    unfold nodeKI
    rw [if_neg (by omega), show 21 + s - 21 = s by omega]
    unfold leafAtS
    rw [if_neg (by omega), if_neg (by omega), if_neg (by omega), if_neg (by omega)]
  refine ⟨e, ?_⟩
  unfold nodeK; rw [e]
  exact ⟨⟨hb1, by show (t.roster s).base ≤ 65535; omega⟩, by show 0 ≤ t.epoch - (t.roster s).since; omega, by show t.epoch - (t.roster s).since ≤ 255; omega⟩
theorem inner_good {t : Tree} (T : RightTree t) {v : Nat} (hv : v < 21) : nodeKI t v = (t.keys v, 0) ∧ goodK (nodeK t v) := by
  have e : nodeKI t v = (t.keys v, 0) := by unfold nodeKI; rw [if_pos hv]
  exact ⟨e, by unfold nodeK; rw [e]; exact (T.keys v hv).1.1⟩
theorem held_good {t : Tree} (T : RightTree t) {c : Nat} (hc : c < 85) (hh : heldP t.roster c = true) : goodK (nodeK t c) := by
  by_cases h : c < 21
  · exact (inner_good T h).2
  · unfold heldP at hh
    rw [List.any_eq_true] at hh
    obtain ⟨s, hs, hu⟩ := hh
    rw [Bool.and_eq_true] at hu
    have hs' := List.mem_range.1 hs
    have : c = 21 + s := by
      have h2 := hu.2
      unfold up at h2
      simp only [Bool.or_eq_true, beq_iff_eq] at h2
      omega
    subst this
    exact (leaf_good T hs' hu.1).2
theorem join_taken {t : Tree} {lv jn : List Int} (h : StepOK t lv jn) {x : Seat} (hx : x ∈ moveJ t.roster lv jn) : x.slot.toNat < 64 ∧ takenP (nextT t lv jn).roster x.slot.toNat = true := by
  have F := fits_ok h.fits
  have hok := joins_ok F x hx
  refine ⟨by omega, ?_⟩
  unfold moveJ joinL at hx
  obtain ⟨i, hi, rfl⟩ := List.mem_map.1 hx
  have hi' := List.mem_range.1 hi
  have hr := free_room F
  obtain ⟨s, hs⟩ := some_of_lt (show i < (freeP (takenP (goneR t.roster lv))).length by omega)
  have T := h.right
  have hf := T.fresh0
  show takenP (joinR (goneR t.roster lv) (freeP (takenP (goneR t.roster lv))) jn (t.epoch + 1) (t.fresh + (cntR t lv : Nat)) jn.length) _ = true
  rw [taken_join (by omega) _ hr]
  simp only [List.getD, hs, Option.getD_some, Int.toNat_natCast]
  rw [Bool.or_eq_true]
  right
  simp only [List.contains_iff_mem]
  exact take_idx' hs hi'
where take_idx' {l : List Nat} {i j : Nat} {x : Nat} (hi : l[i]? = some x) (h : i < j) : x ∈ l.take j := List.mem_of_getElem? (i := i) (by rw [List.getElem?_take, if_pos h]; exact hi)
theorem join_good {t : Tree} {lv jn : List Int} (h : StepOK t lv jn) {x : Seat} (hx : x ∈ moveJ t.roster lv jn) : goodK (nodeK (nextT t lv jn) (21 + x.slot.toNat)) := by
  obtain ⟨h1, h2⟩ := join_taken h hx
  exact (leaf_good (next_right h) h1 h2).2
/-- What a step answers. -/
noncomputable def outT (t : Tree) (lv jn : List Int) : Tree := if errI t lv jn = 0 then nextT t lv jn else tree0
noncomputable def outL (t : Tree) (lv jn : List Int) : List Seat := if errI t lv jn = 0 then seatsOf t.roster lv else []
noncomputable def outJ (t : Tree) (lv jn : List Int) : List Seat := if errI t lv jn = 0 then moveJ t.roster lv jn else []
noncomputable def outI (t : Tree) (lv jn : List Int) : List Itm := if errI t lv jn = 0 then itemsS (nextT t lv jn) (seatsOf t.roster lv) (moveJ t.roster lv jn) else []
end Cot
/-
  Contracts: coterieref11.Next. Printed by wip/gen/gk.py.
-/
namespace Go.Proofs.YtodgcmakdndbfaaDoor
open Go.RowKit Cot
set_option linter.unusedSimpArgs false
set_option linter.unusedVariables false
set_option maxRecDepth 100000 in
set_option maxHeartbeats 2000000 in
theorem ref11_Next_bad (t : Tree) (lv jn : List Int) (ao bo : Option Addr) (cap cap2 : Nat) (w : World) (hl1 : lv.length ≤ 35184372088832) (hl2 : jn.length ≤ 35184372088832) (hA : IntsAt w ao lv) (hJ : IntsAt w bo jn) (hbad : ¬ RightTree t ∨ t.epoch = 200 ∨ fitsS t.roster lv jn ≠ 0) :
    Calls Tryd.prog 39 #[.agg (treeC t), .agg #[.slice ao lv.length cap, .slice bo jn.length cap2]] w fun e w' => ∃ v1 v2, e = .returned (.tuple #[.agg (treeC tree0), v1, v2, .int .i64 (errI t lv jn)]) ∧ OwnSeats w' w.heap.size v1 [] ∧ OwnSeats w' w.heap.size v2 [] ∧ Below w.heap.size w w' := by
  have hbs : Below w.heap.size w (((w.alloc (.cells (treeC t) 31)).alloc (.cells #[.slice ao lv.length cap, .slice bo jn.length cap2] 34)).alloc (.cells (treeC tree0) 31)) := bAlloc (bAlloc (bAlloc (Below.refl _ _) _) _) _
  have k0 : Blk (((w.alloc (.cells (treeC t) 31)).alloc (.cells #[.slice ao lv.length cap, .slice bo jn.length cap2] 34)).alloc (.cells (treeC tree0) 31)) w.heap.size (treeC t) 31 := ((Blk.new w _ _).alloc _).alloc _
  have k1 : Blk (((w.alloc (.cells (treeC t) 31)).alloc (.cells #[.slice ao lv.length cap, .slice bo jn.length cap2] 34)).alloc (.cells (treeC tree0) 31)) (w.heap.size + 1) #[.slice ao lv.length cap, .slice bo jn.length cap2] 34 := by
    have h := (Blk.new (w.alloc (.cells (treeC t) 31)) #[.slice ao lv.length cap, .slice bo jn.length cap2] 34).alloc (.cells (treeC tree0) 31); rw [World.size_alloc] at h; exact h
  have k2 : Blk (((w.alloc (.cells (treeC t) 31)).alloc (.cells #[.slice ao lv.length cap, .slice bo jn.length cap2] 34)).alloc (.cells (treeC tree0) 31)) (w.heap.size + 2) (treeC tree0) 31 := by
    have h := Blk.new ((w.alloc (.cells (treeC t) 31)).alloc (.cells #[.slice ao lv.length cap, .slice bo jn.length cap2] 34)) (treeC tree0) 31; simp only [World.size_alloc] at h; exact h
  have HBS := Lib.hid hbs; have K0 := Lib.hid k0; have K1 := Lib.hid k1; have K2 := Lib.hid k2
  have HA3 := Lib.hid (hA.kept hbs); have HJ3 := Lib.hid (hJ.kept hbs)
  clear hbs k0 k1 k2
  by_cases hR : RightTree t
  rotate_left
  · have hck := checkTree_no hR
    have HE := Lib.hid (err_tree (lv := lv) (jn := jn) hR)
    clear hR hbad
    go_enter Tryd.func39, Tryd.ntmps39
    go_wp2_with (go_at_call 18; refine (ref11_Check t _).mono ?_; rintro e w1 ⟨rfl, hb⟩; simp only [hck]; have hB0 := K0.out.kept hb (by first | omega | (simp; done) | (simp; omega)); have hB1 := K1.out.kept hb (by first | omega | (simp; done) | (simp; omega)); have hB2 := K2.out.kept hb (by first | omega | (simp; done) | (simp; omega)); have hbel := bCall' hb HBS.out; have hc0 := hB0.cell; have ha0 := hB0.at; have hc1 := hB1.cell; have hy0 := hB0.lt; have hy1 := hB1.lt; have hr2 := hB2.row; have hy2 := hB2.lt)
    have hat := (hB2.setRow (treeC tree0)).at 0 236
    rw [cellsIn_tree] at hat
    exact bodyPost_ret (v := .tuple #[.agg (treeC tree0), .slice none 0 0, .slice none 0 0, .int .i64 31]) (by simp [results, Tryd.results39, Sem.run_bind, asAddr, loadVar_tree, ldV_tree, hat]) rfl ⟨_, _, by rw [HE.out], World.ownsRow_nil _ _ _ _, World.ownsRow_nil _ _ _ _, below_setRow hbel (by omega) _⟩
  have hck := checkTree_yes hR
  by_cases hep : t.epoch = 200
  · have HE := Lib.hid (err_epoch (lv := lv) (jn := jn) hR hep)
    have hep' : (t.epoch == 200) = true := by simpa using hep
    clear hR hbad hep
    go_enter Tryd.func39, Tryd.ntmps39
    go_wp2_with (go_at_call 18; refine (ref11_Check t _).mono ?_; rintro e w1 ⟨rfl, hb⟩; simp only [hck]; have hB0 := K0.out.kept hb (by first | omega | (simp; done) | (simp; omega)); have hB1 := K1.out.kept hb (by first | omega | (simp; done) | (simp; omega)); have hB2 := K2.out.kept hb (by first | omega | (simp; done) | (simp; omega)); have hbel := bCall' hb HBS.out; have hc0 := hB0.cell; have ha0 := hB0.at; have hc1 := hB1.cell; have hy0 := hB0.lt; have hy1 := hB1.lt; have hr2 := hB2.row; have hy2 := hB2.lt)
    have hat := (hB2.setRow (treeC tree0)).at 0 236
    rw [cellsIn_tree] at hat
    exact bodyPost_ret (v := .tuple #[.agg (treeC tree0), .slice none 0 0, .slice none 0 0, .int .i64 19]) (by simp [results, Tryd.results39, Sem.run_bind, asAddr, loadVar_tree, ldV_tree, hat]) rfl ⟨_, _, by rw [HE.out], World.ownsRow_nil _ _ _ _, World.ownsRow_nil _ _ _ _, below_setRow hbel (by omega) _⟩
  have hfit : fitsS t.roster lv jn ≠ 0 := by
    rcases hbad with h | h | h
    · exact absurd hR h
    · exact absurd h hep
    · exact h
  have HE := Lib.hid (err_fits hR hep hfit)
  have hep' : (t.epoch == 200) = false := by simpa using hep
  have hfit' : (fitsS t.roster lv jn != 0) = true := by simpa using hfit
  clear hR hbad hep hfit
  go_enter Tryd.func39, Tryd.ntmps39
  go_wp2_with (first | (go_at_call 18; refine (ref11_Check t _).mono ?_; rintro e w1 ⟨rfl, hb⟩; simp only [hck]; have hB0 := K0.out.kept hb (by first | omega | (simp; done) | (simp; omega)); have hB1 := K1.out.kept hb (by first | omega | (simp; done) | (simp; omega)); have hB2 := K2.out.kept hb (by first | omega | (simp; done) | (simp; omega)); have hbel := bCall' hb HBS.out; have hc0 := hB0.cell; have ha0 := hB0.at; have hc1 := hB1.cell; have hy0 := hB0.lt; have hy1 := hB1.lt; have hr2 := hB2.row; have hy2 := hB2.lt) | (go_at_call 62; refine (ref09_Fits t.roster lv jn ao bo cap cap2 _ hl1 hl2 (HA3.out.kept hb) (HJ3.out.kept hb)).mono ?_; rintro e w2 ⟨rfl, hb2⟩; simp only [hck]; have hB0' := hB0.kept hb2 hB0.lt; have hB1' := hB1.kept hb2 hB1.lt; have hB2' := hB2.kept hb2 hB2.lt; have hbel' := bCall' hb2 hbel; clear hc0 ha0 hc1 hy0 hy1 hr2 hy2 hB0 hB1 hB2 hbel; have hB0 := hB0'; have hB1 := hB1'; have hB2 := hB2'; have hbel := hbel'; clear hB0' hB1' hB2' hbel'; have hc0 := hB0.cell; have ha0 := hB0.at; have hc1 := hB1.cell; have hy0 := hB0.lt; have hy1 := hB1.lt; have hr2 := hB2.row; have hy2 := hB2.lt))
  have hat := (hB2.setRow (treeC tree0)).at 0 236
  rw [cellsIn_tree] at hat
  exact bodyPost_ret (v := .tuple #[.agg (treeC tree0), .slice none 0 0, .slice none 0 0, .int .i64 (fitsS t.roster lv jn)]) (by simp [results, Tryd.results39, Sem.run_bind, asAddr, loadVar_tree, ldV_tree, hat]) rfl ⟨_, _, by rw [HE.out], World.ownsRow_nil _ _ _ _, World.ownsRow_nil _ _ _ _, below_setRow hbel (by omega) _⟩
end Go.Proofs.YtodgcmakdndbfaaDoor
/-
  Contracts: coterieref09.Move, the names used up. Printed by wip/gen/gk.py.
-/
namespace Go.Proofs.YtodgcmakdndbfaaDoor
open Go.RowKit Cot
set_option linter.unusedSimpArgs false
set_option linter.unusedVariables false
set_option maxRecDepth 100000 in
set_option maxHeartbeats 2000000 in
theorem ref09_Move_bad (r : Nat → Entry) (lv jn : List Int) (since base : Int) (ao bo : Option Addr) (cap cap2 : Nat) (w : World) (hr : ∀ j, I64 (r j).base) (hr2 : ∀ j, I64 (r j).who) (hl1 : lv.length ≤ 35184372088832) (hl2 : jn.length ≤ 35184372088832)
    (hA : IntsAt w ao lv) (hJ : IntsAt w bo jn) (hwl : ∀ x, x ∈ lv → I64 x) (hwj : ∀ x, x ∈ jn → I64 x) (hfit : fitsS r lv jn = 0) (hs1 : 1 ≤ since) (hs2 : since ≤ 200) (hb1 : 1 ≤ base) (hjp : 0 < jn.length) (hb2 : 32768 < base + jn.length) (hbase : ∀ j, j < 64 → (r j).base < base) :
    Calls Tryd.prog 65 #[.agg (rosterC r), .agg #[.slice ao lv.length cap, .slice bo jn.length cap2], .int .i64 since, .int .i64 base] w fun e w' => e = .returned (.tuple #[.agg (rosterC roster0), .slice none 0 0, .slice none 0 0, .int .i64 3]) ∧ Below w.heap.size w w' := by
  have F := fits_ok hfit
  have hlv := lv_len F
  have hjn := jn_len F
  have HF := Lib.hid F; clear F
  obtain ⟨i0, hi, hz0, hz1, hz2⟩ := info_parts info_seat
  have hbs := (bAlloc (bAlloc (bAlloc (Below.refl w.heap.size w) (.cells (rosterC r) 29)) (.cells #[.slice ao lv.length cap, .slice bo jn.length cap2] 34)) (.cells (rosterC roster0) 29))
  have hA3 := hA.kept hbs; have hJ3 := hJ.kept hbs
  have k0 : Blk (((w.alloc (.cells (rosterC r) 29)).alloc (.cells #[.slice ao lv.length cap, .slice bo jn.length cap2] 34)).alloc (.cells (rosterC roster0) 29)) w.heap.size (rosterC r) 29 := ((Blk.new w _ _).alloc _).alloc _
  have k1 : Blk (((w.alloc (.cells (rosterC r) 29)).alloc (.cells #[.slice ao lv.length cap, .slice bo jn.length cap2] 34)).alloc (.cells (rosterC roster0) 29)) (w.heap.size + 1) #[.slice ao lv.length cap, .slice bo jn.length cap2] 34 := by
    have h := (Blk.new (w.alloc (.cells (rosterC r) 29)) #[.slice ao lv.length cap, .slice bo jn.length cap2] 34).alloc (.cells (rosterC roster0) 29); rw [World.size_alloc] at h; exact h
  have k2 : Blk (((w.alloc (.cells (rosterC r) 29)).alloc (.cells #[.slice ao lv.length cap, .slice bo jn.length cap2] 34)).alloc (.cells (rosterC roster0) 29)) (w.heap.size + 2) (rosterC roster0) 29 := by
    have h := Blk.new ((w.alloc (.cells (rosterC r) 29)).alloc (.cells #[.slice ao lv.length cap, .slice bo jn.length cap2] 34)) (rosterC roster0) 29; simp only [World.size_alloc] at h; exact h
  have HFIT := Lib.hid hfit; clear hfit
  have K0 := Lib.hid k0; have K1 := Lib.hid k1; have K2 := Lib.hid k2
  have HA3 := Lib.hid hA3; have HJ3 := Lib.hid hJ3
  have HBASE := Lib.hid hbase
  have HR := Lib.hid hr; have HR2 := Lib.hid hr2; have HWL := Lib.hid hwl; have HWJ := Lib.hid hwj; have HBS := Lib.hid hbs
  clear k0 k1 k2 hA3 hJ3 hbase hr hr2 hwl hwj hbs
  have hgd2 : 32768 - (jn.length : Int) < base := by omega
  have hjp' : (0 : Int) < (jn.length : Int) := by omega
  go_enter Tryd.func65, Tryd.ntmps65
  go_wp2_with (go_at_call 62; refine (ref09_Fits r lv jn ao bo cap cap2 _ hl1 hl2 HA3.out HJ3.out).mono ?_; rintro e w1 ⟨rfl, hb⟩; simp only [HFIT.out]; have hB0 : Blk w1 w.heap.size (rosterC r) 29 := K0.out.kept hb (by first | omega | (simp; done) | (simp; omega)); have hB1 : Blk w1 (w.heap.size + 1) #[.slice ao lv.length cap, .slice bo jn.length cap2] 34 := K1.out.kept hb (by first | omega | (simp; done) | (simp; omega)); have hB2 : Blk w1 (w.heap.size + 2) (rosterC roster0) 29 := K2.out.kept hb (by first | omega | (simp; done) | (simp; omega)); have hc0 := hB0.cell; have ha0 := hB0.at; have hc1 := hB1.cell; have hy0 := hB0.lt; have hy1 := hB1.lt; have hr2 := hB2.row; have hy2 := hB2.lt)
  have hat := (hB2.setRow (rosterC roster0)).at 0 192
  rw [cellsIn_roster] at hat
  exact bodyPost_ret (v := .tuple #[.agg (rosterC roster0), .slice none 0 0, .slice none 0 0, .int .i64 3]) (by simp [results, Tryd.results65, Sem.run_bind, asAddr, loadVar_roster, ldV_roster, hat]) rfl ⟨rfl, below_setRow (bCall' hb HBS.out) (by omega) _⟩
end Go.Proofs.YtodgcmakdndbfaaDoor
/-
  A whole row stored cell by cell: what the block holds.
-/
namespace Go.Proofs.YtodgcmakdndbfaaDoor
open Go.RowKit Cot
def setL (c : Array Value) : Nat → List Value → Array Value
  | _, [] => c
  | o, v :: r => setL (c.setIfInBounds o v) (o + 1) r
theorem setL_size (c : Array Value) : ∀ (o : Nat) (vs : List Value), (setL c o vs).size = c.size
  | _, [] => rfl
  | o, v :: r => by unfold setL; rw [setL_size _ (o + 1) r]; simp
theorem setL_get : ∀ (vs : List Value) (c : Array Value) (o p : Nat), (setL c o vs)[p]? = if o ≤ p ∧ p < o + vs.length ∧ p < c.size then vs[p - o]? else c[p]?
  | [], c, o, p => by rw [if_neg (by simp; omega)]; rfl
  | v :: r, c, o, p => by
    unfold setL
    rw [setL_get r _ (o + 1) p]
    simp only [Array.size_setIfInBounds, List.length_cons]
    by_cases h1 : o + 1 ≤ p ∧ p < o + 1 + r.length ∧ p < c.size
    · rw [if_pos h1, if_pos (by omega)]
      obtain ⟨q, hq⟩ : ∃ q, p - o = q + 1 := ⟨p - o - 1, by omega⟩
      rw [hq, List.getElem?_cons_succ, show p - (o + 1) = q by omega]
    · rw [if_neg h1, arr_set_get]
      by_cases h2 : o = p
      · subst h2
        by_cases h3 : o < c.size
        · rw [if_pos rfl, if_pos h3, if_pos (by omega), Nat.sub_self]; rfl
        · rw [if_pos rfl, if_neg h3, if_neg (by omega), Array.getElem?_eq_none (by omega)]
      · rw [if_neg h2, if_neg (by omega)]
theorem setL_all (c : Array Value) (vs : List Value) (h : c.size = vs.length) : setL c 0 vs = vs.toArray := by
  apply Array.ext_getElem?
  intro p
  rw [setL_get]
  by_cases hp : p < vs.length
  · rw [if_pos (by omega)]; simp
  · rw [if_neg (by omega), Array.getElem?_eq_none (by omega)]; simp; omega
theorem Blk.setCells {b : Nat} {t : TypeId} : ∀ (vs : List Value) (o : Nat) {w : World} {c : Array Value}, Blk w b c t → Blk (w.setCells b o vs) b (setL c o vs) t
  | [], _, _, _, h => h
  | v :: r, o, w, c, h => by
    unfold World.setCells setL
    exact Blk.setCells r (o + 1) (h.set o v)
theorem Blk.filled {w : World} {b : Nat} {c cs : Array Value} {t : TypeId} (h : Blk w b c t) (hs : c.size = cs.size) : Blk (w.setCells b 0 cs.toList) b cs t :=
  (h.setCells cs.toList 0).cast (by rw [setL_all _ _ (by simpa using hs)])
theorem Blk.setCells_other {b b' : Nat} {t : TypeId} (hne : b ≠ b') : ∀ (vs : List Value) (o : Nat) {w : World} {c : Array Value}, Blk w b c t → Blk (w.setCells b' o vs) b c t
  | [], _, _, _, h => h
  | v :: r, o, w, c, h => by
    unfold World.setCells
    exact Blk.setCells_other hne r (o + 1) (h.set_other hne v)
theorem bSetCells {a : World} {b n : Nat} (hb : n ≤ b) : ∀ (vs : List Value) (o : Nat) {w : World}, Below n a w → Below n a (w.setCells b o vs)
  | [], _, _, h => h
  | v :: r, o, w, h => by
    unfold World.setCells
    exact bSetCells hb r (o + 1) (h.setCell (p := ⟨b, o, none⟩) hb v)
theorem Blk.there {w : World} {b : Nat} {c : Array Value} {t : TypeId} (h : Blk w b c t) {n : Nat} (hn : c.size = n) : w.there b 0 n := fun j hj => by
  rw [h.cell, h.frozen]
  exact ⟨by rw [Nat.zero_add, Array.getElem?_eq_getElem (by omega)]; rfl, rfl⟩
end Go.Proofs.YtodgcmakdndbfaaDoor
