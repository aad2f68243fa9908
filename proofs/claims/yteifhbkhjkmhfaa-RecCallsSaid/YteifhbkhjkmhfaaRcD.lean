/-
  What a history's calls own in memory, and how a note's deeds turn it.
-/
import Derived.Test.YteifhbkhjkmhfaaRcC
namespace Go.Proofs.Yteifhbkhjkmhfaa
open Go.RowKit
set_option linter.unusedSimpArgs false
set_option linter.unusedVariables false

def nilV : Value := .slice none 0 0
def calCells (c : Cal) (pv : Value) : List Value := [.int .i64 c.task, .int .i64 c.op, .int .i64 c.fr, .int .i64 c.to, .int .i64 c.ret, pv]
def outCells (L : List Cal) (pv : Nat → Value) : List Value := (List.range L.length).flatMap fun j => calCells (L.getD j Cal.zero) (pv j)
def nOf (L : List Cal) (O : Int → List Nat) : Ky → Nat
  | .out => L.length
  | .pts i => (L.getD i Cal.zero).pts.length
  | .opn t => (O t).length
def intsV (l : List Int) : List Value := l.map (Value.int .i64)
def natsV (l : List Nat) : List Value := l.map fun (j : Nat) => Value.int .i64 (j : Int)
def xsOf (L : List Cal) (O : Int → List Nat) (v : Ky → Value) : Ky → List Value
  | .out => outCells L fun j => v (.pts j)
  | .pts i => intsV (L.getD i Cal.zero).pts
  | .opn t => natsV (O t)
def updO (O : Int → List Nat) (t : Int) (l : List Nat) : Int → List Nat := fun t' => if t' = t then l else O t'

structure RInv (w : World) (B : Nat) (v : Ky → Value) (L : List Cal) (O : Int → List Nat) : Prop where
  rows : Rows' w B v (nOf L O) (xsOf L O v)
  fresh : ∀ j, L.length ≤ j → v (.pts j) = nilV

theorem six_len (f : Nat → List Value) (hf : ∀ j, (f j).length = 6) (m : Nat) : ((List.range m).flatMap f).length = m * 6 := by
  induction m with
  | zero => rfl
  | succ m ih => rw [List.range_succ, List.flatMap_append, List.length_append, ih]; simp [hf]; omega
theorem six_at (f : Nat → List Value) (hf : ∀ j, (f j).length = 6) (m j c : Nat) (hj : j < m) (hc : c < 6) : ((List.range m).flatMap f)[j * 6 + c]? = (f j)[c]? := by
  induction m with
  | zero => omega
  | succ m ih =>
    rw [List.range_succ, List.flatMap_append]
    by_cases e : j < m
    · rw [List.getElem?_append_left (by rw [six_len f hf]; omega)]
      exact ih e
    · have : j = m := by omega
      subst this
      rw [List.getElem?_append_right (by rw [six_len f hf]; omega), six_len f hf]
      have : j * 6 + c - j * 6 = c := by omega
      simp [this]
theorem six_ext (f g : Nat → List Value) (m : Nat) (h : ∀ j, j < m → f j = g j) : (List.range m).flatMap f = (List.range m).flatMap g := by
  induction m with
  | zero => rfl
  | succ m ih => rw [List.range_succ, List.flatMap_append, List.flatMap_append, ih (fun j hj => h j (by omega))]; simp [h m (by omega)]
theorem six_set (f g : Nat → List Value) (hf : ∀ j, (f j).length = 6) (m i c : Nat) (u : Value) (hi : i < m) (hc : c < 6) (hg : ∀ j, g j = if j = i then (f i).set c u else f j) :
    ((List.range m).flatMap f).set (i * 6 + c) u = (List.range m).flatMap g := by
  have hg6 : ∀ j, (g j).length = 6 := fun j => by rw [hg]; split <;> simp [hf]
  apply List.ext_getElem?
  intro x
  by_cases hx : x < m * 6
  · obtain ⟨j, d, hd, rfl⟩ : ∃ j d, d < 6 ∧ x = j * 6 + d := ⟨x / 6, x % 6, by omega, by omega⟩
    have hj : j < m := by omega
    rw [six_at g hg6 m j d hj hd, hg]
    by_cases e : j = i
    · subst e
      rw [if_pos rfl]
      by_cases ec : d = c
      · subst ec
        rw [List.getElem?_set_self (by rw [six_len f hf]; omega), List.getElem?_set_self (by rw [hf]; omega)]
      · rw [List.getElem?_set_ne (by omega), List.getElem?_set_ne (by omega), six_at f hf m j d hj hd]
    · rw [if_neg e, List.getElem?_set_ne (by omega), six_at f hf m j d hj hd]
  · rw [List.getElem?_eq_none (by rw [List.length_set, six_len f hf]; omega), List.getElem?_eq_none (by rw [six_len g hg6]; omega)]

theorem calCells_len (c : Cal) (pv : Value) : (calCells c pv).length = 6 := rfl
theorem outCells_len (L : List Cal) (pv : Nat → Value) : (outCells L pv).length = L.length * 6 := six_len _ (fun _ => rfl) _
theorem outCells_at (L : List Cal) (pv : Nat → Value) (j c : Nat) (hj : j < L.length) (hc : c < 6) : (outCells L pv)[j * 6 + c]? = (calCells (L.getD j Cal.zero) (pv j))[c]? :=
  six_at _ (fun _ => rfl) _ j c hj hc
theorem outCells_snoc (L : List Cal) (c : Cal) (pv : Nat → Value) : outCells (L ++ [c]) pv = outCells L pv ++ calCells c (pv L.length) := by
  unfold outCells
  rw [List.length_append, List.length_singleton, List.range_succ, List.flatMap_append]
  congr 1
  · apply six_ext
    intro j hj
    simp only [List.getD_eq_getElem?_getD]
    rw [List.getElem?_append_left hj]
  · simp [List.getD_eq_getElem?_getD]
theorem getD_set_same {L : List Cal} {i : Nat} (hi : i < L.length) (c : Cal) : (L.set i c).getD i Cal.zero = c := by simp [List.getD_eq_getElem?_getD, hi]
theorem getD_set_other {L : List Cal} {i j : Nat} (h : j ≠ i) (c : Cal) : (L.set i c).getD j Cal.zero = L.getD j Cal.zero := by
  simp only [List.getD_eq_getElem?_getD]
  rw [List.getElem?_set_ne (Ne.symm h)]
/-- One cell of a call is written. -/
theorem outCells_set (L : List Cal) (pv pv' : Nat → Value) (i c : Nat) (u : Value) (x : Cal) (hi : i < L.length) (hc : c < 6) (hx : calCells x (pv' i) = (calCells (L.getD i Cal.zero) (pv i)).set c u) (hp : ∀ j, j ≠ i → pv' j = pv j) :
    (outCells L pv).set (i * 6 + c) u = outCells (L.set i x) pv' := by
  unfold outCells
  rw [List.length_set]
  apply six_set _ _ (fun _ => rfl) _ i c u hi hc
  intro j
  by_cases e : j = i
  · subst e
    rw [if_pos rfl, getD_set_same hi, hx]
  · rw [if_neg e, getD_set_other e, hp j e]

section
variable {w w' : World} {B : Nat} {v : Ky → Value} {L : List Cal} {O : Int → List Nat}

theorem RInv.grown {r : Option Nat} (h : RInv w B v L O) (hg : w.grownBy w' r) (hr : ∀ k, (v k).ownBlock = none ∨ (v k).ownBlock ≠ r) : RInv w' B v L O := ⟨h.rows.grown hg hr, h.fresh⟩
theorem RInv.alloc (h : RInv w B v L O) (o : Obj) : RInv (w.alloc o) B v L O := ⟨h.rows.alloc o, h.fresh⟩
theorem RInv.drewN (h : RInv w B v L O) (m : Nat) : RInv (w.drewN m) B v L O := ⟨h.rows.drewN m, h.fresh⟩

/-- A call's number is added to the open ones of a task. -/
theorem RInv.open (h : RInv w B v L O) (t : Int) (i : Nat) {v' : Value} (hg : w.grownBy w' (v (.opn t)).ownBlock) (ho : w'.ownsRow B 3 1 v' ((O t).length + 1) (natsV (O t) ++ [.int .i64 (i : Int)]))
    (hl : v'.ownBlock = (v (.opn t)).ownBlock ∨ ∃ g, v'.ownBlock = some g ∧ w.heap.size ≤ g) : RInv w' B (upd v (.opn t) v') L (updO O t (O t ++ [i])) := by
  have := h.rows.change (k := .opn t) hg ho hl
  refine ⟨?_, fun j hj => by rw [upd_other _ _ (by intro e; cases e)]; exact h.fresh j hj⟩
  have e1 : nOf L (updO O t (O t ++ [i])) = upd (nOf L O) (.opn t) ((O t).length + 1) := by
    funext k
    cases k with
    | out => rfl
    | pts j => rfl
    | opn t' =>
      by_cases e : t' = t
      · subst e; rw [upd_same]; simp [nOf, updO]
      · rw [upd_other _ _ (by intro h; injection h with h; exact e h)]; simp [nOf, updO, e]
  have e2 : xsOf L (updO O t (O t ++ [i])) (upd v (.opn t) v') = upd (xsOf L O v) (.opn t) (natsV (O t) ++ [.int .i64 (i : Int)]) := by
    funext k
    cases k with
    | out => rfl
    | pts j => rfl
    | opn t' =>
      by_cases e : t' = t
      · subst e; rw [upd_same]; simp [xsOf, updO, natsV]
      · rw [upd_other _ _ (by intro h; injection h with h; exact e h)]; simp [xsOf, updO, e]
  rw [e1, e2]
  exact this

/-- A task's open ones are forgotten. -/
theorem RInv.close (h : RInv w B v L O) (t : Int) : RInv w B (upd v (.opn t) nilV) L (updO O t []) := by
  have := h.rows.drop (.opn t)
  refine ⟨?_, fun j hj => by rw [upd_other _ _ (by intro e; cases e)]; exact h.fresh j hj⟩
  have e1 : nOf L (updO O t []) = upd (nOf L O) (.opn t) 0 := by
    funext k
    cases k with
    | out => rfl
    | pts j => rfl
    | opn t' =>
      by_cases e : t' = t
      · subst e; rw [upd_same]; simp [nOf, updO]
      · rw [upd_other _ _ (by intro h; injection h with h; exact e h)]; simp [nOf, updO, e]
  have e2 : xsOf L (updO O t []) (upd v (.opn t) nilV) = upd (xsOf L O v) (.opn t) [] := by
    funext k
    cases k with
    | out => rfl
    | pts j => rfl
    | opn t' =>
      by_cases e : t' = t
      · subst e; rw [upd_same]; simp [xsOf, updO, natsV]
      · rw [upd_other _ _ (by intro h; injection h with h; exact e h)]; simp [xsOf, updO, e]
  rw [e1, e2]
  exact this

/-- A call is added. -/
theorem RInv.add (h : RInv w B v L O) (c : Cal) (hc : c.pts = []) {v' : Value} (hg : w.grownBy w' (v .out).ownBlock) (ho : w'.ownsRow B 52 6 v' (L.length + 1) (outCells L (fun j => v (.pts j)) ++ calCells c nilV))
    (hl : v'.ownBlock = (v .out).ownBlock ∨ ∃ g, v'.ownBlock = some g ∧ w.heap.size ≤ g) : RInv w' B (upd v .out v') (L ++ [c]) O := by
  have := h.rows.change (k := .out) hg ho hl
  have hz : ∀ i, ((L ++ [c]).getD i Cal.zero).pts = (L.getD i Cal.zero).pts := fun i => by
    simp only [List.getD_eq_getElem?_getD]
    by_cases e : i < L.length
    · rw [List.getElem?_append_left e]
    · by_cases e2 : i = L.length
      · subst e2; simp [hc, Cal.zero]
      · rw [List.getElem?_eq_none (by simp; omega), List.getElem?_eq_none (by omega)]
  refine ⟨?_, fun j hj => by rw [upd_other _ _ (by intro e; cases e)]; exact h.fresh j (by simp at hj; omega)⟩
  have e1 : nOf (L ++ [c]) O = upd (nOf L O) .out (L.length + 1) := by
    funext k
    cases k with
    | out => simp [nOf, upd]
    | pts j => simp only [nOf, upd, hz]; rfl
    | opn t' => rfl
  have e2 : xsOf (L ++ [c]) O (upd v .out v') = upd (xsOf L O v) .out (outCells L (fun j => v (.pts j)) ++ calCells c nilV) := by
    funext k
    cases k with
    | out =>
      rw [upd_same]
      show outCells (L ++ [c]) (fun j => upd v .out v' (.pts j)) = _
      rw [outCells_snoc]
      have e3 : (fun j => upd v .out v' (.pts j)) = fun j => v (.pts j) := by funext j; exact upd_other _ _ (by intro e; cases e)
      rw [e3]
      show outCells L _ ++ calCells c (v (.pts L.length)) = _
      rw [h.fresh L.length (Nat.le_refl _)]
    | pts j => simp only [xsOf, upd, hz]; rfl
    | opn t' => rfl
  rw [e1, e2]
  exact this

theorem Rows'.congr {n' : Ky → Nat} {xs xs' : Ky → List Value} {n : Ky → Nat} (h : Rows' w B v n xs) (e1 : n = n') (e2 : xs = xs') : Rows' w B v n' xs' := by
  subst e1; subst e2; exact h

/-- One cell of a call is written. -/
theorem RInv.cell {g cap : Nat} (h : RInv w B v L O) (hv : v .out = .slice (some ⟨g, 0, none⟩) L.length cap) (i c : Nat) (u : Value) (x : Cal) (hi : i < L.length) (hc : c < 6)
    (hx : calCells x (v (.pts i)) = (calCells (L.getD i Cal.zero) (v (.pts i))).set c u) (hp : x.pts = (L.getD i Cal.zero).pts) : RInv (w.setCell ⟨g, i * 6 + c, none⟩ u) B v (L.set i x) O := by
  have := h.rows.stored (k := .out) (m := 0) hv (i * 6 + c) u
  have hz : ∀ j, ((L.set i x).getD j Cal.zero).pts = (L.getD j Cal.zero).pts := fun j => by
    by_cases e : j = i
    · subst e; rw [getD_set_same hi]; exact hp
    · rw [getD_set_other e]
  refine ⟨this.congr ?_ ?_, fun j hj => h.fresh j (by simpa using hj)⟩
  · funext k
    cases k with
    | out => simp [nOf]
    | pts j => simp only [nOf, hz]
    | opn t' => rfl
  · funext k
    cases k with
    | out =>
      rw [upd_same]
      exact outCells_set L _ _ i c u x hi hc hx (fun _ _ => rfl)
    | pts j => simp only [xsOf, upd, hz]; rfl
    | opn t' => rfl

/-- A point is added to a call. -/
theorem RInv.point {g cap : Nat} (h : RInv w B v L O) (hv : v .out = .slice (some ⟨g, 0, none⟩) L.length cap) (i k : Nat) (hi : i < L.length) {v' : Value}
    (hg : w.grownBy w' (v (.pts i)).ownBlock) (ho : w'.ownsRow B 3 1 v' ((L.getD i Cal.zero).pts.length + 1) (intsV (L.getD i Cal.zero).pts ++ [.int .i64 (k : Int)]))
    (hl : v'.ownBlock = (v (.pts i)).ownBlock ∨ ∃ g, v'.ownBlock = some g ∧ w.heap.size ≤ g) :
    RInv (w'.setCell ⟨g, i * 6 + 5, none⟩ v') B (upd v (.pts i) v') (L.set i { L.getD i Cal.zero with pts := (L.getD i Cal.zero).pts ++ [(k : Int)] }) O := by
  have h1 := h.rows.change (k := .pts i) hg ho hl
  have h2 := h1.stored (k := .out) (g := g) (m := 0) (cap := cap) (by rw [upd_other _ _ (by intro e; cases e), upd_other _ _ (by intro e; cases e)]; exact hv) (i * 6 + 5) v'
  refine ⟨h2.congr ?_ ?_, fun j hj => ?_⟩
  · funext q
    cases q with
    | out => simp [nOf, upd]
    | pts j =>
      by_cases e : j = i
      · subst e; rw [upd_same]; simp only [nOf]; rw [getD_set_same hi]; simp
      · rw [upd_other _ _ (by intro h; injection h with h; exact e h)]; simp only [nOf]; rw [getD_set_other e]
    | opn t' => rfl
  · funext q
    cases q with
    | out =>
      rw [upd_same, upd_other _ _ (by intro e; cases e)]
      refine outCells_set L _ _ i 5 v' _ hi (by omega) ?_ ?_
      · rw [upd_same]; rfl
      · intro j hj
        exact upd_other _ _ (by intro h; injection h with h; exact hj h)
    | pts j =>
      rw [upd_other _ _ (by intro e; cases e)]
      by_cases e : j = i
      · subst e; rw [upd_same]; simp only [xsOf]; rw [getD_set_same hi]; simp [intsV]
      · rw [upd_other _ _ (by intro h; injection h with h; exact e h)]; simp only [xsOf]; rw [getD_set_other e]
    | opn t' => rfl
  · have hne : j ≠ i := by simp at hj; omega
    rw [upd_other _ _ (by intro h; injection h with h; exact hne h)]
    exact h.fresh j (by simpa using hj)

end

end Go.Proofs.Yteifhbkhjkmhfaa
