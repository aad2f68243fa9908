/-
  The walk of what a history's calls are, by the document: each call is scanned to the end.
-/
import Derived.Test.YteifhbkhjkmhfaaRcH
namespace Go.Proofs.Yteifhbkhjkmhfaa
open Go.RowKit
set_option linter.unusedSimpArgs false
set_option linter.unusedVariables false

/-- One row beside the calls: the points of the call that is scanned. -/
def onlyO (ps : List Nat) : Int → List Nat := fun t => if t = 0 then ps else []
theorem updO_only (ps qs : List Nat) : updO (onlyO ps) 0 qs = onlyO qs := by
  funext t
  unfold updO onlyO
  split <;> simp_all
def castL (ps : List Nat) : List Int := ps.map fun (j : Nat) => (j : Int)
theorem natsV_cast (ps : List Nat) : natsV ps = intsV (castL ps) := by simp [natsV, intsV, castL]
theorem castL_len (ps : List Nat) : (castL ps).length = ps.length := by simp [castL]

section
variable {w w' : World} {B : Nat} {v : Ky → Value} {n : Ky → Nat} {xs : Ky → List Value}
theorem Rows'.move {a b : Ky} (hab : a ≠ b) (ht : a.ty = b.ty) (hs : a.sz = b.sz) (h : Rows' w B v n xs) : Rows' w B (upd (upd v b (v a)) a nilV) (upd (upd n b (n a)) a 0) (upd (upd xs b (xs a)) a []) := by
  refine ⟨fun k => ?_, fun x y hxy => ?_⟩
  · by_cases e : k = a
    · subst e
      rw [upd_same, upd_same, upd_same]
      exact World.ownsRow_nil _ _ _ _
    · rw [upd_other _ _ e, upd_other _ _ e, upd_other _ _ e]
      by_cases e' : k = b
      · subst e'
        rw [upd_same, upd_same, upd_same, ← ht, ← hs]
        exact h.own a
      · rw [upd_other _ _ e', upd_other _ _ e', upd_other _ _ e']
        exact h.own k
  · by_cases ex : x = a
    · subst ex
      rw [upd_same]
      exact .inl rfl
    · rw [upd_other _ _ ex]
      by_cases ey : y = a
      · subst ey
        rw [upd_same]
        cases e : (upd v b (v y) x).ownBlock with
        | none => exact .inl rfl
        | some g => exact .inr (by simp [nilV, Value.ownBlock])
      · rw [upd_other _ _ ey]
        by_cases ex' : x = b
        · subst ex'
          rw [upd_same, upd_other _ _ (Ne.symm hxy)]
          exact h.apart a y (Ne.symm ey)
        · rw [upd_other _ _ ex']
          by_cases ey' : y = b
          · subst ey'
            rw [upd_same]
            exact h.apart x a ex
          · rw [upd_other _ _ ey']
            exact h.apart x y hxy
end

theorem grownBy_setCell_any (W : World) (b o : Nat) (v : Value) : W.grownBy (W.setCell ⟨b, o, none⟩ v) (some b) :=
  ⟨rfl, rfl, rfl, (Below.setCell (B := 0) (Below.refl 0 W) (p := ⟨b, o, none⟩) (Nat.zero_le _) v).size, fun k _ hk => Below.heap_setCell _ _ _ k (fun e => hk (by rw [e]))⟩
theorem RInv.far {w : World} {B : Nat} {v : Ky → Value} {L : List Cal} {O : Int → List Nat} (h : RInv w B v L O) (b o : Nat) (hb : ∀ q, (v q).ownBlock ≠ some b) (u : Value) : RInv (w.setCell ⟨b, o, none⟩ u) B v L O :=
  h.grown (grownBy_setCell_any w b o u) fun q => .inr (hb q)

section
variable {w w' : World} {B : Nat} {v : Ky → Value} {L : List Cal} {ps : List Nat}
/-- A call is added; its points' row goes with it. -/
theorem RInv.addMove (h : RInv w B v L (onlyO ps)) (c : Cal) (hc : c.pts = castL ps) {v' : Value} (hg : w.grownBy w' (v .out).ownBlock)
    (ho : w'.ownsRow B 52 6 v' (L.length + 1) (outCells L (fun j => v (.pts j)) ++ calCells c (v (.opn 0)))) (hl : v'.ownBlock = (v .out).ownBlock ∨ ∃ g, v'.ownBlock = some g ∧ w.heap.size ≤ g) :
    RInv w' B (upd (upd (upd v .out v') (.pts L.length) (v (.opn 0))) (.opn 0) nilV) (L ++ [c]) (onlyO []) := by
  have h1 := h.rows.change (k := .out) hg ho hl
  have h2 := h1.move (a := .opn 0) (b := .pts L.length) (by intro e; cases e) rfl rfl
  rw [upd_other v v' (show Ky.opn 0 ≠ .out by intro e; cases e)] at h2
  have hz : ∀ i, i ≠ L.length → ((L ++ [c]).getD i Cal.zero).pts = (L.getD i Cal.zero).pts := fun i hi => by
    simp only [List.getD_eq_getElem?_getD]
    by_cases e : i < L.length
    · rw [List.getElem?_append_left e]
    · rw [List.getElem?_eq_none (by simp; omega), List.getElem?_eq_none (by omega)]
  have hz' : (L ++ [c]).getD L.length Cal.zero = c := by simp [List.getD_eq_getElem?_getD]
  refine ⟨h2.congr ?_ ?_, fun j hj => ?_⟩
  · funext q
    cases q with
    | out => simp [nOf, upd]
    | pts j =>
      rw [upd_other _ _ (by intro e; cases e)]
      by_cases e : j = L.length
      · subst e
        rw [upd_same, upd_other _ _ (by intro e; cases e)]
        simp only [nOf]
        rw [hz', hc, castL_len]
        rfl
      · rw [upd_other _ _ (by intro h; injection h with h; exact e h), upd_other _ _ (by intro e; cases e)]
        simp only [nOf]
        rw [hz j e]
    | opn t =>
      by_cases e : t = 0
      · subst e; rw [upd_same]; rfl
      · rw [upd_other _ _ (by intro h; injection h with h; exact e h), upd_other _ _ (by intro e; cases e), upd_other _ _ (by intro e; cases e)]
        simp [nOf, onlyO, e]
  · funext q
    cases q with
    | out =>
      rw [upd_other _ _ (by intro e; cases e), upd_other _ _ (by intro e; cases e), upd_same]
      show _ = outCells (L ++ [c]) _
      rw [outCells_snoc]
      congr 1
      · apply six_ext
        intro j hj
        congr 1
        dsimp only
        rw [upd_other _ _ (by intro e; cases e), upd_other _ _ (by intro h; injection h with h; omega), upd_other _ _ (by intro e; cases e)]
      · congr 1
        rw [upd_other _ _ (by intro e; cases e), upd_same]
    | pts j =>
      rw [upd_other _ _ (by intro e; cases e)]
      by_cases e : j = L.length
      · subst e
        rw [upd_same, upd_other _ _ (by intro e; cases e)]
        simp only [xsOf]
        rw [hz', hc, ← natsV_cast]
        rfl
      · rw [upd_other _ _ (by intro h; injection h with h; exact e h), upd_other _ _ (by intro e; cases e)]
        simp only [xsOf]
        rw [hz j e]
    | opn t =>
      by_cases e : t = 0
      · subst e; rw [upd_same]; rfl
      · rw [upd_other _ _ (by intro h; injection h with h; exact e h), upd_other _ _ (by intro e; cases e), upd_other _ _ (by intro e; cases e)]
        simp [xsOf, onlyO, e, natsV]
  · have hne : j ≠ L.length := by simp at hj; omega
    rw [upd_other _ _ (by intro e; cases e), upd_other _ _ (by intro h; injection h with h; exact hne h), upd_other _ _ (by intro e; cases e)]
    exact h.fresh j (by simp at hj; omega)
end

end Go.Proofs.Yteifhbkhjkmhfaa
