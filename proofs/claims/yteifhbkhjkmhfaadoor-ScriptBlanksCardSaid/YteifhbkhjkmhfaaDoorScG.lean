/-
  What a script's lines tell: picks, or the line that is wrong, and why; what the loop of the program keeps between two lines.
-/
import Derived.Test.YteifhbkhjkmhfaaDoorScF
import Derived.Maps.AppendAt
import Derived.Deep.AppendLies
import Derived.Laws.OwnMore
import Derived.Maps.OwnSet
import Derived.Maps.OwnOps
namespace Go.Proofs.YteifhbkhjkmhfaaDoor
open Go.RowKit Go.Shelf Go.Sort
set_option linter.unusedSimpArgs false
set_option linter.unusedVariables false

/-- Whether a line says nothing. -/
def skipB : List (List UInt8) → Bool
  | [] => true
  | w :: _ => w.head? == some 35
/-- The picks of lines, behind k lines and the picks out; or a line, and an error's number. -/
def parseFrom (k : Nat) (out : List Pk) : List (List UInt8) → List Pk × Nat × Int
  | [] => (out, 0, 0)
  | l :: ls => if skipB (wordsL l) = true then parseFrom (k + 1) out ls
    else if (lineL (wordsL l)).2 = 0 then parseFrom (k + 1) (out ++ [(lineL (wordsL l)).1]) ls else ([], k + 1, (lineL (wordsL l)).2)

/-- What the first lines have told. -/
def Sofar (pre : List (List UInt8)) (out : List Pk) : Prop := ∀ rest, parseFrom 0 [] (pre ++ rest) = parseFrom pre.length out rest
theorem Sofar.start : Sofar [] [] := fun _ => rfl
theorem Sofar.skip {pre : List (List UInt8)} {out : List Pk} {l : List UInt8} (h : Sofar pre out) (hs : skipB (wordsL l) = true) : Sofar (pre ++ [l]) out := fun rest => by
  rw [List.append_assoc, h, List.length_append]
  show parseFrom _ _ (l :: rest) = _
  rw [parseFrom, if_pos hs]
  rfl
theorem Sofar.take {pre : List (List UInt8)} {out : List Pk} {l : List UInt8} (h : Sofar pre out) (hs : skipB (wordsL l) = false) (he : (lineL (wordsL l)).2 = 0) : Sofar (pre ++ [l]) (out ++ [(lineL (wordsL l)).1]) := fun rest => by
  rw [List.append_assoc, h, List.length_append]
  show parseFrom _ _ (l :: rest) = _
  rw [parseFrom, if_neg (by rw [hs]; decide), if_pos he]
  rfl
theorem Sofar.wrong {pre : List (List UInt8)} {out : List Pk} {l : List UInt8} (h : Sofar pre out) (hs : skipB (wordsL l) = false) (he : (lineL (wordsL l)).2 ≠ 0) (rest : List (List UInt8)) :
    parseFrom 0 [] (pre ++ [l] ++ rest) = ([], pre.length + 1, (lineL (wordsL l)).2) := by
  rw [List.append_assoc, h]
  show parseFrom _ _ (l :: rest) = _
  rw [parseFrom, if_neg (by rw [hs]; decide), if_neg he]

theorem prefix_skip (w : List UInt8) : Lib.hasPrefix w [35] = (w.head? == some 35) := by
  unfold Lib.hasPrefix
  cases w with
  | nil => rfl
  | cons x w =>
    rw [Bool.eq_iff_iff]
    simp [List.isPrefixOf]
    exact eq_comm

def pkCells (L : List Pk) : List Value := L.flatMap fun p => [.int .i64 p.task, .int .i64 p.op]
theorem pkCells_snoc (L : List Pk) (p : Pk) : pkCells (L ++ [p]) = pkCells L ++ [.int .i64 p.task, .int .i64 p.op] := by simp [pkCells]

/-- A row's value. -/
theorem row_form {w : World} {B : Nat} {e : TypeId} {s n : Nat} {v : Value} {xs : List Value} (h : w.ownsRow B e s v n xs) : ∃ oo cap, v = .slice oo n cap ∧ (0 < n → ∃ g, oo = some ⟨g, 0, none⟩) := by
  obtain ⟨_, ⟨rfl, rfl⟩ | ⟨g, cap, cur, rfl, _⟩⟩ := h
  · exact ⟨none, 0, rfl, fun h => by omega⟩
  · exact ⟨some ⟨g, 0, none⟩, cap, rfl, fun _ => ⟨g, rfl⟩⟩
theorem pkCells_len (L : List Pk) : (pkCells L).length = L.length * 2 := by
  induction L with
  | nil => rfl
  | cons p L ih => simp [pkCells] at ih ⊢; omega
theorem pkCells_at (L : List Pk) (j : Nat) (hj : j < L.length) : (pkCells L)[j * 2]? = some (.int .i64 (L.getD j Pk.zero).task) ∧ (pkCells L)[j * 2 + 1]? = some (.int .i64 (L.getD j Pk.zero).op) := by
  induction L generalizing j with
  | nil => simp at hj
  | cons p L ih =>
    have e : pkCells (p :: L) = [.int .i64 p.task, .int .i64 p.op] ++ pkCells L := rfl
    cases j with
    | zero => exact ⟨rfl, rfl⟩
    | succ j =>
      have h := ih j (by simpa using hj)
      rw [e, List.getElem?_append_right (by simp; omega), List.getElem?_append_right (by simp; omega)]
      have e1 : (j + 1) * 2 - [Value.int .i64 p.task, .int .i64 p.op].length = j * 2 := by simp; omega
      have e2 : (j + 1) * 2 + 1 - [Value.int .i64 p.task, .int .i64 p.op].length = j * 2 + 1 := by simp; omega
      rw [e1, e2]
      exact h
/-- A slice of picks that reads as L. -/
def PicksAt (w : World) (v : Value) (L : List Pk) : Prop := ∃ oo cap, v = .slice oo L.length cap ∧ ∀ j, j < L.length → ∃ g, oo = some ⟨g, 0, none⟩ ∧ w.cell? ⟨g, j * 2, none⟩ = some (.int .i64 (L.getD j Pk.zero).task) ∧ w.cell? ⟨g, j * 2 + 1, none⟩ = some (.int .i64 (L.getD j Pk.zero).op)
theorem picks_of_row {w : World} {B : Nat} {v : Value} {L : List Pk} (h : w.ownsRow B 47 2 v L.length (pkCells L)) : PicksAt w v L := by
  obtain ⟨oo, cap, rfl, hoo⟩ := row_form h
  refine ⟨oo, cap, rfl, fun j hj => ?_⟩
  obtain ⟨g, rfl⟩ := hoo (by omega)
  obtain ⟨h1, h2⟩ := pkCells_at L j hj
  exact ⟨g, rfl, by rw [h.cellAt _ (by omega)]; exact h1, by rw [h.cellAt _ (by omega)]; exact h2⟩
theorem PicksAt.below {w w' : World} {v : Value} {L : List Pk} (h : PicksAt w v L) (hb : Below w.heap.size w w') : PicksAt w' v L := by
  obtain ⟨oo, cap, e, h⟩ := h
  refine ⟨oo, cap, e, fun j hj => ?_⟩
  obtain ⟨g, hg, h1, h2⟩ := h j hj
  have hlt := World.block_lt_of_cell? w _ h1
  exact ⟨g, hg, (hb.cell (p := ⟨g, j * 2, none⟩) hlt).trans h1, (hb.cell (p := ⟨g, j * 2 + 1, none⟩) hlt).trans h2⟩
theorem picks_nil (w : World) : PicksAt w (.slice none 0 0) [] := ⟨none, 0, rfl, fun j hj => by simp at hj⟩

/-- The five boxes of the program's loop, and the picks' row. -/
structure LoopAt (w : World) (B : Nat) (r0 r1 r2 vo : Value) (at_ : Int) (L : List Pk) (W : World) : Prop where
  b0 : Boxed W B 23 r0
  b1 : Boxed W (B + 1) 3 r1
  b2 : Boxed W (B + 2) 24 r2
  b3 : Boxed W (B + 3) 23 vo
  b4 : Boxed W (B + 4) 3 (.int .i64 at_)
  row : W.ownsRow (B + 8) 47 2 vo L.length (pkCells L)
  below : Below w.heap.size w W
  big : B + 8 ≤ W.heap.size

theorem LoopAt.grown {w W W' : World} {B : Nat} {r0 r1 r2 vo : Value} {at_ : Int} {L : List Pk} {row : Option Nat} (h : LoopAt w B r0 r1 r2 vo at_ L W) (hB : B = w.heap.size) (hg : W.grownBy W' row) (h1 : ∀ r, row = some r → B + 5 ≤ r) (h2 : vo.ownBlock = none ∨ vo.ownBlock ≠ row) : LoopAt w B r0 r1 r2 vo at_ L W' := by
  have kb : ∀ {k t v}, k < B + 5 → Boxed W k t v → Boxed W' k t v := fun {k t v} hk hb => (hg.block k hb.lt (fun e => by have := h1 _ e.symm; omega)).trans hb
  exact ⟨kb (by omega) h.b0, kb (by omega) h.b1, kb (by omega) h.b2, kb (by omega) h.b3, kb (by omega) h.b4, h.row.kept hg h2, h.below.grown hg h.below.size (fun k e => by have := h1 k e; omega), Nat.le_trans h.big hg.size⟩

theorem row_cells {W : World} {B e s n : Nat} {v : Value} {xs : List Value} {r : Nat} {o : Obj} (h : W.ownsRow B e s v n xs) (ho : W.heap[r]? = some o) (hc : o.isCells = false) : v.ownBlock = none ∨ v.ownBlock ≠ some r := by
  obtain ⟨_, ⟨rfl, _⟩ | ⟨g, cap, cur, rfl, _, hg, _⟩⟩ := h
  · exact .inl rfl
  · refine .inr fun e => ?_
    injection e with e
    subst e
    rw [hg] at ho
    injection ho with ho
    subst ho
    cases hc

theorem LoopAt.own {w : World} {B : Nat} {r0 r1 r2 vo : Value} {at_ : Int} {L : List Pk} (hB : B = w.heap.size) (C : Nat) (hC : B + 8 ≤ C) {W W' : World} {row : Option Nat} (h : LoopAt w B r0 r1 r2 vo at_ L W) (hg : W.grownBy W' row)
    (hr : ∀ r, row = some r → C ≤ r ∧ ∃ o : Obj, W.heap[r]? = some o ∧ o.isCells = false) : LoopAt w B r0 r1 r2 vo at_ L W' :=
  h.grown hB hg (fun r e => by have := (hr r e).1; omega) (by
    cases row with
    | none =>
      cases e : vo.ownBlock with
      | none => exact .inl rfl
      | some g => exact .inr (by simp)
    | some r => obtain ⟨_, o, ho, hc⟩ := hr r rfl; exact row_cells h.row ho hc)
theorem LoopAt.cellB {w : World} {B : Nat} {r0 r1 r2 vo : Value} {at_ : Int} {L : List Pk} (hB : B = w.heap.size) {W : World} (h : LoopAt w B r0 r1 r2 vo at_ L W) (v : Value) : LoopAt w B r0 r1 r2 vo at_ L (W.setCell ⟨B + 5, 0, none⟩ v) :=
  h.grown hB (grownBy_setCell' W (B + 5) v) (fun r e => by cases e; omega) (by
    cases e : vo.ownBlock with
    | none => exact .inl rfl
    | some g => exact .inr (by have := (h.row.lt g e).1; simp; omega))

theorem grown_none {w w' : World} (h : Below w.heap.size w w') : w.grownBy w' none := ⟨h.os, h.tape, h.output, h.size, fun k hk _ => h.block k hk⟩
theorem LoopAt.later {w : World} {B : Nat} {r0 r1 r2 vo : Value} {at_ : Int} {L : List Pk} (hB : B = w.heap.size) {W W' : World} (h : LoopAt w B r0 r1 r2 vo at_ L W) (hb : Below W.heap.size W W') : LoopAt w B r0 r1 r2 vo at_ L W' :=
  h.grown hB (grown_none hb) (fun r e => by cases e) (by
    cases e : vo.ownBlock with
    | none => exact .inl rfl
    | some g => exact .inr (by simp))
theorem row_far {W : World} {B e s n k : Nat} {v u : Value} {xs : List Value} (h : W.ownsRow B e s v n xs) (hk : k < B) : (W.setCell ⟨k, 0, none⟩ u).ownsRow B e s v n xs :=
  h.kept (grownBy_setCell' W k u) (by
    cases e : v.ownBlock with
    | none => exact .inl rfl
    | some g => exact .inr (by have := (h.lt g e).1; simp; omega))
theorem LoopAt.at' {w : World} {B : Nat} {r0 r1 r2 vo : Value} {at_ : Int} {L : List Pk} (hB : B = w.heap.size) {W : World} (h : LoopAt w B r0 r1 r2 vo at_ L W) (k : Int) : LoopAt w B r0 r1 r2 vo k L (W.setCell ⟨B + 4, 0, none⟩ (.int .i64 k)) :=
  ⟨h.b0.other (by omega) _, h.b1.other (by omega) _, h.b2.other (by omega) _, h.b3.other (by omega) _, h.b4.set _, row_far h.row (by omega), h.below.setCell (p := ⟨B + 4, 0, none⟩) (by show w.heap.size ≤ B + 4; omega) _, by have := (Kf.setCell 0 W ⟨B + 4, 0, none⟩ (.int .i64 k)).1; have := h.big; omega⟩
theorem LoopAt.out' {w : World} {B : Nat} {r0 r1 r2 vo v' : Value} {at_ : Int} {L L' : List Pk} (hB : B = w.heap.size) {W : World} (h : LoopAt w B r0 r1 r2 vo at_ L W) (hr : W.ownsRow (B + 8) 47 2 v' L'.length (pkCells L')) : LoopAt w B r0 r1 r2 v' at_ L' (W.setCell ⟨B + 3, 0, none⟩ v') :=
  ⟨h.b0.other (by omega) _, h.b1.other (by omega) _, h.b2.other (by omega) _, h.b3.set _, h.b4.other (by omega) _, row_far hr (by omega), h.below.setCell (p := ⟨B + 3, 0, none⟩) (by show w.heap.size ≤ B + 3; omega) _, by have := (Kf.setCell 0 W ⟨B + 3, 0, none⟩ v').1; have := h.big; omega⟩
theorem Kb.setCell {b : Nat} (W : World) (k : Nat) (v : Value) (h : k < b ∨ b + 3 ≤ k) : Kb b W (W.setCell ⟨k, 0, none⟩ v) := fun i h1 h2 => Below.heap_setCell W ⟨k, 0, none⟩ v i (by show i ≠ k; omega)
theorem Kb.below {b : Nat} {W W' : World} (hb : Below W.heap.size W W') (h : b + 3 ≤ W.heap.size) : Kb b W W' := fun i _ h2 => hb.block i (by omega)

theorem own_ne {W : World} {B e s n : Nat} {v : Value} {xs : List Value} (h : W.ownsRow B e s v n xs) {k : Nat} (hk : k < B) : some k ≠ v.ownBlock := fun e => by have := (h.lt k e.symm).1; omega
/-- A pick is appended: the boxes lie as they lay. -/
theorem LoopAt.pushed {w : World} {B : Nat} {r0 r1 r2 vo v' : Value} {at_ : Int} {L L' : List Pk} (hB : B = w.heap.size) {W W' : World} (h : LoopAt w B r0 r1 r2 vo at_ L W) (hg : W.grownBy W' vo.ownBlock) (hr : W'.ownsRow (B + 8) 47 2 v' L'.length (pkCells L')) :
    Boxed W' (B + 3) 23 vo ∧ LoopAt w B r0 r1 r2 v' at_ L' (W'.setCell ⟨B + 3, 0, none⟩ v') := by
  have kb : ∀ {k t v}, k < B + 8 → Boxed W k t v → Boxed W' k t v := fun {k t v} hk hb => (hg.block k hb.lt (own_ne h.row hk)).trans hb
  refine ⟨kb (by omega) h.b3, ?_⟩
  have hb : Below w.heap.size w W' := h.below.grown hg h.below.size (fun k e => by have := (h.row.lt k e).1; omega)
  exact ⟨(kb (by omega) h.b0).other (by omega) _, (kb (by omega) h.b1).other (by omega) _, (kb (by omega) h.b2).other (by omega) _, (kb (by omega) h.b3).set _, (kb (by omega) h.b4).other (by omega) _, row_far hr (by omega),
    hb.setCell (p := ⟨B + 3, 0, none⟩) (by show w.heap.size ≤ B + 3; omega) _, by have := (Kf.setCell 0 W' ⟨B + 3, 0, none⟩ v').1; have := hg.size; have := h.big; omega⟩
theorem Kf.grown {W W' : World} {B e s n C : Nat} {v : Value} {xs : List Value} (h : W.ownsRow B e s v n xs) (hg : W.grownBy W' v.ownBlock) : Kf C W W' :=
  ⟨hg.size, fun k o _ hk ho => (hg.block k (Array.getElem?_eq_some_iff.1 hk).1 (fun e => by rcases row_cells h hk ho with h1 | h1 <;> exact absurd (show v.ownBlock = _ from e.symm) (by first | (rw [h1]; simp) | exact h1))).trans hk⟩
theorem Kb.grown {W W' : World} {B e s n b : Nat} {v : Value} {xs : List Value} (h : W.ownsRow B e s v n xs) (hg : W.grownBy W' v.ownBlock) (hb : b + 3 ≤ B) (hz : b + 3 ≤ W.heap.size) : Kb b W W' := fun i _ h2 => hg.block i (by omega) (own_ne h (by omega))

/-- The results are laid. -/
theorem LoopAt.res {w : World} {B : Nat} {r0 r1 r2 vo : Value} {at_ : Int} {L : List Pk} (hB : B = w.heap.size) {W : World} (h : LoopAt w B r0 r1 r2 vo at_ L W) (s0 s1 s2 : Value) : LoopAt w B s0 s1 s2 vo at_ L (((W.setCell ⟨B, 0, none⟩ s0).setCell ⟨B + 1, 0, none⟩ s1).setCell ⟨B + 2, 0, none⟩ s2) := by
  have hk : ∀ (W : World) (k : Nat) (v : Value), W.heap.size ≤ (W.setCell ⟨k, 0, none⟩ v).heap.size := fun W k v => (Kf.setCell 0 W ⟨k, 0, none⟩ v).1
  refine ⟨((h.b0.set _).other (by omega) _).other (by omega) _, ((h.b1.other (by omega) _).set _).other (by omega) _, ((h.b2.other (by omega) _).other (by omega) _).set _, ((h.b3.other (by omega) _).other (by omega) _).other (by omega) _, ((h.b4.other (by omega) _).other (by omega) _).other (by omega) _,
    row_far (row_far (row_far h.row (by omega)) (by omega)) (by omega),
    ((h.below.setCell (p := ⟨B, 0, none⟩) (by show w.heap.size ≤ B; omega) _).setCell (p := ⟨B + 1, 0, none⟩) (by show w.heap.size ≤ B + 1; omega) _).setCell (p := ⟨B + 2, 0, none⟩) (by show w.heap.size ≤ B + 2; omega) _, ?_⟩
  have h1 := hk W B s0
  have h2 := hk (W.setCell ⟨B, 0, none⟩ s0) (B + 1) s1
  have h3 := hk ((W.setCell ⟨B, 0, none⟩ s0).setCell ⟨B + 1, 0, none⟩ s1) (B + 2) s2
  have := h.big
  omega
theorem Kf.drew (C : Nat) (W : World) : Kf C W W.drew := ⟨Nat.le_refl _, fun _ _ _ h _ => h⟩

end Go.Proofs.YteifhbkhjkmhfaaDoor
