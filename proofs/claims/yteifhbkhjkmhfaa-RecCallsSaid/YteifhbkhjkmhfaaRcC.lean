/-
  The words of the proof on histories' calls: notes, what a note makes of the calls, the rows that the calls own in memory.
-/
import Derived.Test.YteifhbkhjkmhfaaRcB
import Derived.Maps.AppendAt
import Derived.Deep.AppendLies
import Derived.Laws.OwnMore
import Derived.Maps.OwnSet
import Derived.Maps.OwnOps
namespace Go.Proofs.Yteifhbkhjkmhfaa
open Go.RowKit
set_option linter.unusedSimpArgs false
set_option linter.unusedVariables false

/-- A note. -/
structure Nt where
  task : Int
  what : Int
  op : Int
  arg : Int

/-- What a note makes of a call. -/
def stepC (k : Nat) (n : Nt) (c : Cal) : Cal :=
  if c.task = n.task ∧ n.what ≠ 1 ∧ c.to < 0 then (if n.what = 11 then { c with to := k, ret := n.arg } else { c with pts := c.pts ++ [(k : Int)] }) else c
/-- .. of the calls. -/
def stepL (k : Nat) (n : Nt) (L : List Cal) : List Cal :=
  if n.what = 1 then L ++ [⟨n.task, n.op, k, -1, 0, []⟩] else L.map (stepC k n)
/-- The calls of a task that aren't over. -/
def openOf (L : List Cal) (t : Int) : List Nat := (List.range L.length).filter fun j => decide ((L.getD j Cal.zero).task = t) && decide ((L.getD j Cal.zero).to < 0)

theorem openOf_lt {L : List Cal} {t : Int} {i : Nat} (h : i ∈ openOf L t) : i < L.length := by
  unfold openOf at h
  simpa using (List.mem_filter.1 h).1
theorem openOf_is {L : List Cal} {t : Int} {i : Nat} : i ∈ openOf L t ↔ i < L.length ∧ (L.getD i Cal.zero).task = t ∧ (L.getD i Cal.zero).to < 0 := by
  unfold openOf
  rw [List.mem_filter]
  simp
theorem openOf_nodup (L : List Cal) (t : Int) : (openOf L t).Nodup := List.Pairwise.filter _ List.nodup_range
theorem openOf_len (L : List Cal) (t : Int) : (openOf L t).length ≤ L.length := by
  unfold openOf
  exact Nat.le_trans (List.length_filter_le _ _) (by simp)

theorem openOf_snoc (L : List Cal) (c : Cal) (t : Int) : openOf (L ++ [c]) t = openOf L t ++ (if c.task = t ∧ c.to < 0 then [L.length] else []) := by
  unfold openOf
  rw [List.length_append, List.length_singleton, List.range_succ, List.filter_append]
  congr 1
  · apply List.filter_congr
    intro j hj
    have hj' := List.mem_range.1 hj
    have e : (L ++ [c]).getD j Cal.zero = L.getD j Cal.zero := by
      simp only [List.getD_eq_getElem?_getD]
      rw [List.getElem?_append_left hj']
    rw [e]
  · have e : (L ++ [c]).getD L.length Cal.zero = c := by simp [List.getD_eq_getElem?_getD]
    simp [e, List.filter_cons]

theorem getD_map {L : List Cal} {f : Cal → Cal} {j : Nat} (hj : j < L.length) : (L.map f).getD j Cal.zero = f (L.getD j Cal.zero) := by
  simp [List.getD_eq_getElem?_getD, hj]

theorem openOf_map {L : List Cal} {f : Cal → Cal} {t : Int} (h : ∀ c ∈ L, ((f c).task = t ∧ (f c).to < 0) ↔ (c.task = t ∧ c.to < 0)) : openOf (L.map f) t = openOf L t := by
  unfold openOf
  rw [List.length_map]
  apply List.filter_congr
  intro j hj
  have hj' := List.mem_range.1 hj
  rw [getD_map hj']
  have hm : L.getD j Cal.zero ∈ L := by simp [List.getD_eq_getElem?_getD, hj']
  have := h _ hm
  rw [Bool.eq_iff_iff]
  simpa using this

theorem openOf_ret {L : List Cal} {k : Nat} {n : Nt} (hw : n.what = 11) (t : Int) : openOf (L.map (stepC k n)) t = if t = n.task then [] else openOf L t := by
  split
  · rename_i ht
    subst ht
    rw [List.eq_nil_iff_forall_not_mem]
    intro i hi
    obtain ⟨h1, h2, h3⟩ := openOf_is.1 hi
    rw [List.length_map] at h1
    rw [getD_map h1] at h2 h3
    unfold stepC at h2 h3
    split at h3
    · simp [hw] at h3
      omega
    · rename_i hn
      rw [if_neg hn] at h2
      exact hn ⟨h2, by omega, h3⟩
  · rename_i ht
    apply openOf_map
    intro c hc
    unfold stepC
    split
    · rename_i hcs
      simp [hw]
      intro e
      exact absurd (e.symm.trans hcs.1) ht
    · exact Iff.rfl

theorem openOf_point {L : List Cal} {k : Nat} {n : Nt} (hw : n.what ≠ 11) (t : Int) : openOf (L.map (stepC k n)) t = openOf L t := by
  apply openOf_map
  intro c hc
  unfold stepC
  split
  · simp [hw]
  · exact Iff.rfl

/-- The calls at some places are turned by a note. -/
def setAll (k : Nat) (n : Nt) (is : List Nat) (L : List Cal) : List Cal := is.foldl (fun L i => L.set i (stepC k n (L.getD i Cal.zero))) L

theorem setAll_snoc (k : Nat) (n : Nt) (is : List Nat) (i : Nat) (L : List Cal) : setAll k n (is ++ [i]) L = (setAll k n is L).set i (stepC k n ((setAll k n is L).getD i Cal.zero)) := by
  unfold setAll
  rw [List.foldl_append]
  rfl
theorem setAll_len (k : Nat) (n : Nt) (is : List Nat) (L : List Cal) : (setAll k n is L).length = L.length := by
  unfold setAll
  induction is generalizing L with
  | nil => rfl
  | cons i is ih => rw [List.foldl_cons, ih]; simp
theorem setAll_at (k : Nat) (n : Nt) (is : List Nat) (L : List Cal) (hd : is.Nodup) (j : Nat) (hj : j < L.length) :
    (setAll k n is L).getD j Cal.zero = if j ∈ is then stepC k n (L.getD j Cal.zero) else L.getD j Cal.zero := by
  unfold setAll
  induction is generalizing L with
  | nil => simp
  | cons i is ih =>
    obtain ⟨hni, hd'⟩ := List.nodup_cons.1 hd
    rw [List.foldl_cons, ih _ hd' (by simpa using hj)]
    by_cases e : j = i
    · subst e
      simp [hni, List.getD_eq_getElem?_getD, hj]
    · have e1 : (L.set i (stepC k n (L.getD i Cal.zero))).getD j Cal.zero = L.getD j Cal.zero := by
        simp only [List.getD_eq_getElem?_getD]
        rw [List.getElem?_set_ne (Ne.symm e)]
      rw [e1]
      simp [e]

theorem setAll_open (k : Nat) (n : Nt) (L : List Cal) (hw : n.what ≠ 1) : setAll k n (openOf L n.task) L = L.map (stepC k n) := by
  apply cals_eq_all
  · rw [setAll_len, List.length_map]
  · intro j hj
    rw [setAll_len] at hj
    rw [setAll_at k n _ L (openOf_nodup L _) j hj, getD_map hj]
    split
    · rfl
    · rename_i hn
      unfold stepC
      rw [if_neg]
      rintro ⟨h1, h2, h3⟩
      exact hn (openOf_is.2 ⟨hj, h1, h3⟩)

/-! ### Rows in memory -/

inductive Ky where
  | out
  | pts (i : Nat)
  | opn (t : Int)
deriving DecidableEq
def Ky.ty : Ky → TypeId
  | .out => 52
  | _ => 3
def Ky.sz : Ky → Nat
  | .out => 6
  | _ => 1
def upd {α : Type} (f : Ky → α) (k : Ky) (x : α) : Ky → α := fun k' => if k' = k then x else f k'
theorem upd_same {α : Type} (f : Ky → α) (k : Ky) (x : α) : upd f k x k = x := if_pos rfl
theorem upd_other {α : Type} (f : Ky → α) {k k' : Ky} (x : α) (h : k' ≠ k) : upd f k x k' = f k' := if_neg h

structure Rows' (w : World) (B : Nat) (v : Ky → Value) (n : Ky → Nat) (xs : Ky → List Value) : Prop where
  own : ∀ k, w.ownsRow B k.ty k.sz (v k) (n k) (xs k)
  apart : ∀ k k', k ≠ k' → (v k).ownBlock = none ∨ (v k).ownBlock ≠ (v k').ownBlock

section
variable {w w' : World} {B : Nat} {v : Ky → Value} {n : Ky → Nat} {xs : Ky → List Value}

theorem Rows'.grown {r : Option Nat} (h : Rows' w B v n xs) (hg : w.grownBy w' r) (hr : ∀ k, (v k).ownBlock = none ∨ (v k).ownBlock ≠ r) : Rows' w' B v n xs :=
  ⟨fun k => (h.own k).kept hg (hr k), h.apart⟩
theorem Rows'.alloc (h : Rows' w B v n xs) (o : Obj) : Rows' (w.alloc o) B v n xs := ⟨fun k => (h.own k).alloc o, h.apart⟩
theorem Rows'.drewN (h : Rows' w B v n xs) (m : Nat) : Rows' (w.drewN m) B v n xs := ⟨fun k => h.own k, h.apart⟩
theorem Rows'.change {k : Ky} {v' : Value} {n' : Nat} {xs' : List Value} (h : Rows' w B v n xs) (hg : w.grownBy w' (v k).ownBlock) (ho : w'.ownsRow B k.ty k.sz v' n' xs')
    (hl : v'.ownBlock = (v k).ownBlock ∨ ∃ g, v'.ownBlock = some g ∧ w.heap.size ≤ g) : Rows' w' B (upd v k v') (upd n k n') (upd xs k xs') := by
  have hold : ∀ k', (v k').ownBlock = none ∨ ∃ g, (v k').ownBlock = some g ∧ g < w.heap.size := fun k' => by
    cases e : (v k').ownBlock with
    | none => exact .inl rfl
    | some g => exact .inr ⟨g, rfl, ((h.own k').lt g e).2⟩
  refine ⟨fun k' => ?_, fun a b hab => ?_⟩
  · by_cases e : k' = k
    · subst e
      rw [upd_same, upd_same, upd_same]
      exact ho
    · rw [upd_other _ _ e, upd_other _ _ e, upd_other _ _ e]
      exact (h.own k').kept hg (h.apart k' k e)
  · by_cases ea : a = k
    · subst ea
      rw [upd_same, upd_other _ _ (Ne.symm hab)]
      rcases hl with hl | ⟨g, hg1, hg2⟩
      · rw [hl]; exact h.apart a b hab
      · rcases hold b with hb | ⟨gb, hb, hlt⟩
        · rw [hg1, hb]; exact .inr (by simp)
        · rw [hg1, hb]; exact .inr (by simp; omega)
    · rw [upd_other _ _ ea]
      by_cases eb : b = k
      · subst eb
        rw [upd_same]
        rcases hl with hl | ⟨g, hg1, hg2⟩
        · rw [hl]; exact h.apart a b hab
        · rcases hold a with ha | ⟨ga, ha, hlt⟩
          · exact .inl ha
          · rw [hg1, ha]; exact .inr (by simp; omega)
      · rw [upd_other _ _ eb]
        exact h.apart a b hab
theorem Rows'.drop (h : Rows' w B v n xs) (k : Ky) : Rows' w B (upd v k (.slice none 0 0)) (upd n k 0) (upd xs k []) := by
  refine ⟨fun k' => ?_, fun a b hab => ?_⟩
  · by_cases e : k' = k
    · subst e
      rw [upd_same, upd_same, upd_same]
      exact World.ownsRow_nil _ _ _ _
    · rw [upd_other _ _ e, upd_other _ _ e, upd_other _ _ e]
      exact h.own k'
  · by_cases ea : a = k
    · subst ea
      rw [upd_same]
      exact .inl rfl
    · rw [upd_other _ _ ea]
      by_cases eb : b = k
      · subst eb
        rw [upd_same]
        cases e : (v a).ownBlock with
        | none => exact .inl rfl
        | some g => exact .inr (by simp [Value.ownBlock])
      · rw [upd_other _ _ eb]
        exact h.apart a b hab
theorem Rows'.stored {k : Ky} {g m cap : Nat} (h : Rows' w B v n xs) (hv : v k = .slice (some ⟨g, 0, none⟩) (n k) cap) (j : Nat) (u : Value) :
    Rows' (w.setCell ⟨g, j, none⟩ u) B v n (upd xs k ((xs k).set j u)) := by
  have ho := h.own k
  rw [hv] at ho
  obtain ⟨h1, h2⟩ := ho.stored j u
  have hgr : w.grownBy (w.setCell ⟨g, j, none⟩ u) (v k).ownBlock := by rw [hv]; exact h2
  have := h.change (k := k) (v' := v k) (n' := n k) hgr (by rw [hv]; exact h1) (.inl rfl)
  have e1 : upd v k (v k) = v := by funext k'; unfold upd; split <;> simp_all
  have e2 : upd n k (n k) = n := by funext k'; unfold upd; split <;> simp_all
  rwa [e1, e2] at this
end

end Go.Proofs.Yteifhbkhjkmhfaa
