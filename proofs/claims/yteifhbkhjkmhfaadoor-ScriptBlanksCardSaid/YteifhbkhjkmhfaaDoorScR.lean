/-
  append of one row of picks to another.
-/
import Derived.Test.YteifhbkhjkmhfaaDoorScP
namespace Go.Proofs.YteifhbkhjkmhfaaDoor
open Go.RowKit Go.Shelf Go.Sort
set_option linter.unusedSimpArgs false
set_option linter.unusedVariables false

theorem pk_one (L : List Pk) : ∀ u ∈ pkCells L, u.oneCell' = true := by
  intro u hu
  unfold pkCells at hu
  obtain ⟨p, _, hp⟩ := List.mem_flatMap.1 hu
  simp at hp
  rcases hp with rfl | rfl <;> rfl

theorem run_append_none (W : World) (p : Option Addr) (n c : Nat) (hc : n ≤ c) (hm : c ≤ maxLen) :
    (Builtin.append_ #[23, 23] 23 #[.slice p n c, .slice none 0 0]).run Tryd.prog W = .ok (.slice p n c) W := by
  obtain ⟨i0, hi0, hy0, hy1, hy2⟩ := info_parts info47
  have h63 : ¬ (9223372036854775807 < (n : Int)) := by unfold maxLen at hm; omega
  simp [Builtin.append_, run_underlying Tryd.underlying23, sizeOf, typeInfo, zeroValue, hi0, hy0, Builtin.lenOf, hc, h63]
  cases p <;> simp [Builtin.firstCells, storeCells]

theorem run_append_rows (W : World) {B B2 : Nat} {v v2 : Value} {n m : Nat} {xs ys : List Value} (h1 : W.ownsRow B 47 2 v n xs) (h2 : W.ownsRow B2 47 2 v2 m ys) (hnm : n + m ≤ 100000) (hB : B ≤ W.heap.size) (hone : ∀ u ∈ ys, u.oneCell' = true) :
    ∃ v' w', (Builtin.append_ #[23, 23] 23 #[v, v2]).run Tryd.prog W = .ok v' w' ∧ w'.ownsRow B 47 2 v' (n + m) (xs ++ ys) ∧ W.grownBy w' v.ownBlock := by
  obtain ⟨i0, hi0, hy0, hy1, hy2⟩ := info_parts info47
  obtain ⟨hl2, h2 | ⟨g, cap, cur, rfl, _, hcur, hcap, hmax, hsz, htk⟩⟩ := h2
  · obtain ⟨rfl, rfl⟩ := h2
    have hy : ys = [] := List.eq_nil_of_length_eq_zero (by simpa using hl2)
    subst hy
    have hr : (Builtin.append_ #[23, 23] 23 #[v, .slice none 0 0]).run Tryd.prog W = .ok v W := by
      rcases h1.2 with ⟨rfl, rfl⟩ | ⟨g, cap, cur, rfl, _, _, hcap, hmax, _⟩
      · exact run_append_none W none 0 0 (Nat.le_refl _) (Nat.zero_le _)
      · exact run_append_none W _ n cap hcap hmax
    exact ⟨v, W, hr, by rw [Nat.add_zero, List.append_nil]; exact h1, ⟨rfl, rfl, rfl, Nat.le_refl _, fun _ _ _ => rfl⟩⟩
  · have hnews : ∀ j u, ys[j]? = some u → W.cell? ((⟨g, 0, none⟩ : Addr).add j) = some u := fun j u hu => by
      refine World.news_of_block hcur j u ?_
      rw [← htk] at hu
      rw [List.getElem?_take] at hu
      split at hu
      · exact hu
      · cases hu
    obtain ⟨v', w', hr, h3, h4, _⟩ := run_append_own_at (P := Tryd.prog) W B 23 23 47 i0 _ 2 16 Tryd.underlying23 hi0 hy0 hy1 hy2 rfl (by omega) v n xs h1 ⟨g, 0, none⟩ m cap ys hl2 hnews hone (by unfold maxLen; omega) (by omega) hB
    exact ⟨v', w', hr, h3, h4⟩

/-- At the operation, its guard true. -/
theorem wpList_append_rows {W : World} {ops : Array Oper} {rest : List Oper} {o : Oper} {a : Act} {Q : Exit → Act → World → Prop} (hw : Region.wanted o (yielded ops a.tmps) = true) (s x : Operand)
    (ho : o.op = .call { callee := .builtin .append, args := #[s, x], argTypes := #[23, 23] }) (hty : o.type = 23)
    {B B2 : Nat} {v v2 : Value} {n m : Nat} {xs ys : List Value} (hs : a.eval s = v) (hx : a.eval x = v2) (h1 : W.ownsRow B 47 2 v n xs) (h2 : W.ownsRow B2 47 2 v2 m ys) (hnm : n + m ≤ 100000) (hB : B ≤ W.heap.size) (hone : ∀ u ∈ ys, u.oneCell' = true)
    (h : ∀ v' w', w'.ownsRow B 47 2 v' (n + m) (xs ++ ys) → W.grownBy w' v.ownBlock → wpList Tryd.prog ops Q rest (a.put o.dst v') w') : wpList Tryd.prog ops Q (o :: rest) a W := by
  refine wpList_step fun K hK => ?_
  rw [if_pos hw]
  obtain ⟨v', w', hr, h3, h4⟩ := run_append_rows W h1 h2 hnm hB hone
  unfold Oper.wp execOp
  simp only [ho, resolve, invoke, builtin, Sem.run_bind, Sem.run_pure, Result.andThen_ok, List.map_toArray, List.map_cons, List.map_nil, hs, hx, hty, hr]
  exact hK _ _ (h v' w' h3 h4)
theorem keep {w w' : World} {B e s n : Nat} {v : Value} {xs : List Value} (h : w.ownsRow B e s v n xs) (hb : Below w.heap.size w w') : w'.ownsRow B e s v n xs :=
  h.kept (grown_none hb) (by cases e : v.ownBlock with | none => exact .inl rfl | some g => exact .inr (by simp))
theorem apart {w w' : World} {B B' e s n e' s' n' : Nat} {v v' : Value} {xs xs' : List Value} (h : w.ownsRow B e s v n xs) (h' : w'.ownsRow B' e' s' v' n' xs') (hB : w'.heap.size ≤ B) : v.ownBlock = none ∨ v.ownBlock ≠ v'.ownBlock := by
  cases e1 : v.ownBlock with
  | none => exact .inl rfl
  | some g =>
    refine .inr fun e2 => ?_
    have a1 := (h.lt g e1).1
    have a2 := (h'.lt g e2.symm).2
    omega
theorem pkCells_append (L M : List Pk) : pkCells L ++ pkCells M = pkCells (L ++ M) := by simp [pkCells]

end Go.Proofs.YteifhbkhjkmhfaaDoor
