/-
  The plain law of blanks: what stands between two scripts adds lines and no picks.
-/
import Derived.Test.YteifhbkhjkmhfaaDoorScM
namespace Go.Proofs.YteifhbkhjkmhfaaDoor
set_option linter.unusedSimpArgs false
set_option linter.unusedVariables false

theorem pcs_append (c : UInt8) (x y : List UInt8) : pcs c (x ++ c :: y) = pcs c x ++ pcs c y := by
  induction x with
  | nil => rw [List.nil_append, pcs_cons_at]; rfl
  | cons z x ih =>
    by_cases hz : z = c
    · subst hz
      rw [List.cons_append, pcs_cons_at, pcs_cons_at, ih]; rfl
    · obtain ⟨p, ps, h⟩ := pcs_is c x
      rw [h] at ih
      rw [List.cons_append, pcs_cons hz ih, pcs_cons hz h]; rfl

/-- The line that is filled in at number k. -/
def fillP (k : Nat) : List UInt8 := [[], [32, 32, 32], [32, 35, 32, 51, 32, 114, 108, 111, 99, 107]].getD (k % 3) []
def btw : Nat → List UInt8
  | 0 => [10]
  | k + 1 => btw k ++ (fillP k ++ [10])
def fillLs : Nat → List (List UInt8)
  | 0 => []
  | k + 1 => fillLs k ++ [fillP k]
theorem fillLs_len (k : Nat) : (fillLs k).length = k := by
  induction k with
  | zero => rfl
  | succ k ih => simp [fillLs, ih]
theorem fill_cases (k : Nat) : fillP k = [] ∨ fillP k = [32, 32, 32] ∨ fillP k = [32, 35, 32, 51, 32, 114, 108, 111, 99, 107] := by
  have h : k % 3 = 0 ∨ k % 3 = 1 ∨ k % 3 = 2 := by omega
  unfold fillP
  rcases h with h | h | h <;> rw [h] <;> simp
theorem fill_no (k : Nat) : (10 : UInt8) ∉ fillP k := by
  rcases fill_cases k with h | h | h <;> rw [h] <;> decide
theorem fill_len (k : Nat) : (fillP k).length ≤ 10 := by
  rcases fill_cases k with h | h | h <;> rw [h] <;> decide
theorem fill_skip (k : Nat) : skipB (wordsL (fillP k)) = true := by
  rcases fill_cases k with h | h | h <;> rw [h] <;> decide +kernel
theorem btw_len (k : Nat) : (btw k).length ≤ 1 + 11 * k := by
  induction k with
  | zero => simp [btw]
  | succ k ih =>
    have := fill_len k
    simp [btw]; omega

theorem pcs_btw (a : List UInt8) (k : Nat) : ∀ b, pcs 10 (a ++ btw k ++ b) = pcs 10 a ++ fillLs k ++ pcs 10 b := by
  induction k with
  | zero =>
    intro b
    show pcs 10 (a ++ [10] ++ b) = pcs 10 a ++ [] ++ pcs 10 b
    rw [List.append_nil, List.append_assoc]
    exact pcs_append 10 a b
  | succ k ih =>
    intro b
    have e : a ++ btw (k + 1) ++ b = a ++ btw k ++ (fillP k ++ 10 :: b) := by simp [btw]
    rw [e, ih, pcs_first _ _ (fill_no k)]
    simp [fillLs]

theorem parse_ok : ∀ (ls : List (List UInt8)) (k : Nat) (out L : List Pk) (n : Nat), parseFrom k out ls = (L, n, 0) → n = 0 ∧ ∀ rest, parseFrom k out (ls ++ rest) = parseFrom (k + ls.length) L rest := by
  intro ls
  induction ls with
  | nil =>
    intro k out L n h
    simp only [parseFrom, Prod.mk.injEq] at h
    obtain ⟨rfl, rfl, _⟩ := h
    exact ⟨rfl, fun rest => rfl⟩
  | cons l ls ih =>
    intro k out L n h
    rw [parseFrom] at h
    split at h
    · rename_i hs
      obtain ⟨h1, h2⟩ := ih _ _ _ _ h
      refine ⟨h1, fun rest => ?_⟩
      rw [List.cons_append, parseFrom, if_pos hs, h2, List.length_cons]
      congr 1; omega
    · rename_i hs
      split at h
      · rename_i he
        obtain ⟨h1, h2⟩ := ih _ _ _ _ h
        refine ⟨h1, fun rest => ?_⟩
        rw [List.cons_append, parseFrom, if_neg hs, if_pos he, h2, List.length_cons]
        congr 1; omega
      · rename_i he
        simp only [Prod.mk.injEq] at h
        exact absurd h.2.2 he

theorem parse_wrong : ∀ (ls : List (List UInt8)) (k : Nat) (out L : List Pk) (n : Nat) (e : Int), parseFrom k out ls = (L, n, e) → e ≠ 0 → L = [] := by
  intro ls
  induction ls with
  | nil =>
    intro k out L n e h he
    simp only [parseFrom, Prod.mk.injEq] at h
    exact absurd h.2.2.symm he
  | cons l ls ih =>
    intro k out L n e h he
    rw [parseFrom] at h
    split at h
    · exact ih _ _ _ _ _ h he
    · split at h
      · exact ih _ _ _ _ _ h he
      · simp only [Prod.mk.injEq] at h
        exact h.1.symm

/-- Behind k lines and the picks out: the picks come behind, the line's number grows. -/
theorem parse_shift (k : Nat) (out : List Pk) : ∀ (ls : List (List UInt8)) (j : Nat) (o L : List Pk) (n : Nat) (e : Int), parseFrom j o ls = (L, n, e) →
    parseFrom (k + j) (out ++ o) ls = if e = 0 then (out ++ L, 0, 0) else ([], k + n, e) := by
  intro ls
  induction ls with
  | nil =>
    intro j o L n e h
    simp only [parseFrom, Prod.mk.injEq] at h
    obtain ⟨rfl, rfl, rfl⟩ := h
    rfl
  | cons l ls ih =>
    intro j o L n e h
    rw [parseFrom] at h ⊢
    split at h
    · rename_i hs
      rw [if_pos hs]
      exact ih _ _ _ _ _ h
    · rename_i hs
      rw [if_neg hs]
      split at h
      · rename_i he
        rw [if_pos he, List.append_assoc]
        exact ih _ _ _ _ _ h
      · rename_i he
        simp only [Prod.mk.injEq] at h
        obtain ⟨rfl, rfl, rfl⟩ := h
        rw [if_neg he, if_neg he]
        rfl

theorem sofar_pcs {a : List UInt8} {L : List Pk} {n : Nat} (h : parseFrom 0 [] (linesL a) = (L, n, 0)) : Sofar (pcs 10 a) L := by
  obtain ⟨_, h2⟩ := parse_ok _ _ _ _ _ h
  have hS : Sofar (linesL a) L := fun rest => by rw [h2 rest, Nat.zero_add]
  have hp : pcs 10 a = (pcs 10 a).dropLast ++ [(pcs 10 a).getLast (pcs_ne 10 a)] := (List.dropLast_concat_getLast (pcs_ne 10 a)).symm
  unfold linesL at hS
  split at hS
  · rename_i he
    rw [he] at hp
    rw [hp]
    exact hS.skip (by decide +kernel)
  · exact hS
theorem sofar_fill {pre : List (List UInt8)} {L : List Pk} (h : Sofar pre L) (k : Nat) : Sofar (pre ++ fillLs k) L := by
  induction k with
  | zero => rw [fillLs, List.append_nil]; exact h
  | succ k ih => rw [fillLs, ← List.append_assoc]; exact ih.skip (fill_skip k)

/-- The law, in plain words. -/
theorem blanks_law {a b : List UInt8} {L M : List Pk} {n at_ : Nat} {f : Int} (k : Nat) (ha : parseFrom 0 [] (linesL a) = (L, n, 0)) (hb : parseFrom 0 [] (linesL b) = (M, at_, f)) :
    parseFrom 0 [] (linesL (a ++ btw k ++ b)) = if f = 0 then (L ++ M, 0, 0) else ([], (pcs 10 a).length + k + at_, f) := by
  have hS := sofar_fill (sofar_pcs ha) k
  have hpb : pcs 10 b = (pcs 10 b).dropLast ++ [(pcs 10 b).getLast (pcs_ne 10 b)] := (List.dropLast_concat_getLast (pcs_ne 10 b)).symm
  have hl : linesL (a ++ btw k ++ b) = pcs 10 a ++ fillLs k ++ linesL b := by
    have h1 : pcs 10 (a ++ btw k ++ b) = (pcs 10 a ++ fillLs k ++ (pcs 10 b).dropLast) ++ [(pcs 10 b).getLast (pcs_ne 10 b)] := by
      rw [pcs_btw]
      conv => lhs; rw [hpb]
      simp
    rw [linesL_of h1, linesL_of hpb]
    split <;> simp
  rw [hl, hS]
  have := parse_shift ((pcs 10 a ++ fillLs k).length) L (linesL b) 0 [] M at_ f hb
  rw [Nat.add_zero, List.append_nil] at this
  rw [this, List.length_append, fillLs_len]

/-- How many lines stand ahead. -/
theorem lines_ahead (a : List UInt8) : (linesL (a ++ [10])).length = (pcs 10 a).length := by
  rw [linesL_of (pcs_snoc_at 10 a), if_pos rfl]

end Go.Proofs.YteifhbkhjkmhfaaDoor
