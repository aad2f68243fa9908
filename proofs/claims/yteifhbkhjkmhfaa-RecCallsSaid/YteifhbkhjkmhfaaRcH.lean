/-
  The plain law on who is within a call at the end: the last call or return of each task; rows of numbers that rise are told by what is in them.
-/
import Derived.Test.YteifhbkhjkmhfaaRcG
namespace Go.Proofs.Yteifhbkhjkmhfaa
open Go.RowKit
set_option linter.unusedSimpArgs false
set_option linter.unusedVariables false

/-- Whether a note is a call or a return. -/
def turnsB (n : Nt) : Bool := n.what == 1 || n.what == 11
/-- What a task did last, of calls and returns, among the first notes: 0 if nothing. -/
def lastN (nt : Nat → Nt) : Nat → Int → Int
  | 0, _ => 0
  | k + 1, t => if (nt k).task = t ∧ turnsB (nt k) = true then (nt k).what else lastN nt k t

theorem lastN_some (nt : Nat → Nt) (k : Nat) (t : Int) (h : lastN nt k t ≠ 0) : ∃ i, i < k ∧ (nt i).task = t := by
  induction k with
  | zero => exact absurd rfl h
  | succ k ih =>
    unfold lastN at h
    split at h
    · rename_i hc
      exact ⟨k, by omega, hc.1⟩
    · obtain ⟨i, hi, e⟩ := ih h
      exact ⟨i, by omega, e⟩

theorem sorted_eq {a b : List Int} (ha : a.Pairwise (· < ·)) (hb : b.Pairwise (· < ·)) (h : ∀ x, x ∈ a ↔ x ∈ b) : a = b := by
  induction a generalizing b with
  | nil =>
    cases b with
    | nil => rfl
    | cons y b => exact absurd ((h y).2 (by simp)) (by simp)
  | cons x a ih =>
    cases b with
    | nil => exact absurd ((h x).1 (by simp)) (by simp)
    | cons y b =>
      obtain ⟨ha1, ha2⟩ := List.pairwise_cons.1 ha
      obtain ⟨hb1, hb2⟩ := List.pairwise_cons.1 hb
      have hxy : x = y := by
        rcases List.mem_cons.1 ((h x).1 (by simp)) with e | e
        · exact e
        · rcases List.mem_cons.1 ((h y).2 (by simp)) with e' | e'
          · exact e'.symm
          · have := hb1 x e
            have := ha1 y e'
            omega
      subst hxy
      congr 1
      apply ih ha2 hb2
      intro z
      constructor
      · intro hz
        rcases List.mem_cons.1 ((h z).1 (by simp [hz])) with e | e
        · subst e
          have := ha1 z hz
          omega
        · exact e
      · intro hz
        rcases List.mem_cons.1 ((h z).2 (by simp [hz])) with e | e
        · subst e
          have := hb1 z hz
          omega
        · exact e

/-- A number put into a row at a place. -/
def insAt (l : List Int) (t : Int) (k : Nat) : List Int := l.take k ++ t :: l.drop k
theorem insAt_mem {l : List Int} {t : Int} {k : Nat} {x : Int} : x ∈ insAt l t k ↔ x = t ∨ x ∈ l := by
  unfold insAt
  rw [List.mem_append, List.mem_cons]
  have : x ∈ l ↔ x ∈ l.take k ∨ x ∈ l.drop k := by rw [← List.mem_append, List.take_append_drop]
  rw [this]
  constructor
  · rintro (h | h | h)
    · exact .inr (.inl h)
    · exact .inl h
    · exact .inr (.inr h)
  · rintro (h | h | h)
    · exact .inr (.inl h)
    · exact .inl h
    · exact .inr (.inr h)
theorem insAt_len (l : List Int) (t : Int) (k : Nat) : (insAt l t k).length = l.length + 1 := by
  have : (l.take k).length + (l.drop k).length = l.length := by rw [← List.length_append, List.take_append_drop]
  unfold insAt
  simp only [List.length_append, List.length_cons]
  omega
theorem insAt_end (l : List Int) (t : Int) : insAt l t l.length = l ++ [t] := by
  unfold insAt
  rw [List.take_length, List.drop_length]
theorem insAt_at (l : List Int) (t : Int) (k : Nat) (hk : k ≤ l.length) : (insAt l t k).getD k 0 = t := by
  unfold insAt
  rw [List.getD_eq_getElem?_getD, List.getElem?_append_right (by rw [List.length_take]; omega)]
  simp [Nat.min_eq_left hk]
theorem insAt_before (l : List Int) (t : Int) (k : Nat) (hk : k ≤ l.length) (h0 : 0 < k) : (insAt l t k).getD (k - 1) 0 = l.getD (k - 1) 0 := by
  unfold insAt
  rw [List.getD_eq_getElem?_getD, List.getElem?_append_left (by rw [List.length_take]; omega), List.getElem?_take_of_lt (by omega), List.getD_eq_getElem?_getD]
/-- Two neighbours change places. -/
theorem insAt_swap (l : List Int) (t : Int) (k : Nat) (hk : k ≤ l.length) (h0 : 0 < k) : ((insAt l t k).set k (l.getD (k - 1) 0)).set (k - 1) t = insAt l t (k - 1) := by
  apply List.ext_getElem?
  intro j
  obtain ⟨q, rfl⟩ : ∃ q, k = q + 1 := ⟨k - 1, by omega⟩
  have hq : q < l.length := by omega
  simp only [Nat.add_sub_cancel]
  have hd : l.drop q = l[q] :: l.drop (q + 1) := List.drop_eq_getElem_cons hq
  have ht : l.take (q + 1) = l.take q ++ [l[q]] := List.take_succ_eq_append_getElem hq
  have hg : l.getD q 0 = l[q] := by simp [List.getD_eq_getElem?_getD, hq]
  have hlen : (l.take q).length = q := by rw [List.length_take]; omega
  have e1 : insAt l t (q + 1) = l.take q ++ l[q] :: t :: l.drop (q + 1) := by unfold insAt; rw [ht, List.append_assoc]; rfl
  have e2 : insAt l t q = l.take q ++ t :: l[q] :: l.drop (q + 1) := by unfold insAt; rw [hd]
  rw [e1, e2, hg]
  congr 1
  rw [List.set_append_right _ _ (by omega), hlen, List.set_append_right _ _ (by omega), hlen]
  simp
theorem insAt_sorted {l : List Int} {t : Int} {k : Nat} (hl : l.Pairwise (· < ·)) (hk : k ≤ l.length) (h1 : ∀ x ∈ l.drop k, t < x) (h2 : k = 0 ∨ l.getD (k - 1) 0 < t) : (insAt l t k).Pairwise (· < ·) := by
  have hlk : (l.take k ++ l.drop k).Pairwise (· < ·) := by rw [List.take_append_drop]; exact hl
  obtain ⟨p1, p2, p3⟩ := List.pairwise_append.1 hlk
  have h3 : ∀ x ∈ l.take k, x < t := by
    intro x hx
    rcases h2 with rfl | h2
    · simp at hx
    · obtain ⟨j, hj, rfl⟩ := List.mem_iff_getElem.1 hx
      rw [List.length_take] at hj
      rw [List.getElem_take]
      rw [List.getD_eq_getElem?_getD, List.getElem?_eq_getElem (by omega : k - 1 < l.length)] at h2
      simp only [Option.getD_some] at h2
      by_cases e : j = k - 1
      · subst e; exact h2
      · have := List.pairwise_iff_getElem.1 hl j (k - 1) (by omega) (by omega) (by omega)
        omega
  unfold insAt
  refine List.pairwise_append.2 ⟨p1, List.pairwise_cons.2 ⟨h1, p2⟩, fun x hx y hy => ?_⟩
  rcases List.mem_cons.1 hy with rfl | hy
  · exact h3 x hx
  · exact p3 x hx y hy
theorem drop_more {l : List Int} {t : Int} {k : Nat} (hk : k ≤ l.length) (h0 : 0 < k) (h1 : ∀ x ∈ l.drop k, t < x) (h2 : t < l.getD (k - 1) 0) : ∀ x ∈ l.drop (k - 1), t < x := by
  obtain ⟨q, rfl⟩ : ∃ q, k = q + 1 := ⟨k - 1, by omega⟩
  simp only [Nat.add_sub_cancel] at *
  rw [List.drop_eq_getElem_cons (by omega : q < l.length)]
  rw [List.getD_eq_getElem?_getD, List.getElem?_eq_getElem (by omega : q < l.length)] at h2
  intro x hx
  rcases List.mem_cons.1 hx with rfl | hx
  · exact h2
  · exact h1 x hx

end Go.Proofs.Yteifhbkhjkmhfaa
