/-
  The plain words of the proof on scripts: the pieces of a text at a byte, a line's words, a text's lines.
-/
import Derived.Lib.Split
import Derived.Lib.SplitLaws
import Derived.Lib.Strings
import Derived.Lib.Bytealg
import Derived.Lib.IndexBytes
import Derived.Lib.CutLaws
import Derived.Lib.CountLaws
namespace Go.Proofs.YteifhbkhjkmhfaaDoor
open Go
set_option linter.unusedSimpArgs false
set_option linter.unusedVariables false

/-- A list of bytes as a string. -/
abbrev bs (l : List UInt8) : ByteArray := ⟨l.toArray⟩
theorem bs_toList (b : ByteArray) : bs b.data.toList = b := rfl
theorem toList_bs (l : List UInt8) : (bs l).data.toList = l := rfl
theorem bs_inj {a b : List UInt8} (h : bs a = bs b) : a = b := by
  have := congrArg (fun b : ByteArray => b.data.toList) h
  simpa using this
theorem bs_size (l : List UInt8) : (bs l).size = l.length := rfl

/-- The pieces of a text between the places of a byte: at least one. -/
def pcs (c : UInt8) : List UInt8 → List (List UInt8)
  | [] => [[]]
  | x :: l => if x = c then [] :: pcs c l else match pcs c l with
    | [] => [[x]]
    | p :: ps => (x :: p) :: ps

theorem pcs_cons_at (c : UInt8) (l : List UInt8) : pcs c (c :: l) = [] :: pcs c l := by rw [pcs]; simp
theorem pcs_cons {c x : UInt8} {l p : List UInt8} {ps : List (List UInt8)} (hx : x ≠ c) (h : pcs c l = p :: ps) : pcs c (x :: l) = (x :: p) :: ps := by rw [pcs, if_neg hx, h]
theorem pcs_ne (c : UInt8) (l : List UInt8) : pcs c l ≠ [] := by
  cases l with
  | nil => simp [pcs]
  | cons x l =>
    unfold pcs
    split
    · simp
    · split <;> simp
theorem pcs_is (c : UInt8) (l : List UInt8) : ∃ p ps, pcs c l = p :: ps := by
  cases e : pcs c l with
  | nil => exact absurd e (pcs_ne c l)
  | cons p ps => exact ⟨p, ps, rfl⟩

/-- No place of the byte: one piece. -/
theorem pcs_none {c : UInt8} {l : List UInt8} (h : c ∉ l) : pcs c l = [l] := by
  induction l with
  | nil => rfl
  | cons x l ih =>
    simp only [List.mem_cons, not_or] at h
    exact pcs_cons (fun e => h.1 e.symm) (ih h.2)
/-- The first piece ends at the first place of the byte. -/
theorem pcs_first {c : UInt8} (p r : List UInt8) (h : c ∉ p) : pcs c (p ++ c :: r) = p :: pcs c r := by
  induction p with
  | nil => exact pcs_cons_at c r
  | cons x p ih =>
    simp only [List.mem_cons, not_or] at h
    exact pcs_cons (fun e => h.1 e.symm) (ih h.2)

theorem indexByte_none {c : UInt8} {l : List UInt8} (h : Lib.indexByte l c = -1) : c ∉ l := by
  induction l with
  | nil => simp
  | cons x l ih =>
    unfold Lib.indexByte at h
    have hge := Lib.indexByte_ge l c
    split at h
    · omega
    · rename_i hx
      split at h
      · rename_i h1
        simp only [List.mem_cons, not_or]
        exact ⟨fun e => hx (by simp [e]), ih (by simpa using h1)⟩
      · omega
theorem indexByte_some {c : UInt8} {l : List UInt8} {i : Nat} (h : Lib.indexByte l c = i) : i < l.length ∧ l = l.take i ++ c :: l.drop (i + 1) ∧ c ∉ l.take i := by
  induction l generalizing i with
  | nil => unfold Lib.indexByte at h; omega
  | cons x l ih =>
    unfold Lib.indexByte at h
    have hge := Lib.indexByte_ge l c
    split at h
    · rename_i hx
      have : i = 0 := by omega
      subst this
      have hx' : x = c := by simpa using hx
      subst hx'
      simp
    · rename_i hx
      split at h
      · omega
      · rename_i h1
        have h1' : Lib.indexByte l c ≠ -1 := by simpa using h1
        obtain ⟨j, rfl⟩ : ∃ j, i = j + 1 := ⟨i - 1, by omega⟩
        obtain ⟨h2, h3, h4⟩ := ih (i := j) (by omega)
        refine ⟨by simp; omega, ?_, ?_⟩
        · show x :: l = x :: (l.take j ++ c :: l.drop (j + 1))
          rw [← h3]
        · show c ∉ x :: l.take j
          simp only [List.mem_cons, not_or]
          exact ⟨fun e => hx (by simp [e]), h4⟩

theorem pcs_index_none {c : UInt8} {l : List UInt8} (h : Lib.indexByte l c = -1) : pcs c l = [l] := pcs_none (indexByte_none h)
theorem pcs_index {c : UInt8} {l : List UInt8} {i : Nat} (h : Lib.indexByte l c = i) : pcs c l = l.take i :: pcs c (l.drop (i + 1)) := by
  obtain ⟨_, h2, h3⟩ := indexByte_some h
  conv => lhs; rw [h2]
  exact pcs_first _ _ h3

/-- One byte more. -/
theorem pcs_snoc_at (c : UInt8) (l : List UInt8) : pcs c (l ++ [c]) = pcs c l ++ [[]] := by
  induction l with
  | nil => simp [pcs]
  | cons x l ih =>
    by_cases hx : x = c
    · subst hx
      rw [List.cons_append, pcs_cons_at, pcs_cons_at, ih]; rfl
    · obtain ⟨p, ps, h⟩ := pcs_is c l
      rw [List.cons_append, pcs_cons hx h, pcs_cons hx (by rw [ih, h]; rfl)]; rfl
theorem pcs_snoc {c : UInt8} {l : List UInt8} {ps : List (List UInt8)} {p : List UInt8} (x : UInt8) (hx : x ≠ c) (h : pcs c l = ps ++ [p]) : pcs c (l ++ [x]) = ps ++ [p ++ [x]] := by
  induction l generalizing ps p with
  | nil =>
    have h' : [[]] = ps ++ [p] := h
    cases ps with
    | nil => simp at h'; subst h'; simp [pcs, hx]
    | cons q ps => simp at h'
  | cons y l ih =>
    rw [List.cons_append]
    by_cases hy : y = c
    · subst hy
      rw [pcs_cons_at] at h ⊢
      cases ps with
      | nil =>
        simp only [List.nil_append, List.cons.injEq] at h
        exact absurd h.2 (pcs_ne y l)
      | cons q ps =>
        simp only [List.cons_append, List.cons.injEq] at h
        rw [ih h.2]
        simp [h.1]
    · obtain ⟨q, qs, hq⟩ := pcs_is c l
      rw [pcs_cons hy hq] at h
      cases ps with
      | nil =>
        simp only [List.nil_append, List.cons.injEq] at h
        obtain ⟨h1, h2⟩ := h
        subst h2
        have := ih (ps := []) (p := q) (by rw [hq]; rfl)
        rw [pcs_cons hy (by rw [this]; rfl), ← h1]
        rfl
      | cons z ps =>
        simp only [List.cons_append, List.cons.injEq] at h
        obtain ⟨h1, h2⟩ := h
        have := ih (ps := q :: ps) (p := p) (by rw [hq, h2]; rfl)
        rw [pcs_cons hy (by rw [this]; rfl), h1]
        rfl

theorem pcs_len (c : UInt8) (l : List UInt8) : (pcs c l).length ≤ l.length + 1 := by
  induction l with
  | nil => simp [pcs]
  | cons x l ih =>
    unfold pcs
    split
    · simp; omega
    · split
      · simp
      · rename_i h; rw [h] at ih; simp at ih ⊢; omega
/-- A piece is not longer than the text. -/
theorem pcs_mem_len {c : UInt8} {l p : List UInt8} (h : p ∈ pcs c l) : p.length ≤ l.length := by
  induction l generalizing p with
  | nil => simp [pcs] at h; simp [h]
  | cons x l ih =>
    unfold pcs at h
    split at h
    · rcases List.mem_cons.1 h with rfl | h
      · simp
      · have := ih h; simp; omega
    · split at h
      · simp at h; subst h; simp
      · rename_i q qs hq
        rcases List.mem_cons.1 h with rfl | h
        · have := ih (p := q) (by rw [hq]; simp); simp; omega
        · have := ih (p := p) (by rw [hq]; simp [h]); simp; omega

/-- A line's words: the pieces between blanks that aren't empty. -/
def wordsL (l : List UInt8) : List (List UInt8) := (pcs 32 l).filter fun p => !p.isEmpty
theorem wordsL_mem {l p : List UInt8} (h : p ∈ wordsL l) : p ≠ [] ∧ p.length ≤ l.length := by
  obtain ⟨h1, h2⟩ := List.mem_filter.1 h
  exact ⟨by simpa using h2, pcs_mem_len h1⟩

/-- A text's lines: the pieces between newlines, but for an empty one at the end. -/
def linesL (l : List UInt8) : List (List UInt8) := if (pcs 10 l).getLast (pcs_ne 10 l) = [] then (pcs 10 l).dropLast else pcs 10 l

theorem ba_ext {a b : ByteArray} (h : a.data.toList = b.data.toList) : a = b := by
  rw [← bs_toList a, ← bs_toList b, h]
theorem index_one' (s : ByteArray) (c : UInt8) : Lib.indexB s ⟨#[c]⟩ = Lib.indexByte s.data.toList c := Lib.index_one s.data.toList c
/-- What the shelf's split at one byte makes. -/
theorem split_pcs (c : UInt8) (k : Nat) (s : ByteArray) (h : Lib.countB s ⟨#[c]⟩ = k) : Lib.splitB ⟨#[c]⟩ 0 k s = (pcs c s.data.toList).map bs := by
  induction k generalizing s with
  | zero =>
    rcases Lib.indexB_cases s ⟨#[c]⟩ with hm | ⟨i, hi, hle⟩
    · rw [Lib.splitB_zero, pcs_index_none (by rw [← index_one']; exact hm)]
      rfl
    · have := Lib.countB_hit s ⟨#[c]⟩ i (Nat.le_refl _) hi
      omega
  | succ k ih =>
    rcases Lib.indexB_cases s ⟨#[c]⟩ with hm | ⟨i, hi, hle⟩
    · have := Lib.countB_miss s ⟨#[c]⟩ hm
      omega
    · have hc := Lib.countB_hit s ⟨#[c]⟩ i (Nat.le_refl _) hi
      have h1 : (ByteArray.mk #[c]).size = 1 := rfl
      rw [h1] at hc
      have hp := pcs_index (c := c) (l := s.data.toList) (i := i) (by rw [← index_one']; exact hi)
      rw [Lib.splitB_hit _ _ _ _ _ hi, h1, ih _ (by omega), hp, List.map_cons]
      congr 1
      · apply ba_ext
        rw [Nat.add_zero, Lib.extract_from_zero]
      · rw [Lib.extract_to_end]
theorem count_pcs (c : UInt8) (s : ByteArray) : Lib.countB s ⟨#[c]⟩ + 1 = (pcs c s.data.toList).length := by
  have h := Lib.splitB_all ⟨#[c]⟩ (Nat.le_refl _) 0 _ s rfl
  rw [split_pcs c _ s rfl, List.length_map] at h
  exact h.symm

end Go.Proofs.YteifhbkhjkmhfaaDoor
