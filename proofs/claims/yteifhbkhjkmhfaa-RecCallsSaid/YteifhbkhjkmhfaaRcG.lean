/-
  The plain law on histories' calls: call by call, each scanned to the end, they are what note by note they become.
-/
import Derived.Test.YteifhbkhjkmhfaaRcF
namespace Go.Proofs.Yteifhbkhjkmhfaa
open Go.RowKit
set_option linter.unusedSimpArgs false
set_option linter.unusedVariables false

/-- The call of place i behind the d notes that follow it. -/
def scanD (nt : Nat → Nt) (i : Nat) : Nat → Cal
  | 0 => ⟨(nt i).task, (nt i).op, i, -1, 0, []⟩
  | d + 1 => stepC (i + 1 + d) (nt (i + 1 + d)) (scanD nt i d)
/-- The calls of the first m places, scanned to place k. -/
def callsTo (nt : Nat → Nt) (k : Nat) : Nat → List Cal
  | 0 => []
  | m + 1 => callsTo nt k m ++ (if (nt m).what = 1 then [scanD nt m (k - (m + 1))] else [])

theorem stepC_over (k : Nat) (n : Nt) (c : Cal) (h : ¬ c.to < 0) : stepC k n c = c := if_neg fun ⟨_, _, h3⟩ => h h3
theorem stepC_call (k : Nat) (n : Nt) (c : Cal) (h : n.what = 1) : stepC k n c = c := if_neg fun ⟨_, h2, _⟩ => h2 h
theorem stepC_far (k : Nat) (n : Nt) (c : Cal) (h : c.task ≠ n.task) : stepC k n c = c := if_neg fun ⟨h1, _, _⟩ => h h1

theorem scanD_over (nt : Nat → Nt) (i d : Nat) (h : ¬ (scanD nt i d).to < 0) (e : Nat) : scanD nt i (d + e) = scanD nt i d := by
  induction e with
  | zero => rfl
  | succ e ih =>
    show stepC _ _ (scanD nt i (d + e)) = _
    rw [ih, stepC_over _ _ _ h]

theorem scanD_task (nt : Nat → Nt) (i d : Nat) : (scanD nt i d).task = (nt i).task ∧ (scanD nt i d).op = (nt i).op ∧ (scanD nt i d).fr = i := by
  induction d with
  | zero => exact ⟨rfl, rfl, rfl⟩
  | succ d ih =>
    show (stepC _ _ (scanD nt i d)).task = _ ∧ (stepC _ _ (scanD nt i d)).op = _ ∧ (stepC _ _ (scanD nt i d)).fr = _
    unfold stepC
    split
    · split <;> exact ih
    · exact ih

theorem callsTo_next (nt : Nat → Nt) (k m : Nat) (h : m ≤ k) : callsTo nt (k + 1) m = (callsTo nt k m).map (stepC k (nt k)) := by
  induction m with
  | zero => rfl
  | succ m ih =>
    unfold callsTo
    rw [ih (by omega), List.map_append]
    congr 1
    split
    · have e : k + 1 - (m + 1) = (k - (m + 1)) + 1 := by omega
      rw [e]
      show [stepC (m + 1 + (k - (m + 1))) (nt (m + 1 + (k - (m + 1)))) _] = _
      have e2 : m + 1 + (k - (m + 1)) = k := by omega
      rw [e2]
      rfl
    · rfl

theorem callsN_to (nt : Nat → Nt) (k : Nat) : callsN nt k = callsTo nt k k := by
  induction k with
  | zero => rfl
  | succ k ih =>
    show stepL k (nt k) (callsN nt k) = callsTo nt (k + 1) k ++ _
    rw [ih, callsTo_next nt k k (Nat.le_refl _)]
    unfold stepL
    by_cases hw : (nt k).what = 1
    · rw [if_pos hw, if_pos hw]
      have e : (callsTo nt k k).map (stepC k (nt k)) = callsTo nt k k := by
        conv => rhs; rw [← List.map_id (callsTo nt k k)]
        apply List.map_congr_left
        intro c _
        exact stepC_call _ _ _ hw
      rw [e]
      have e2 : k + 1 - (k + 1) = 0 := by omega
      rw [e2]
      rfl
    · rw [if_neg hw, if_neg hw, List.append_nil]

theorem callsTo_len (nt : Nat → Nt) (k m : Nat) : (callsTo nt k m).length ≤ m := by
  induction m with
  | zero => exact Nat.le_refl _
  | succ m ih => unfold callsTo; rw [List.length_append]; split <;> simp <;> omega
theorem scanD_pts (nt : Nat → Nt) (i d : Nat) : (scanD nt i d).pts.length ≤ d := by
  induction d with
  | zero => exact Nat.le_refl _
  | succ d ih =>
    have := stepC_pts (i + 1 + d) (nt (i + 1 + d)) (scanD nt i d)
    show (stepC _ _ (scanD nt i d)).pts.length ≤ _
    omega

end Go.Proofs.Yteifhbkhjkmhfaa
