/-
  The plain words of a task's number, an operation's word, a line's pick.
-/
import Derived.Test.YteifhbkhjkmhfaaDoorScA
import Derived.Lib.ItoaNum
import Derived.Lib.ItoaMem
import Derived.Lib.AtoiAll
import Derived.Lib.SlicesS
namespace Go.Proofs.YteifhbkhjkmhfaaDoor
open Go
set_option linter.unusedSimpArgs false
set_option linter.unusedVariables false

/-- The decimal of a number below 10,000. -/
def dec4 (n : Nat) : List UInt8 :=
  if n < 10 then [UInt8.ofNat (48 + n)]
  else if n < 100 then [UInt8.ofNat (48 + n / 10), UInt8.ofNat (48 + n % 10)]
  else if n < 1000 then [UInt8.ofNat (48 + n / 10 / 10), UInt8.ofNat (48 + n / 10 % 10), UInt8.ofNat (48 + n % 10)]
  else [UInt8.ofNat (48 + n / 10 / 10 / 10), UInt8.ofNat (48 + n / 10 / 10 % 10), UInt8.ofNat (48 + n / 10 % 10), UInt8.ofNat (48 + n % 10)]
theorem decDigits_more {n : Nat} (h : ¬ n < 10) : Lib.decDigits n = Lib.decDigits (n / 10) ++ [UInt8.ofNat (48 + n % 10)] := by
  rw [Lib.decDigits, dif_neg h]
theorem dec4_eq {n : Nat} (h : n < 10000) : Lib.decDigits n = dec4 n := by
  unfold dec4
  by_cases h1 : n < 10
  · rw [if_pos h1]; exact Lib.decDigits_one h1
  · rw [if_neg h1]
    by_cases h2 : n < 100
    · rw [if_pos h2]; exact Lib.decDigits_two h1 h2
    · rw [if_neg h2, decDigits_more h1]
      by_cases h3 : n < 1000
      · rw [if_pos h3, Lib.decDigits_two (by omega) (by omega)]
        rfl
      · rw [if_neg h3, decDigits_more (by omega), Lib.decDigits_two (by omega) (by omega)]
        rfl

/-- What digits spell. -/
def dval (l : List UInt8) : Nat := l.foldl (fun a c => a * 10 + (c.toNat - 48)) 0
def digsB (l : List UInt8) : Bool := l.all fun c => decide (48 ≤ c.toNat) && decide (c.toNat ≤ 57)
theorem dec4_all : ∀ n, n < 1024 → dval (dec4 n) = n ∧ digsB (dec4 n) = true ∧ Lib.atoiAll (dec4 n) = .ok (n : Int) ∧ (dec4 n).length ≤ 4 ∧ dec4 n ≠ [] := by decide +kernel
theorem dec4_three : ∀ n, n < 1000 → (dec4 n).length ≤ 3 := by decide +kernel

/-- The task's number that a text tells. -/
def taskL (l : List UInt8) : Option Nat := if dval l < 1000 ∧ dec4 (dval l) = l then some (dval l) else none
theorem taskL_some {l : List UInt8} {n : Nat} (h : taskL l = some n) : n < 1000 ∧ dec4 n = l := by
  unfold taskL at h
  split at h
  · rename_i hc
    injection h with h
    subst h
    exact hc
  · cases h
theorem taskL_of {l : List UInt8} {n : Nat} (h1 : n < 1000) (h2 : dec4 n = l) : taskL l = some n := by
  have h3 := (dec4_all n (by omega)).1
  rw [h2] at h3
  unfold taskL
  rw [h3, if_pos ⟨h1, h2⟩]
theorem taskL_none {l : List UInt8} (h : ∀ n, n < 1000 → dec4 n ≠ l) : taskL l = none := by
  cases e : taskL l with
  | none => rfl
  | some n =>
    obtain ⟨h1, h2⟩ := taskL_some e
    exact absurd h2 (h n h1)

/-- The operations' words. -/
def opsL : List (List UInt8) := [[], [114, 108, 111, 99, 107], [114, 117, 110, 108, 111, 99, 107], [108, 111, 99, 107], [117, 110, 108, 111, 99, 107], [116, 114, 121, 114, 108, 111, 99, 107], [116, 114, 121, 108, 111, 99, 107], [117, 112, 103, 114, 97, 100, 101], [100, 111, 119, 110, 103, 114, 97, 100, 101]]
/-- The number of an operation's word: 0 if it's none. -/
def opNum (l : List UInt8) : Nat := (opsL.idxOf l) % 9
theorem opNum_lt (l : List UInt8) : opNum l < 9 := Nat.mod_lt _ (by decide)

/-- A pick. -/
structure Pk where
  task : Int
  op : Int
deriving DecidableEq
def Pk.zero : Pk := ⟨0, 0⟩

/-- What a line's words tell: a pick, or an error's number. -/
def lineL : List (List UInt8) → Pk × Int
  | [] => (Pk.zero, 4)
  | w :: ws => match taskL w with
    | none => (Pk.zero, 4)
    | some n => match ws with
      | [] => (⟨n, 0⟩, 0)
      | v :: vs => if opNum v = 0 then (Pk.zero, 5) else match vs with
        | [] => (⟨n, opNum v⟩, 0)
        | _ :: _ => (Pk.zero, 4)

end Go.Proofs.YteifhbkhjkmhfaaDoor
