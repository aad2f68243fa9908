/-
  The words of the proof on histories' calls: rows of numbers in memory; the walk of whether two rows are the same.
-/
import Derived.Test.YteifhbkhjkmhfaaRuA
import Derived.RegionTactic
import Derived.BigRegion
namespace Go.Proofs.Yteifhbkhjkmhfaa
open Go.RowKit
set_option linter.unusedSimpArgs false
set_option linter.unusedVariables false

/-- A slice of ints that reads as l. -/
def IntsAt (w : World) (v : Value) (l : List Int) : Prop :=
  (v = .slice none 0 0 ∧ l = []) ∨ ∃ g cap, v = .slice (some ⟨g, 0, none⟩) l.length cap ∧ ∀ j, j < l.length → w.cell? ⟨g, j, none⟩ = some (.int .i64 (l.getD j 0))

theorem IntsAt.drewN {w : World} {v : Value} {l : List Int} (h : IntsAt w v l) (n : Nat) : IntsAt (w.drewN n) v l := h

theorem list_ne_at {a b : List Int} {k : Nat} (hk : k < a.length) (hab : a.length = b.length) (h : a.getD k 0 ≠ b.getD k 0) : a ≠ b := by
  rintro rfl
  exact h rfl
theorem list_eq_all {a b : List Int} (hab : a.length = b.length) (h : ∀ j, j < a.length → a.getD j 0 = b.getD j 0) : a = b := by
  apply List.ext_getElem hab
  intro i h1 h2
  have := h i h1
  simpa [List.getD_eq_getElem?_getD, h1, h2] using this

set_option maxHeartbeats 1000000 in
theorem ints_any (va vb : Value) (la lb : List Int) (w : World) (ha : IntsAt w va la) (hb : IntsAt w vb lb) (hla : la.length ≤ 1000) (hlb : lb.length ≤ 1000) :
    Calls Try.prog 13 #[va, vb] w fun e w' => e = .returned (.bool (decide (la = lb))) ∧ ∃ n, w' = w.drewN n := by
  have hva : ∃ oa ca, va = .slice oa la.length ca ∧ ∀ j, j < la.length → ∃ g, oa = some ⟨g, 0, none⟩ ∧ w.cell? ⟨g, j, none⟩ = some (.int .i64 (la.getD j 0)) := by
    rcases ha with ⟨rfl, rfl⟩ | ⟨g, cap, rfl, h⟩
    · exact ⟨none, 0, rfl, fun j hj => by simp at hj⟩
    · exact ⟨_, cap, rfl, fun j hj => ⟨g, rfl, h j hj⟩⟩
  have hvb : ∃ oa ca, vb = .slice oa lb.length ca ∧ ∀ j, j < lb.length → ∃ g, oa = some ⟨g, 0, none⟩ ∧ w.cell? ⟨g, j, none⟩ = some (.int .i64 (lb.getD j 0)) := by
    rcases hb with ⟨rfl, rfl⟩ | ⟨g, cap, rfl, h⟩
    · exact ⟨none, 0, rfl, fun j hj => by simp at hj⟩
    · exact ⟨_, cap, rfl, fun j hj => ⟨g, rfl, h j hj⟩⟩
  clear ha hb
  obtain ⟨oa, ca, rfl, ha⟩ := hva
  obtain ⟨ob, cb, rfl, hb⟩ := hvb
  have HA := Lib.hid ha; clear ha
  have HB := Lib.hid hb; clear hb
  by_cases hlen : la.length = lb.length
  · generalize hn : la.length = n at *
    go_enter Try.func13, Try.ntmps13
    go_wp2
    go_loopw [5] (fun i wr => ∃ k : Nat, k ≤ n ∧ i = .int .i64 k ∧ Hid (∀ j, j < k → la.getD j 0 = lb.getD j 0) ∧ ∃ m, wr = w.drewN m) (fun i _ => n - (intOf i).toNat)
    case atStart => exact ⟨0, Nat.zero_le _, rfl, fun j h => by omega, 0, rfl⟩
    case round =>
      obtain ⟨k, hk, rfl, hno, m, rfl⟩ := hrel
      by_cases hlt : k < n
      · obtain ⟨g, rfl, c1⟩ := HA.out k hlt
        obtain ⟨g', rfl, c2⟩ := HB.out k (by omega)
        generalize hx : la.getD k 0 = x at c1
        generalize hy : lb.getD k 0 = y at c2
        have HX := Lib.hid hx; clear hx
        have HY := Lib.hid hy; clear hy
        by_cases hxy : x = y
        · subst hxy
          go_wp2
          go_quiet (fail)
          go_wp2
          go_roundw
          case rel => exact ⟨k + 1, by omega, by go_num, fun j hj => by (by_cases e : j = k); (· subst e; rw [HX.out, HY.out]); (· exact hno.out j (by omega)), _, rfl⟩
          case measure => simp [intOf]; omega
        · go_wp2
          go_quiet (fail)
          go_wp2
          go_ret
          exact ⟨by rw [decide_eq_false (list_ne_at (k := k) (by omega) (by omega) (by rw [HX.out, HY.out]; exact hxy))]; rfl, _, World.drewN_drewN _ _ _⟩
      · go_wp2
        go_ret
        exact ⟨by rw [decide_eq_true (list_eq_all (by omega) fun j hj => hno.out j (by omega))]; rfl, m, rfl⟩
  · have hlen' : ¬ ((la.length : Int) = lb.length) := by omega
    go_enter Try.func13, Try.ntmps13
    go_wp2
    go_ret
    exact ⟨by rw [decide_eq_false (fun h => hlen (by rw [h]))]; rfl, 0, rfl⟩

end Go.Proofs.Yteifhbkhjkmhfaa
