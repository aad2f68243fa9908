/-
  The walk of a script's picks, by the document; whether two rows of picks are the same.
-/
import Derived.Test.YteifhbkhjkmhfaaDoorScH
import Derived.Test.YteifhbkhjkmhfaaDoorScJ
import Derived.Deep.QuietTactic
import Derived.BigQuiet
import Derived.RegionTactic
import Derived.BigRegion
import Derived.Laws.StructEq
namespace Go.Proofs.YteifhbkhjkmhfaaDoor
open Go.RowKit Go.Shelf Go.Sort
set_option linter.unusedSimpArgs false
set_option linter.unusedVariables false

theorem eq47 (a b c d : Int) (w : World) : (Op.equalIn 10000 47 (.agg #[.int .i64 a, .int .i64 b]) (.agg #[.int .i64 c, .int .i64 d])).run Tryd.prog w = .ok (a == c && b == d) w := by
  have u3 := Tryd.underlying3
  have a3 := Tryd.isAgg3
  have z3 := Tryd.sizeOf3
  have hS : Tryd.prog.underlying 47 = some (.struct (Tryd.prog.fieldsOf 47)) := by kernel_rfl
  have hp : Tryd.prog.stoodInHeld 47 = false := by kernel_rfl
  rw [show (10000 : Nat) = 9999 + 1 from rfl, run_equalIn_agg w 9999 47 _ _ hS hp]
  simp only [Program.fieldsOf, Tryd.underlying47]
  go_simp
  by_cases h1 : a = c <;> by_cases h2 : b = d <;> simp [h1, h2]
theorem neq47 (a b c d : Int) (w : World) : (binOp .neq 47 (.agg #[.int .i64 a, .int .i64 b]) (.agg #[.int .i64 c, .int .i64 d])).run Tryd.prog w = .ok (.bool (!(a == c && b == d))) w := by
  rw [run_neq_struct, eq47]
  rfl

theorem picks_ne {a b : List Pk} {k : Nat} (h : a.getD k Pk.zero ≠ b.getD k Pk.zero) : a ≠ b := by
  rintro rfl
  exact h rfl
theorem picks_eq {a b : List Pk} (hab : a.length = b.length) (h : ∀ j, j < a.length → a.getD j Pk.zero = b.getD j Pk.zero) : a = b := by
  apply List.ext_getElem hab
  intro i h1 h2
  have := h i h1
  simpa [List.getD_eq_getElem?_getD, h1, h2] using this

set_option maxRecDepth 100000 in
set_option maxHeartbeats 2000000 in
theorem same_any (va vb : Value) (la lb : List Pk) (w : World) (ha : PicksAt w va la) (hb : PicksAt w vb lb) (hla : la.length ≤ 1000000) (hlb : lb.length ≤ 1000000) :
    Calls Tryd.prog 13 #[va, vb] w fun e w' => e = .returned (.bool (decide (la = lb))) ∧ ∃ n, w' = w.drewN n := by
  obtain ⟨oa, ca, rfl, ha⟩ := ha
  obtain ⟨ob, cb, rfl, hb⟩ := hb
  have HA := Lib.hid ha; clear ha
  have HB := Lib.hid hb; clear hb
  by_cases hlen : la.length = lb.length
  · generalize hn : la.length = n at *
    generalize hm : lb.length = n' at *
    subst hlen
    have HNA := Lib.hid hn
    have HNB := Lib.hid hm
    clear hn hm
    go_enter Tryd.func13, Tryd.ntmps13
    go_wp2
    go_loopw [5] (fun i wr => ∃ k : Nat, k ≤ n ∧ i = .int .i64 k ∧ Hid (∀ j, j < k → la.getD j Pk.zero = lb.getD j Pk.zero) ∧ ∃ m, wr = w.drewN m) (fun i _ => n - (Go.RowKit.intOf i).toNat)
    case atStart => exact ⟨0, Nat.zero_le _, rfl, fun j h => by omega, 0, rfl⟩
    case round =>
      obtain ⟨k, hk, rfl, hno, m, rfl⟩ := hrel
      by_cases hlt : k < n
      · obtain ⟨g, rfl, c1, c2⟩ := HA.out k hlt
        obtain ⟨g', rfl, d1, d2⟩ := HB.out k (by omega)
        generalize hx : la.getD k Pk.zero = x at c1 c2
        generalize hy : lb.getD k Pk.zero = y at d1 d2
        have HX := Lib.hid hx; clear hx
        have HY := Lib.hid hy; clear hy
        obtain ⟨x1, x2⟩ := x
        obtain ⟨y1, y2⟩ := y
        have heq := neq47 x1 x2 y1 y2
        have hgd : Tryd.prog.eqGuardType Tryd.prog.depth 47 = false := by kernel_rfl
        by_cases hxy : x1 = y1 ∧ x2 = y2
        · obtain ⟨rfl, rfl⟩ := hxy
          have hb : (!(x1 == x1 && x2 == x2)) = false := by simp
          rw [hb] at heq
          clear hb
          go_wp2
          go_quiet (fail)
          go_wp2
          go_roundw
          case rel => exact ⟨k + 1, by omega, by go_num, fun j hj => by (by_cases e : j = k); (· subst e; rw [HX.out, HY.out]); (· exact hno.out j (by omega)), _, rfl⟩
          case measure => simp [Go.RowKit.intOf]; omega
        · have hb : (!(x1 == y1 && x2 == y2)) = true := by simp; omega
          rw [hb] at heq
          have HXY := Lib.hid hxy
          clear hb hxy
          go_wp2
          go_quiet (fail)
          go_wp2
          go_ret
          exact ⟨by rw [decide_eq_false (picks_ne (k := k) (by rw [HX.out, HY.out]; intro h; injection h with h1 h2; exact HXY.out ⟨h1, h2⟩))]; rfl, _, World.drewN_drewN _ _ _⟩
      · go_wp2
        go_ret
        exact ⟨by rw [decide_eq_true (picks_eq (HNA.out.trans HNB.out.symm) fun j hj => hno.out j (by rw [HNA.out] at hj; omega))]; rfl, m, rfl⟩
  · have hlen' : ¬ ((la.length : Int) = lb.length) := by omega
    go_enter Tryd.func13, Tryd.ntmps13
    go_wp2
    go_ret
    exact ⟨by rw [decide_eq_false (fun h => hlen (by rw [h]))]; rfl, 0, rfl⟩

/-! ### Lines: both see the same -/

theorem pcs_last {l : List UInt8} (x : UInt8) (hx : x ≠ 10) : ∃ L p, pcs 10 (l ++ [x]) = L ++ [p ++ [x]] := by
  obtain ⟨L, p, h⟩ : ∃ L p, pcs 10 l = L ++ [p] := ⟨(pcs 10 l).dropLast, (pcs 10 l).getLast (pcs_ne 10 l), (List.dropLast_concat_getLast (pcs_ne 10 l)).symm⟩
  exact ⟨L, p, pcs_snoc x hx h⟩
theorem seen_lines (l : List UInt8) : parseFrom 0 [] (seen l) = parseFrom 0 [] (linesL l) := by
  unfold seen
  rcases List.eq_nil_or_concat l with rfl | ⟨l', x, rfl⟩
  · rfl
  · rw [List.concat_eq_append]
    by_cases hx : x = 10
    · subst hx
      have ht : Lib.trimSuffix (l' ++ [10]) [10] = l' := by
        unfold Lib.trimSuffix Lib.hasSuffix
        rw [if_pos (by simp)]
        simp
      rw [ht, linesL_of (pcs_snoc_at 10 l'), if_pos rfl]
    · have ht : Lib.trimSuffix (l' ++ [x]) [10] = l' ++ [x] := by
        unfold Lib.trimSuffix Lib.hasSuffix
        rw [if_neg]
        intro h
        obtain ⟨t, e⟩ := List.isSuffixOf_iff_suffix.1 h
        have := congrArg List.getLast? e
        simp at this
        exact hx this.symm
      obtain ⟨L, p, h⟩ := pcs_last (l := l') x hx
      rw [ht, linesL_of h, if_neg (by simp), h]

end Go.Proofs.YteifhbkhjkmhfaaDoor
