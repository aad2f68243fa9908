/-
  The walks of whether a task is within one of some operations; of the first task of which something is so; of what a request, a presence write.
-/
import Derived.Test.YteifhbkhjkmhfaaRuD
namespace Go.Proofs.Yteifhbkhjkmhfaa
open Go.RowKit
set_option linter.unusedSimpArgs false

/-- slices.Index at ints. -/
theorem index_any (g : Nat) (zs : List Int) (x : Int) (w : World) (hz : ∀ j, j < zs.length → w.cell? ⟨g, j, none⟩ = some (.int .i64 (zs[j]?.getD 0))) (hl : zs.length ≤ 64) :
    Calls Try.prog 64 #[.slice (some ⟨g, 0, none⟩) zs.length zs.length, .int .i64 x] w fun e w' => (∃ r : Int, e = .returned (.int .i64 r) ∧ decide (0 ≤ r) = zs.any (fun z => x == z)) ∧ w = w' := by
  have HZ := Lib.hid hz; clear hz
  go_enter Try.func64, Try.ntmps64
  go_wp2
  go_loop [8] (fun i => ∃ k : Nat, k ≤ zs.length ∧ i = .int .i64 k ∧ Hid (∀ j, j < k → (x == zs[j]?.getD 0) = false)) (fun i => zs.length - (intOf i).toNat)
  case atStart => exact ⟨0, Nat.zero_le _, rfl, fun j h => by omega⟩
  case round =>
    obtain ⟨k, hk, rfl, hno⟩ := hrel
    by_cases hlt : k < zs.length
    · have hc := HZ.out k hlt
      obtain ⟨v, hv⟩ : ∃ v, zs[k]?.getD 0 = v := ⟨_, rfl⟩
      rw [hv] at hc
      have HV := Lib.hid hv; clear hv
      cases hx : (x == v)
      · have HX := Lib.hid hx
        go_wp2
        go_round
        case rel => exact ⟨k + 1, by omega, by go_num, fun j hj => by (by_cases e : j = k); (· subst e; rw [HV.out]; exact HX.out); (· exact hno.out j (by omega))⟩
        case measure => simp [intOf]; omega
      · have HX := Lib.hid hx
        go_wp2
        go_ret
        refine ⟨⟨_, rfl, ?_⟩, rfl⟩
        rw [show zs.any (fun z => x == z) = true from by
          rw [List.any_eq_true]
          refine ⟨zs[k], List.getElem_mem hlt, ?_⟩
          have := HV.out
          rw [List.getElem?_eq_getElem hlt] at this
          simp only [Option.getD_some] at this
          rw [this]
          exact HX.out]
        simp
    · go_wp2
      go_ret
      refine ⟨⟨_, rfl, ?_⟩, rfl⟩
      rw [show zs.any (fun z => x == z) = false from by
        rw [List.any_eq_false]
        intro z hz
        obtain ⟨j, hj, rfl⟩ := List.getElem_of_mem hz
        have := hno.out j (by omega)
        rw [List.getElem?_eq_getElem hj] at this
        simpa using this]
      rfl

set_option maxHeartbeats 1000000 in
theorem contains_any (g : Nat) (zs : List Int) (x : Int) (w : World) (hz : ∀ j, j < zs.length → w.cell? ⟨g, j, none⟩ = some (.int .i64 (zs[j]?.getD 0))) (hl : zs.length ≤ 64) :
    Calls Try.prog 54 #[.slice (some ⟨g, 0, none⟩) zs.length zs.length, .int .i64 x] w fun e w' => e = .returned (.bool (zs.any (fun z => x == z))) ∧ w = w' := by
  have HI := Lib.hid (index_any g zs x w hz hl); clear hz
  go_enter Try.func54, Try.ntmps54
  go_wp2_with fail
  refine HI.out.mono ?_
  rintro e w' ⟨⟨r, rfl, hr⟩, rfl⟩
  have HR := Lib.hid hr; clear hr
  go_wp2
  go_ret
  exact ⟨by rw [← HR.out]; simp, rfl⟩

set_option maxHeartbeats 1000000 in
theorem in_any (c o g : Nat) (t : Tsk) (zs : List Int) (w : World) (h : TaskAt w c o t) (hz : ∀ j, j < zs.length → w.cell? ⟨g, j, none⟩ = some (.int .i64 (zs[j]?.getD 0))) (hl : zs.length ≤ 64) :
    Calls Try.prog 32 #[.pointer (some ⟨c, o, none⟩), .slice (some ⟨g, 0, none⟩) zs.length zs.length] w fun e w' => e = .returned (.bool (zs.any (fun z => t.op == z))) ∧ w = w' := by
  obtain ⟨h0, _, _, _, _, _, _, _, _⟩ := h
  have HI := Lib.hid (contains_any g zs t.op w hz hl); clear hz
  go_enter Try.func32, Try.ntmps32
  go_wp2_with fail
  refine HI.out.mono ?_
  rintro e w' ⟨rfl, rfl⟩
  go_wp2
  go_ret
  exact ⟨rfl, rfl⟩

theorem in1 (x : Int) (c o g : Nat) (t : Tsk) (w : World) (h : TaskAt w c o t) (h0 : w.cell? ⟨g, 0, none⟩ = some (.int .i64 x)) :
    Calls Try.prog 32 #[.pointer (some ⟨c, o, none⟩), .slice (some ⟨g, 0, none⟩) 1 1] w fun e w' => e = .returned (.bool (t.op == x)) ∧ w = w' := by
  have := in_any c o g t [x] w h (by intro j hj; (obtain rfl : j = 0 := by simpa using hj); exact h0) (by simp)
  simpa using this
theorem in2 (x y : Int) (c o g : Nat) (t : Tsk) (w : World) (h : TaskAt w c o t) (h0 : w.cell? ⟨g, 0, none⟩ = some (.int .i64 x)) (h1 : w.cell? ⟨g, 1, none⟩ = some (.int .i64 y)) :
    Calls Try.prog 32 #[.pointer (some ⟨c, o, none⟩), .slice (some ⟨g, 0, none⟩) 2 2] w fun e w' => e = .returned (.bool ((t.op == x) || (t.op == y))) ∧ w = w' := by
  have := in_any c o g t [x, y] w h (by
    intro j hj
    have : j = 0 ∨ j = 1 := by simp at hj; omega
    rcases this with rfl | rfl <;> assumption) (by simp)
  simpa using this
theorem in3 (x y z : Int) (c o g : Nat) (t : Tsk) (w : World) (h : TaskAt w c o t) (h0 : w.cell? ⟨g, 0, none⟩ = some (.int .i64 x)) (h1 : w.cell? ⟨g, 1, none⟩ = some (.int .i64 y)) (h2 : w.cell? ⟨g, 2, none⟩ = some (.int .i64 z)) :
    Calls Try.prog 32 #[.pointer (some ⟨c, o, none⟩), .slice (some ⟨g, 0, none⟩) 3 3] w fun e w' => e = .returned (.bool ((t.op == x) || ((t.op == y) || (t.op == z)))) ∧ w = w' := by
  have := in_any c o g t [x, y, z] w h (by
    intro j hj
    have : j = 0 ∨ j = 1 ∨ j = 2 := by simp at hj; omega
    rcases this with rfl | rfl | rfl <;> assumption) (by simp)
  simpa using this
theorem in4 (x y z u : Int) (c o g : Nat) (t : Tsk) (w : World) (h : TaskAt w c o t) (h0 : w.cell? ⟨g, 0, none⟩ = some (.int .i64 x)) (h1 : w.cell? ⟨g, 1, none⟩ = some (.int .i64 y)) (h2 : w.cell? ⟨g, 2, none⟩ = some (.int .i64 z)) (h3 : w.cell? ⟨g, 3, none⟩ = some (.int .i64 u)) :
    Calls Try.prog 32 #[.pointer (some ⟨c, o, none⟩), .slice (some ⟨g, 0, none⟩) 4 4] w fun e w' => e = .returned (.bool ((t.op == x) || ((t.op == y) || ((t.op == z) || (t.op == u))))) ∧ w = w' := by
  have := in_any c o g t [x, y, z, u] w h (by
    intro j hj
    have : j = 0 ∨ j = 1 ∨ j = 2 ∨ j = 3 := by simp at hj; omega
    rcases this with rfl | rfl | rfl | rfl <;> assumption) (by simp)
  simpa using this

/-- One field of one task is written. -/
theorem rowOf_set (l : List Tsk) (j i : Nat) (v : Value) (t' : Tsk) (hj : j < l.length) (hi : i < 9) (ht : t'.cells = (l.getD j Tsk.zero).cells.set i v) :
    (rowOf l).setIfInBounds (j * 9 + i) v = rowOf (l.set j t') := by
  unfold rowOf
  rw [List.setIfInBounds_toArray]
  congr 1
  induction l generalizing j with
  | nil => simp at hj
  | cons x l ih =>
    cases j with
    | zero =>
      simp only [Nat.zero_mul, Nat.zero_add, List.flatMap_cons, List.set_cons_zero]
      rw [List.set_append_left _ _ (by simp [Tsk.cells]; omega), ht]
      rfl
    | succ j =>
      have hj' : j < l.length := by simpa using hj
      rw [List.flatMap_cons, List.set_append_right _ _ (by simp [Tsk.cells]; omega), List.set_cons_succ, List.flatMap_cons]
      have : (j + 1) * 9 + i - x.cells.length = j * 9 + i := by simp [Tsk.cells]; omega
      rw [this, ih j hj' (by simpa using ht)]

def Rul.set (R : Rul) (me : Nat) (t : Tsk) : Rul := { R with l := R.l.set me t }

theorem RuleAt.set {w : World} {b c me : Nat} {R : Rul} (h : RuleAt w b c R) (hme : me < R.l.length) (i : Nat) (hi : i < 9) (v : Value) (t' : Tsk) (ht : t'.cells = (R.t me).cells.set i v) :
    RuleAt (w.setCell ⟨c, me * 9 + i, none⟩ v) b c (R.set me t') := by
  refine ⟨?_, ?_, ?_⟩
  · have := h.head.far (p := ⟨c, me * 9 + i, none⟩) h.ne v
    simpa [Rul.set] using this
  · have := h.body.set_ (me * 9 + i) v
    rw [rowOf_set R.l me i v t' hme hi ht] at this
    exact this
  · simpa [Rul.set] using h.len

theorem RuleAt.setRanks {w : World} {b c : Nat} {R : Rul} (h : RuleAt w b c R) (x : Int) : RuleAt (w.setCell ⟨b, 2, none⟩ (.int .i64 x)) b c { R with ranks := x } :=
  ⟨h.head.set_ 2 _, h.body.far (p := ⟨b, 2, none⟩) (Ne.symm h.ne) _, h.len⟩
theorem RuleAt.setPresences {w : World} {b c : Nat} {R : Rul} (h : RuleAt w b c R) (x : Int) : RuleAt (w.setCell ⟨b, 3, none⟩ (.int .i64 x)) b c { R with presences := x } :=
  ⟨h.head.set_ 3 _, h.body.far (p := ⟨b, 3, none⟩) (Ne.symm h.ne) _, h.len⟩

theorem RuleAt.below' {w w' : World} {b c B : Nat} {R : Rul} (h : RuleAt w b c R) (hb : Below B w w') (h1 : b < B) (h2 : c < B) : RuleAt w' b c R := ⟨h.head.below hb h1, h.body.below hb h2, h.len⟩

theorem Rul.t_set {R : Rul} {me : Nat} (t : Tsk) (hme : me < R.l.length) : (R.set me t).t me = t := by simp [Rul.set, Rul.t, hme]
theorem Rul.set_len {R : Rul} {me : Nat} (t : Tsk) : (R.set me t).l.length = R.l.length := by simp [Rul.set]
theorem Rul.set_set {R : Rul} {me : Nat} (t u : Tsk) : (R.set me t).set me u = R.set me u := by simp [Rul.set]

end Go.Proofs.Yteifhbkhjkmhfaa
