/-
  The walks of what makes a task present, and of what registers a request.
-/
import Derived.Test.YteifhbkhjkmhfaaRuE
namespace Go.Proofs.Yteifhbkhjkmhfaa
open Go.RowKit
set_option linter.unusedSimpArgs false

def firstIdx (n : Nat) (f : Nat → Bool) : Int := match (List.range n).find? f with
  | some j => (j : Int)
  | none => -1

theorem firstIdx_hit {n k : Nat} {f : Nat → Bool} (hk : k < n) (hf : f k = true) (hno : ∀ j, j < k → f j = false) : firstIdx n f = k := by
  unfold firstIdx
  have : (List.range n).find? f = some k := by
    rw [List.find?_range_eq_some]
    exact ⟨hf, by simpa using hk, fun j hj => by simp [hno j hj]⟩
  rw [this]
theorem firstIdx_none {n : Nat} {f : Nat → Bool} (hno : ∀ j, j < n → f j = false) : firstIdx n f = -1 := by
  unfold firstIdx
  have : (List.range n).find? f = none := by
    rw [List.find?_eq_none]
    intro j hj
    simp [hno j (List.mem_range.1 hj)]
  rw [this]
theorem firstIdx_lt (n : Nat) (f : Nat → Bool) : firstIdx n f < n ∧ -1 ≤ firstIdx n f := by
  unfold firstIdx
  split
  · rename_i j h
    have := List.mem_of_find?_eq_some h
    have := List.mem_range.1 this
    omega
  · omega

def Tsk.agg (t : Tsk) : Value := .agg #[.int .i64 t.op, .int .i64 t.hold, .int .i64 t.req, .int .i64 t.rank, .int .i64 t.presence, .int .i64 t.seen, .int .i64 t.bar, .bool t.leaving, .bool t.refused]

set_option maxHeartbeats 1000000 in
theorem register1_any (t : Tsk) (w : World) :
    Calls Try.prog 35 #[.agg #[.int .i64 t.op, .int .i64 t.hold, .int .i64 t.req, .int .i64 t.rank, .int .i64 t.presence, .int .i64 t.seen, .int .i64 t.bar, .bool t.leaving, .bool t.refused]] w
      fun e w' => e = .returned (.bool (decide (0 < t.presence))) ∧ Below w.heap.size w w' := by
  go_enter Try.func35, Try.ntmps35
  go_wp2_with (go_at_call 36; refine (present_any w.heap.size 0 t _ ?_).mono ?_; (unfold TaskAt; simp [go_sem]); rintro e w' ⟨rfl, rfl⟩)
  go_ret
  exact ⟨rfl, (Below.refl _ _).alloc (Nat.le_refl _) _⟩

set_option maxRecDepth 100000 in
set_option maxHeartbeats 2000000 in
theorem indexFunc_any (b c : Nat) (R : Rul) (w : World) (hR : RuleAt w b c R) :
    Calls Try.prog 34 #[.slice (some ⟨c, 0, none⟩) R.l.length R.l.length, .func (.func 35) #[] #[]] w
      fun e w' => e = .returned (.int .i64 (firstIdx R.l.length fun j => decide (0 < (R.t j).presence))) ∧ Below w.heap.size w w' := by
  have hb := hR.head.lt
  have hc := hR.body.lt
  have hl := hR.len
  have HR := Lib.hid hR; clear hR
  go_enter Try.func34, Try.ntmps34
  go_wp2
  go_loopw [8] (fun i wr => ∃ k : Nat, k ≤ R.l.length ∧ i = .int .i64 k ∧ Hid (∀ j, j < k → decide (0 < (R.t j).presence) = false) ∧ Below w.heap.size w wr) (fun i _ => R.l.length - (intOf i).toNat)
  case atStart => exact ⟨0, Nat.zero_le _, rfl, fun j h => by omega, Below.refl _ _⟩
  case round =>
    obtain ⟨k, hk, rfl, hno, hB⟩ := hrel
    by_cases hlt : k < R.l.length
    · obtain ⟨t0, t1, t2, t3, t4, t5, t6, t7, t8⟩ := (HR.out.below' hB hb hc).task hlt
      go_wp2_with fail
      refine (register1_any (R.t k) _).mono ?_
      rintro e w' ⟨rfl, hb1⟩
      have hz := hB.size
      cases hf : decide (0 < (R.t k).presence)
      · have HF := Lib.hid hf
        go_wp2
        go_roundw
        case rel => exact ⟨k + 1, by omega, by go_num, fun j hj => by (by_cases e : j = k); (· subst e; exact HF.out); (· exact hno.out j (by omega)), hB.trans (hb1.mono hz)⟩
        case measure => simp [intOf]; omega
      · have HF := Lib.hid hf
        go_wp2
        go_ret
        exact ⟨by rw [firstIdx_hit (f := fun j => decide (0 < (R.t j).presence)) hlt HF.out hno.out]; rfl, hB.trans (hb1.mono hz)⟩
    · go_wp2
      go_ret
      exact ⟨by rw [firstIdx_none (f := fun j => decide (0 < (R.t j).presence)) (fun j hj => hno.out j (by omega))]; rfl, hB⟩

end Go.Proofs.Yteifhbkhjkmhfaa
