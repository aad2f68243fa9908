/-
  The walks of whether a writer may be admitted, a try refused, a reader go up.
-/
import Derived.Test.YteifhbkhjkmhfaaRuC
namespace Go.Proofs.Yteifhbkhjkmhfaa
open Go.RowKit
set_option linter.unusedSimpArgs false

theorem cell_new_drewN (w : World) (k : Nat) (cs : Array Value) (t : TypeId) (i : Nat) : ((w.drewN k).alloc (.cells cs t)).cell? ⟨w.heap.size, i, none⟩ = cs[i]? :=
  World.cell?_alloc_at (w := w.drewN k) _ _ _ _ rfl

def Rul.writerB (R : Rul) (me : Nat) : Bool :=
  if R.others me (fun t => t.hold != 0) then false
  else if R.kind = 1 ∨ R.kind = 4 then !R.others me (fun t => t.leaving) && !R.others me (beforeB 0 (R.t me))
  else if R.kind = 2 ∨ R.kind = 3 then decide (0 < (R.t me).presence) && !R.others me (earlyB (R.t me))
  else if R.kind = 5 then !R.others me (fun t => t.req == 1)
  else !R.others me (beforeB 2 (R.t me))

set_option maxHeartbeats 4000000 in
theorem writer_any (b c me : Nat) (R : Rul) (w : World) (hR : RuleAt w b c R) (hme : me < R.l.length) (hk : IsKind R.kind) :
    Calls Try.prog 48 #[.pointer (some ⟨b, 0, none⟩), .pointer (some ⟨c, me * 9, none⟩)] w fun e w' => e = .returned (.bool (R.writerB me)) ∧ Below w.heap.size w w' := by
  have hb := hR.head.lt
  have hc := hR.body.lt
  obtain ⟨k0, _, _, _⟩ := hR.heads
  have HR := Lib.hid hR; clear hR
  rcases hk with hk | hk | hk | hk | hk | hk
  all_goals have HK := Lib.hid hk
  all_goals rw [hk] at k0; clear hk
  · go_enter Try.func48, Try.ntmps48
    go_wp2_with (first
      | (go_at_call 42; ((with_reducible refine (o_wants (b := b) (c := c) (me := me) (R := R) ?_ hme).mono ?_); (repeat (first | with_reducible exact HR.out | with_reducible refine RuleAt.drewN ?_ _ | with_reducible refine RuleAt.alloc ?_ _)); rintro e w' ⟨rfl, n, rfl⟩))
      | (go_at_call 42; ((with_reducible refine (o_present (b := b) (c := c) (me := me) (R := R) ?_ hme).mono ?_); (repeat (first | with_reducible exact HR.out | with_reducible refine RuleAt.drewN ?_ _ | with_reducible refine RuleAt.alloc ?_ _)); rintro e w' ⟨rfl, n, rfl⟩))
      | (go_at_call 42; ((with_reducible refine (o_wantsWrite (b := b) (c := c) (me := me) (R := R) ?_ hme).mono ?_); (repeat (first | with_reducible exact HR.out | with_reducible refine RuleAt.drewN ?_ _ | with_reducible refine RuleAt.alloc ?_ _)); rintro e w' ⟨rfl, n, rfl⟩))
      | (go_at_call 42; ((with_reducible refine (o_writes (b := b) (c := c) (me := me) (R := R) ?_ hme).mono ?_); (repeat (first | with_reducible exact HR.out | with_reducible refine RuleAt.drewN ?_ _ | with_reducible refine RuleAt.alloc ?_ _)); rintro e w' ⟨rfl, n, rfl⟩))
      | (go_at_call 42; ((with_reducible refine (o_come (b := b) (c := c) (me := me) (R := R) ?_ hme).mono ?_); (repeat (first | with_reducible exact HR.out | with_reducible refine RuleAt.drewN ?_ _ | with_reducible refine RuleAt.alloc ?_ _)); rintro e w' ⟨rfl, n, rfl⟩))
      | (go_at_call 42; ((with_reducible refine (o_wantsRead (b := b) (c := c) (me := me) (R := R) ?_ hme).mono ?_); (repeat (first | with_reducible exact HR.out | with_reducible refine RuleAt.drewN ?_ _ | with_reducible refine RuleAt.alloc ?_ _)); rintro e w' ⟨rfl, n, rfl⟩))
      | (go_at_call 42; ((with_reducible refine (o_holds (b := b) (c := c) (me := me) (R := R) ?_ hme).mono ?_); (repeat (first | with_reducible exact HR.out | with_reducible refine RuleAt.drewN ?_ _ | with_reducible refine RuleAt.alloc ?_ _)); rintro e w' ⟨rfl, n, rfl⟩))
      | (go_at_call 42; ((with_reducible refine (o_leaves (b := b) (c := c) (me := me) (R := R) ?_ hme).mono ?_); (repeat (first | with_reducible exact HR.out | with_reducible refine RuleAt.drewN ?_ _ | with_reducible refine RuleAt.alloc ?_ _)); rintro e w' ⟨rfl, n, rfl⟩))
      | (go_at_call 42; ((with_reducible refine (o_before (b := b) (c := c) (me := me) (R := R) ?_ hme _ _ 0 ?_ ?_).mono ?_); (repeat (first | with_reducible exact HR.out | with_reducible refine RuleAt.drewN ?_ _ | with_reducible refine RuleAt.alloc ?_ _)); (simp [go_sem, cell_new_drewN]); (simp [go_sem, cell_new_drewN]); rintro e w' ⟨rfl, n, rfl⟩))
      | (go_at_call 44; refine (before_any _ _ _).mono ?_; rintro e w' ⟨rfl, rfl⟩)
      | (go_at_call 33; refine (wants_any c (me * 9) (R.t me) _ ?_).mono ?_; (refine RuleAt.task (b := b) ?_ hme; repeat (first | with_reducible exact HR.out | with_reducible refine RuleAt.drewN ?_ _ | with_reducible refine RuleAt.alloc ?_ _)); rintro e w' ⟨rfl, rfl⟩)
      | (go_at_call 36; refine (present_any c (me * 9) (R.t me) _ ?_).mono ?_; (refine RuleAt.task (b := b) ?_ hme; repeat (first | with_reducible exact HR.out | with_reducible refine RuleAt.drewN ?_ _ | with_reducible refine RuleAt.alloc ?_ _)); rintro e w' ⟨rfl, rfl⟩)
      | (go_at_call 40; refine (wantsWrite_any c (me * 9) (R.t me) _ ?_).mono ?_; (refine RuleAt.task (b := b) ?_ hme; repeat (first | with_reducible exact HR.out | with_reducible refine RuleAt.drewN ?_ _ | with_reducible refine RuleAt.alloc ?_ _)); rintro e w' ⟨rfl, rfl⟩)
      | (go_at_call 41; refine (writes_any c (me * 9) (R.t me) _ ?_).mono ?_; (refine RuleAt.task (b := b) ?_ hme; repeat (first | with_reducible exact HR.out | with_reducible refine RuleAt.drewN ?_ _ | with_reducible refine RuleAt.alloc ?_ _)); rintro e w' ⟨rfl, rfl⟩)
      | (go_at_call 46; refine (wantsRead_any c (me * 9) (R.t me) _ ?_).mono ?_; (refine RuleAt.task (b := b) ?_ hme; repeat (first | with_reducible exact HR.out | with_reducible refine RuleAt.drewN ?_ _ | with_reducible refine RuleAt.alloc ?_ _)); rintro e w' ⟨rfl, rfl⟩)
      | (go_at_call 60; refine (early_any b c me R _ ?_ hme).mono ?_; (repeat (first | with_reducible exact HR.out | with_reducible refine RuleAt.drewN ?_ _ | with_reducible refine RuleAt.alloc ?_ _)); rintro e w' ⟨rfl, hbe⟩; simp only [go_sem] at hbe))
    all_goals
      go_ret
      refine ⟨?_, ?_⟩
      · first | (simp [Rul.writerB, HK.out, *]; done) | (simp [Rul.writerB, HK.out, *]; intro _; omega)
      · repeat (first | with_reducible exact Below.refl _ _ | with_reducible refine Below.trans ?_ (by with_reducible assumption) | with_reducible refine below_drewN ?_ _ | with_reducible refine Below.drew ?_ | with_reducible refine Below.alloc ?_ (by simp [go_sem] <;> omega) _)
  · go_enter Try.func48, Try.ntmps48
    go_wp2_with (first
      | (go_at_call 42; ((with_reducible refine (o_wants (b := b) (c := c) (me := me) (R := R) ?_ hme).mono ?_); (repeat (first | with_reducible exact HR.out | with_reducible refine RuleAt.drewN ?_ _ | with_reducible refine RuleAt.alloc ?_ _)); rintro e w' ⟨rfl, n, rfl⟩))
      | (go_at_call 42; ((with_reducible refine (o_present (b := b) (c := c) (me := me) (R := R) ?_ hme).mono ?_); (repeat (first | with_reducible exact HR.out | with_reducible refine RuleAt.drewN ?_ _ | with_reducible refine RuleAt.alloc ?_ _)); rintro e w' ⟨rfl, n, rfl⟩))
      | (go_at_call 42; ((with_reducible refine (o_wantsWrite (b := b) (c := c) (me := me) (R := R) ?_ hme).mono ?_); (repeat (first | with_reducible exact HR.out | with_reducible refine RuleAt.drewN ?_ _ | with_reducible refine RuleAt.alloc ?_ _)); rintro e w' ⟨rfl, n, rfl⟩))
      | (go_at_call 42; ((with_reducible refine (o_writes (b := b) (c := c) (me := me) (R := R) ?_ hme).mono ?_); (repeat (first | with_reducible exact HR.out | with_reducible refine RuleAt.drewN ?_ _ | with_reducible refine RuleAt.alloc ?_ _)); rintro e w' ⟨rfl, n, rfl⟩))
      | (go_at_call 42; ((with_reducible refine (o_come (b := b) (c := c) (me := me) (R := R) ?_ hme).mono ?_); (repeat (first | with_reducible exact HR.out | with_reducible refine RuleAt.drewN ?_ _ | with_reducible refine RuleAt.alloc ?_ _)); rintro e w' ⟨rfl, n, rfl⟩))
      | (go_at_call 42; ((with_reducible refine (o_wantsRead (b := b) (c := c) (me := me) (R := R) ?_ hme).mono ?_); (repeat (first | with_reducible exact HR.out | with_reducible refine RuleAt.drewN ?_ _ | with_reducible refine RuleAt.alloc ?_ _)); rintro e w' ⟨rfl, n, rfl⟩))
      | (go_at_call 42; ((with_reducible refine (o_holds (b := b) (c := c) (me := me) (R := R) ?_ hme).mono ?_); (repeat (first | with_reducible exact HR.out | with_reducible refine RuleAt.drewN ?_ _ | with_reducible refine RuleAt.alloc ?_ _)); rintro e w' ⟨rfl, n, rfl⟩))
      | (go_at_call 42; ((with_reducible refine (o_leaves (b := b) (c := c) (me := me) (R := R) ?_ hme).mono ?_); (repeat (first | with_reducible exact HR.out | with_reducible refine RuleAt.drewN ?_ _ | with_reducible refine RuleAt.alloc ?_ _)); rintro e w' ⟨rfl, n, rfl⟩))
      | (go_at_call 42; ((with_reducible refine (o_before (b := b) (c := c) (me := me) (R := R) ?_ hme _ _ 0 ?_ ?_).mono ?_); (repeat (first | with_reducible exact HR.out | with_reducible refine RuleAt.drewN ?_ _ | with_reducible refine RuleAt.alloc ?_ _)); (simp [go_sem, cell_new_drewN]); (simp [go_sem, cell_new_drewN]); rintro e w' ⟨rfl, n, rfl⟩))
      | (go_at_call 44; refine (before_any _ _ _).mono ?_; rintro e w' ⟨rfl, rfl⟩)
      | (go_at_call 33; refine (wants_any c (me * 9) (R.t me) _ ?_).mono ?_; (refine RuleAt.task (b := b) ?_ hme; repeat (first | with_reducible exact HR.out | with_reducible refine RuleAt.drewN ?_ _ | with_reducible refine RuleAt.alloc ?_ _)); rintro e w' ⟨rfl, rfl⟩)
      | (go_at_call 36; refine (present_any c (me * 9) (R.t me) _ ?_).mono ?_; (refine RuleAt.task (b := b) ?_ hme; repeat (first | with_reducible exact HR.out | with_reducible refine RuleAt.drewN ?_ _ | with_reducible refine RuleAt.alloc ?_ _)); rintro e w' ⟨rfl, rfl⟩)
      | (go_at_call 40; refine (wantsWrite_any c (me * 9) (R.t me) _ ?_).mono ?_; (refine RuleAt.task (b := b) ?_ hme; repeat (first | with_reducible exact HR.out | with_reducible refine RuleAt.drewN ?_ _ | with_reducible refine RuleAt.alloc ?_ _)); rintro e w' ⟨rfl, rfl⟩)
      | (go_at_call 41; refine (writes_any c (me * 9) (R.t me) _ ?_).mono ?_; (refine RuleAt.task (b := b) ?_ hme; repeat (first | with_reducible exact HR.out | with_reducible refine RuleAt.drewN ?_ _ | with_reducible refine RuleAt.alloc ?_ _)); rintro e w' ⟨rfl, rfl⟩)
      | (go_at_call 46; refine (wantsRead_any c (me * 9) (R.t me) _ ?_).mono ?_; (refine RuleAt.task (b := b) ?_ hme; repeat (first | with_reducible exact HR.out | with_reducible refine RuleAt.drewN ?_ _ | with_reducible refine RuleAt.alloc ?_ _)); rintro e w' ⟨rfl, rfl⟩)
      | (go_at_call 60; refine (early_any b c me R _ ?_ hme).mono ?_; (repeat (first | with_reducible exact HR.out | with_reducible refine RuleAt.drewN ?_ _ | with_reducible refine RuleAt.alloc ?_ _)); rintro e w' ⟨rfl, hbe⟩; simp only [go_sem] at hbe))
    all_goals
      go_ret
      refine ⟨?_, ?_⟩
      · first | (simp [Rul.writerB, HK.out, *]; done) | (simp [Rul.writerB, HK.out, *]; intro _; omega)
      · repeat (first | with_reducible exact Below.refl _ _ | with_reducible refine Below.trans ?_ (by with_reducible assumption) | with_reducible refine below_drewN ?_ _ | with_reducible refine Below.drew ?_ | with_reducible refine Below.alloc ?_ (by simp [go_sem] <;> omega) _)
  · go_enter Try.func48, Try.ntmps48
    go_wp2_with (first
      | (go_at_call 42; ((with_reducible refine (o_wants (b := b) (c := c) (me := me) (R := R) ?_ hme).mono ?_); (repeat (first | with_reducible exact HR.out | with_reducible refine RuleAt.drewN ?_ _ | with_reducible refine RuleAt.alloc ?_ _)); rintro e w' ⟨rfl, n, rfl⟩))
      | (go_at_call 42; ((with_reducible refine (o_present (b := b) (c := c) (me := me) (R := R) ?_ hme).mono ?_); (repeat (first | with_reducible exact HR.out | with_reducible refine RuleAt.drewN ?_ _ | with_reducible refine RuleAt.alloc ?_ _)); rintro e w' ⟨rfl, n, rfl⟩))
      | (go_at_call 42; ((with_reducible refine (o_wantsWrite (b := b) (c := c) (me := me) (R := R) ?_ hme).mono ?_); (repeat (first | with_reducible exact HR.out | with_reducible refine RuleAt.drewN ?_ _ | with_reducible refine RuleAt.alloc ?_ _)); rintro e w' ⟨rfl, n, rfl⟩))
      | (go_at_call 42; ((with_reducible refine (o_writes (b := b) (c := c) (me := me) (R := R) ?_ hme).mono ?_); (repeat (first | with_reducible exact HR.out | with_reducible refine RuleAt.drewN ?_ _ | with_reducible refine RuleAt.alloc ?_ _)); rintro e w' ⟨rfl, n, rfl⟩))
      | (go_at_call 42; ((with_reducible refine (o_come (b := b) (c := c) (me := me) (R := R) ?_ hme).mono ?_); (repeat (first | with_reducible exact HR.out | with_reducible refine RuleAt.drewN ?_ _ | with_reducible refine RuleAt.alloc ?_ _)); rintro e w' ⟨rfl, n, rfl⟩))
      | (go_at_call 42; ((with_reducible refine (o_wantsRead (b := b) (c := c) (me := me) (R := R) ?_ hme).mono ?_); (repeat (first | with_reducible exact HR.out | with_reducible refine RuleAt.drewN ?_ _ | with_reducible refine RuleAt.alloc ?_ _)); rintro e w' ⟨rfl, n, rfl⟩))
      | (go_at_call 42; ((with_reducible refine (o_holds (b := b) (c := c) (me := me) (R := R) ?_ hme).mono ?_); (repeat (first | with_reducible exact HR.out | with_reducible refine RuleAt.drewN ?_ _ | with_reducible refine RuleAt.alloc ?_ _)); rintro e w' ⟨rfl, n, rfl⟩))
      | (go_at_call 42; ((with_reducible refine (o_leaves (b := b) (c := c) (me := me) (R := R) ?_ hme).mono ?_); (repeat (first | with_reducible exact HR.out | with_reducible refine RuleAt.drewN ?_ _ | with_reducible refine RuleAt.alloc ?_ _)); rintro e w' ⟨rfl, n, rfl⟩))
      | (go_at_call 42; ((with_reducible refine (o_before (b := b) (c := c) (me := me) (R := R) ?_ hme _ _ 0 ?_ ?_).mono ?_); (repeat (first | with_reducible exact HR.out | with_reducible refine RuleAt.drewN ?_ _ | with_reducible refine RuleAt.alloc ?_ _)); (simp [go_sem, cell_new_drewN]); (simp [go_sem, cell_new_drewN]); rintro e w' ⟨rfl, n, rfl⟩))
      | (go_at_call 44; refine (before_any _ _ _).mono ?_; rintro e w' ⟨rfl, rfl⟩)
      | (go_at_call 33; refine (wants_any c (me * 9) (R.t me) _ ?_).mono ?_; (refine RuleAt.task (b := b) ?_ hme; repeat (first | with_reducible exact HR.out | with_reducible refine RuleAt.drewN ?_ _ | with_reducible refine RuleAt.alloc ?_ _)); rintro e w' ⟨rfl, rfl⟩)
      | (go_at_call 36; refine (present_any c (me * 9) (R.t me) _ ?_).mono ?_; (refine RuleAt.task (b := b) ?_ hme; repeat (first | with_reducible exact HR.out | with_reducible refine RuleAt.drewN ?_ _ | with_reducible refine RuleAt.alloc ?_ _)); rintro e w' ⟨rfl, rfl⟩)
      | (go_at_call 40; refine (wantsWrite_any c (me * 9) (R.t me) _ ?_).mono ?_; (refine RuleAt.task (b := b) ?_ hme; repeat (first | with_reducible exact HR.out | with_reducible refine RuleAt.drewN ?_ _ | with_reducible refine RuleAt.alloc ?_ _)); rintro e w' ⟨rfl, rfl⟩)
      | (go_at_call 41; refine (writes_any c (me * 9) (R.t me) _ ?_).mono ?_; (refine RuleAt.task (b := b) ?_ hme; repeat (first | with_reducible exact HR.out | with_reducible refine RuleAt.drewN ?_ _ | with_reducible refine RuleAt.alloc ?_ _)); rintro e w' ⟨rfl, rfl⟩)
      | (go_at_call 46; refine (wantsRead_any c (me * 9) (R.t me) _ ?_).mono ?_; (refine RuleAt.task (b := b) ?_ hme; repeat (first | with_reducible exact HR.out | with_reducible refine RuleAt.drewN ?_ _ | with_reducible refine RuleAt.alloc ?_ _)); rintro e w' ⟨rfl, rfl⟩)
      | (go_at_call 60; refine (early_any b c me R _ ?_ hme).mono ?_; (repeat (first | with_reducible exact HR.out | with_reducible refine RuleAt.drewN ?_ _ | with_reducible refine RuleAt.alloc ?_ _)); rintro e w' ⟨rfl, hbe⟩; simp only [go_sem] at hbe))
    all_goals
      go_ret
      refine ⟨?_, ?_⟩
      · first | (simp [Rul.writerB, HK.out, *]; done) | (simp [Rul.writerB, HK.out, *]; intro _; omega)
      · repeat (first | with_reducible exact Below.refl _ _ | with_reducible refine Below.trans ?_ (by with_reducible assumption) | with_reducible refine below_drewN ?_ _ | with_reducible refine Below.drew ?_ | with_reducible refine Below.alloc ?_ (by simp [go_sem] <;> omega) _)
  · go_enter Try.func48, Try.ntmps48
    go_wp2_with (first
      | (go_at_call 42; ((with_reducible refine (o_wants (b := b) (c := c) (me := me) (R := R) ?_ hme).mono ?_); (repeat (first | with_reducible exact HR.out | with_reducible refine RuleAt.drewN ?_ _ | with_reducible refine RuleAt.alloc ?_ _)); rintro e w' ⟨rfl, n, rfl⟩))
      | (go_at_call 42; ((with_reducible refine (o_present (b := b) (c := c) (me := me) (R := R) ?_ hme).mono ?_); (repeat (first | with_reducible exact HR.out | with_reducible refine RuleAt.drewN ?_ _ | with_reducible refine RuleAt.alloc ?_ _)); rintro e w' ⟨rfl, n, rfl⟩))
      | (go_at_call 42; ((with_reducible refine (o_wantsWrite (b := b) (c := c) (me := me) (R := R) ?_ hme).mono ?_); (repeat (first | with_reducible exact HR.out | with_reducible refine RuleAt.drewN ?_ _ | with_reducible refine RuleAt.alloc ?_ _)); rintro e w' ⟨rfl, n, rfl⟩))
      | (go_at_call 42; ((with_reducible refine (o_writes (b := b) (c := c) (me := me) (R := R) ?_ hme).mono ?_); (repeat (first | with_reducible exact HR.out | with_reducible refine RuleAt.drewN ?_ _ | with_reducible refine RuleAt.alloc ?_ _)); rintro e w' ⟨rfl, n, rfl⟩))
      | (go_at_call 42; ((with_reducible refine (o_come (b := b) (c := c) (me := me) (R := R) ?_ hme).mono ?_); (repeat (first | with_reducible exact HR.out | with_reducible refine RuleAt.drewN ?_ _ | with_reducible refine RuleAt.alloc ?_ _)); rintro e w' ⟨rfl, n, rfl⟩))
      | (go_at_call 42; ((with_reducible refine (o_wantsRead (b := b) (c := c) (me := me) (R := R) ?_ hme).mono ?_); (repeat (first | with_reducible exact HR.out | with_reducible refine RuleAt.drewN ?_ _ | with_reducible refine RuleAt.alloc ?_ _)); rintro e w' ⟨rfl, n, rfl⟩))
      | (go_at_call 42; ((with_reducible refine (o_holds (b := b) (c := c) (me := me) (R := R) ?_ hme).mono ?_); (repeat (first | with_reducible exact HR.out | with_reducible refine RuleAt.drewN ?_ _ | with_reducible refine RuleAt.alloc ?_ _)); rintro e w' ⟨rfl, n, rfl⟩))
      | (go_at_call 42; ((with_reducible refine (o_leaves (b := b) (c := c) (me := me) (R := R) ?_ hme).mono ?_); (repeat (first | with_reducible exact HR.out | with_reducible refine RuleAt.drewN ?_ _ | with_reducible refine RuleAt.alloc ?_ _)); rintro e w' ⟨rfl, n, rfl⟩))
      | (go_at_call 42; ((with_reducible refine (o_before (b := b) (c := c) (me := me) (R := R) ?_ hme _ _ 0 ?_ ?_).mono ?_); (repeat (first | with_reducible exact HR.out | with_reducible refine RuleAt.drewN ?_ _ | with_reducible refine RuleAt.alloc ?_ _)); (simp [go_sem, cell_new_drewN]); (simp [go_sem, cell_new_drewN]); rintro e w' ⟨rfl, n, rfl⟩))
      | (go_at_call 44; refine (before_any _ _ _).mono ?_; rintro e w' ⟨rfl, rfl⟩)
      | (go_at_call 33; refine (wants_any c (me * 9) (R.t me) _ ?_).mono ?_; (refine RuleAt.task (b := b) ?_ hme; repeat (first | with_reducible exact HR.out | with_reducible refine RuleAt.drewN ?_ _ | with_reducible refine RuleAt.alloc ?_ _)); rintro e w' ⟨rfl, rfl⟩)
      | (go_at_call 36; refine (present_any c (me * 9) (R.t me) _ ?_).mono ?_; (refine RuleAt.task (b := b) ?_ hme; repeat (first | with_reducible exact HR.out | with_reducible refine RuleAt.drewN ?_ _ | with_reducible refine RuleAt.alloc ?_ _)); rintro e w' ⟨rfl, rfl⟩)
      | (go_at_call 40; refine (wantsWrite_any c (me * 9) (R.t me) _ ?_).mono ?_; (refine RuleAt.task (b := b) ?_ hme; repeat (first | with_reducible exact HR.out | with_reducible refine RuleAt.drewN ?_ _ | with_reducible refine RuleAt.alloc ?_ _)); rintro e w' ⟨rfl, rfl⟩)
      | (go_at_call 41; refine (writes_any c (me * 9) (R.t me) _ ?_).mono ?_; (refine RuleAt.task (b := b) ?_ hme; repeat (first | with_reducible exact HR.out | with_reducible refine RuleAt.drewN ?_ _ | with_reducible refine RuleAt.alloc ?_ _)); rintro e w' ⟨rfl, rfl⟩)
      | (go_at_call 46; refine (wantsRead_any c (me * 9) (R.t me) _ ?_).mono ?_; (refine RuleAt.task (b := b) ?_ hme; repeat (first | with_reducible exact HR.out | with_reducible refine RuleAt.drewN ?_ _ | with_reducible refine RuleAt.alloc ?_ _)); rintro e w' ⟨rfl, rfl⟩)
      | (go_at_call 60; refine (early_any b c me R _ ?_ hme).mono ?_; (repeat (first | with_reducible exact HR.out | with_reducible refine RuleAt.drewN ?_ _ | with_reducible refine RuleAt.alloc ?_ _)); rintro e w' ⟨rfl, hbe⟩; simp only [go_sem] at hbe))
    all_goals
      go_ret
      refine ⟨?_, ?_⟩
      · first | (simp [Rul.writerB, HK.out, *]; done) | (simp [Rul.writerB, HK.out, *]; intro _; omega)
      · repeat (first | with_reducible exact Below.refl _ _ | with_reducible refine Below.trans ?_ (by with_reducible assumption) | with_reducible refine below_drewN ?_ _ | with_reducible refine Below.drew ?_ | with_reducible refine Below.alloc ?_ (by simp [go_sem] <;> omega) _)
  · go_enter Try.func48, Try.ntmps48
    go_wp2_with (first
      | (go_at_call 42; ((with_reducible refine (o_wants (b := b) (c := c) (me := me) (R := R) ?_ hme).mono ?_); (repeat (first | with_reducible exact HR.out | with_reducible refine RuleAt.drewN ?_ _ | with_reducible refine RuleAt.alloc ?_ _)); rintro e w' ⟨rfl, n, rfl⟩))
      | (go_at_call 42; ((with_reducible refine (o_present (b := b) (c := c) (me := me) (R := R) ?_ hme).mono ?_); (repeat (first | with_reducible exact HR.out | with_reducible refine RuleAt.drewN ?_ _ | with_reducible refine RuleAt.alloc ?_ _)); rintro e w' ⟨rfl, n, rfl⟩))
      | (go_at_call 42; ((with_reducible refine (o_wantsWrite (b := b) (c := c) (me := me) (R := R) ?_ hme).mono ?_); (repeat (first | with_reducible exact HR.out | with_reducible refine RuleAt.drewN ?_ _ | with_reducible refine RuleAt.alloc ?_ _)); rintro e w' ⟨rfl, n, rfl⟩))
      | (go_at_call 42; ((with_reducible refine (o_writes (b := b) (c := c) (me := me) (R := R) ?_ hme).mono ?_); (repeat (first | with_reducible exact HR.out | with_reducible refine RuleAt.drewN ?_ _ | with_reducible refine RuleAt.alloc ?_ _)); rintro e w' ⟨rfl, n, rfl⟩))
      | (go_at_call 42; ((with_reducible refine (o_come (b := b) (c := c) (me := me) (R := R) ?_ hme).mono ?_); (repeat (first | with_reducible exact HR.out | with_reducible refine RuleAt.drewN ?_ _ | with_reducible refine RuleAt.alloc ?_ _)); rintro e w' ⟨rfl, n, rfl⟩))
      | (go_at_call 42; ((with_reducible refine (o_wantsRead (b := b) (c := c) (me := me) (R := R) ?_ hme).mono ?_); (repeat (first | with_reducible exact HR.out | with_reducible refine RuleAt.drewN ?_ _ | with_reducible refine RuleAt.alloc ?_ _)); rintro e w' ⟨rfl, n, rfl⟩))
      | (go_at_call 42; ((with_reducible refine (o_holds (b := b) (c := c) (me := me) (R := R) ?_ hme).mono ?_); (repeat (first | with_reducible exact HR.out | with_reducible refine RuleAt.drewN ?_ _ | with_reducible refine RuleAt.alloc ?_ _)); rintro e w' ⟨rfl, n, rfl⟩))
      | (go_at_call 42; ((with_reducible refine (o_leaves (b := b) (c := c) (me := me) (R := R) ?_ hme).mono ?_); (repeat (first | with_reducible exact HR.out | with_reducible refine RuleAt.drewN ?_ _ | with_reducible refine RuleAt.alloc ?_ _)); rintro e w' ⟨rfl, n, rfl⟩))
      | (go_at_call 42; ((with_reducible refine (o_before (b := b) (c := c) (me := me) (R := R) ?_ hme _ _ 0 ?_ ?_).mono ?_); (repeat (first | with_reducible exact HR.out | with_reducible refine RuleAt.drewN ?_ _ | with_reducible refine RuleAt.alloc ?_ _)); (simp [go_sem, cell_new_drewN]); (simp [go_sem, cell_new_drewN]); rintro e w' ⟨rfl, n, rfl⟩))
      | (go_at_call 44; refine (before_any _ _ _).mono ?_; rintro e w' ⟨rfl, rfl⟩)
      | (go_at_call 33; refine (wants_any c (me * 9) (R.t me) _ ?_).mono ?_; (refine RuleAt.task (b := b) ?_ hme; repeat (first | with_reducible exact HR.out | with_reducible refine RuleAt.drewN ?_ _ | with_reducible refine RuleAt.alloc ?_ _)); rintro e w' ⟨rfl, rfl⟩)
      | (go_at_call 36; refine (present_any c (me * 9) (R.t me) _ ?_).mono ?_; (refine RuleAt.task (b := b) ?_ hme; repeat (first | with_reducible exact HR.out | with_reducible refine RuleAt.drewN ?_ _ | with_reducible refine RuleAt.alloc ?_ _)); rintro e w' ⟨rfl, rfl⟩)
      | (go_at_call 40; refine (wantsWrite_any c (me * 9) (R.t me) _ ?_).mono ?_; (refine RuleAt.task (b := b) ?_ hme; repeat (first | with_reducible exact HR.out | with_reducible refine RuleAt.drewN ?_ _ | with_reducible refine RuleAt.alloc ?_ _)); rintro e w' ⟨rfl, rfl⟩)
      | (go_at_call 41; refine (writes_any c (me * 9) (R.t me) _ ?_).mono ?_; (refine RuleAt.task (b := b) ?_ hme; repeat (first | with_reducible exact HR.out | with_reducible refine RuleAt.drewN ?_ _ | with_reducible refine RuleAt.alloc ?_ _)); rintro e w' ⟨rfl, rfl⟩)
      | (go_at_call 46; refine (wantsRead_any c (me * 9) (R.t me) _ ?_).mono ?_; (refine RuleAt.task (b := b) ?_ hme; repeat (first | with_reducible exact HR.out | with_reducible refine RuleAt.drewN ?_ _ | with_reducible refine RuleAt.alloc ?_ _)); rintro e w' ⟨rfl, rfl⟩)
      | (go_at_call 60; refine (early_any b c me R _ ?_ hme).mono ?_; (repeat (first | with_reducible exact HR.out | with_reducible refine RuleAt.drewN ?_ _ | with_reducible refine RuleAt.alloc ?_ _)); rintro e w' ⟨rfl, hbe⟩; simp only [go_sem] at hbe))
    all_goals
      go_ret
      refine ⟨?_, ?_⟩
      · first | (simp [Rul.writerB, HK.out, *]; done) | (simp [Rul.writerB, HK.out, *]; intro _; omega)
      · repeat (first | with_reducible exact Below.refl _ _ | with_reducible refine Below.trans ?_ (by with_reducible assumption) | with_reducible refine below_drewN ?_ _ | with_reducible refine Below.drew ?_ | with_reducible refine Below.alloc ?_ (by simp [go_sem] <;> omega) _)
  · go_enter Try.func48, Try.ntmps48
    go_wp2_with (first
      | (go_at_call 42; ((with_reducible refine (o_wants (b := b) (c := c) (me := me) (R := R) ?_ hme).mono ?_); (repeat (first | with_reducible exact HR.out | with_reducible refine RuleAt.drewN ?_ _ | with_reducible refine RuleAt.alloc ?_ _)); rintro e w' ⟨rfl, n, rfl⟩))
      | (go_at_call 42; ((with_reducible refine (o_present (b := b) (c := c) (me := me) (R := R) ?_ hme).mono ?_); (repeat (first | with_reducible exact HR.out | with_reducible refine RuleAt.drewN ?_ _ | with_reducible refine RuleAt.alloc ?_ _)); rintro e w' ⟨rfl, n, rfl⟩))
      | (go_at_call 42; ((with_reducible refine (o_wantsWrite (b := b) (c := c) (me := me) (R := R) ?_ hme).mono ?_); (repeat (first | with_reducible exact HR.out | with_reducible refine RuleAt.drewN ?_ _ | with_reducible refine RuleAt.alloc ?_ _)); rintro e w' ⟨rfl, n, rfl⟩))
      | (go_at_call 42; ((with_reducible refine (o_writes (b := b) (c := c) (me := me) (R := R) ?_ hme).mono ?_); (repeat (first | with_reducible exact HR.out | with_reducible refine RuleAt.drewN ?_ _ | with_reducible refine RuleAt.alloc ?_ _)); rintro e w' ⟨rfl, n, rfl⟩))
      | (go_at_call 42; ((with_reducible refine (o_come (b := b) (c := c) (me := me) (R := R) ?_ hme).mono ?_); (repeat (first | with_reducible exact HR.out | with_reducible refine RuleAt.drewN ?_ _ | with_reducible refine RuleAt.alloc ?_ _)); rintro e w' ⟨rfl, n, rfl⟩))
      | (go_at_call 42; ((with_reducible refine (o_wantsRead (b := b) (c := c) (me := me) (R := R) ?_ hme).mono ?_); (repeat (first | with_reducible exact HR.out | with_reducible refine RuleAt.drewN ?_ _ | with_reducible refine RuleAt.alloc ?_ _)); rintro e w' ⟨rfl, n, rfl⟩))
      | (go_at_call 42; ((with_reducible refine (o_holds (b := b) (c := c) (me := me) (R := R) ?_ hme).mono ?_); (repeat (first | with_reducible exact HR.out | with_reducible refine RuleAt.drewN ?_ _ | with_reducible refine RuleAt.alloc ?_ _)); rintro e w' ⟨rfl, n, rfl⟩))
      | (go_at_call 42; ((with_reducible refine (o_leaves (b := b) (c := c) (me := me) (R := R) ?_ hme).mono ?_); (repeat (first | with_reducible exact HR.out | with_reducible refine RuleAt.drewN ?_ _ | with_reducible refine RuleAt.alloc ?_ _)); rintro e w' ⟨rfl, n, rfl⟩))
      | (go_at_call 42; ((with_reducible refine (o_before (b := b) (c := c) (me := me) (R := R) ?_ hme _ _ 2 ?_ ?_).mono ?_); (repeat (first | with_reducible exact HR.out | with_reducible refine RuleAt.drewN ?_ _ | with_reducible refine RuleAt.alloc ?_ _)); (simp [go_sem, cell_new_drewN]); (simp [go_sem, cell_new_drewN]); rintro e w' ⟨rfl, n, rfl⟩))
      | (go_at_call 44; refine (before_any _ _ _).mono ?_; rintro e w' ⟨rfl, rfl⟩)
      | (go_at_call 33; refine (wants_any c (me * 9) (R.t me) _ ?_).mono ?_; (refine RuleAt.task (b := b) ?_ hme; repeat (first | with_reducible exact HR.out | with_reducible refine RuleAt.drewN ?_ _ | with_reducible refine RuleAt.alloc ?_ _)); rintro e w' ⟨rfl, rfl⟩)
      | (go_at_call 36; refine (present_any c (me * 9) (R.t me) _ ?_).mono ?_; (refine RuleAt.task (b := b) ?_ hme; repeat (first | with_reducible exact HR.out | with_reducible refine RuleAt.drewN ?_ _ | with_reducible refine RuleAt.alloc ?_ _)); rintro e w' ⟨rfl, rfl⟩)
      | (go_at_call 40; refine (wantsWrite_any c (me * 9) (R.t me) _ ?_).mono ?_; (refine RuleAt.task (b := b) ?_ hme; repeat (first | with_reducible exact HR.out | with_reducible refine RuleAt.drewN ?_ _ | with_reducible refine RuleAt.alloc ?_ _)); rintro e w' ⟨rfl, rfl⟩)
      | (go_at_call 41; refine (writes_any c (me * 9) (R.t me) _ ?_).mono ?_; (refine RuleAt.task (b := b) ?_ hme; repeat (first | with_reducible exact HR.out | with_reducible refine RuleAt.drewN ?_ _ | with_reducible refine RuleAt.alloc ?_ _)); rintro e w' ⟨rfl, rfl⟩)
      | (go_at_call 46; refine (wantsRead_any c (me * 9) (R.t me) _ ?_).mono ?_; (refine RuleAt.task (b := b) ?_ hme; repeat (first | with_reducible exact HR.out | with_reducible refine RuleAt.drewN ?_ _ | with_reducible refine RuleAt.alloc ?_ _)); rintro e w' ⟨rfl, rfl⟩)
      | (go_at_call 60; refine (early_any b c me R _ ?_ hme).mono ?_; (repeat (first | with_reducible exact HR.out | with_reducible refine RuleAt.drewN ?_ _ | with_reducible refine RuleAt.alloc ?_ _)); rintro e w' ⟨rfl, hbe⟩; simp only [go_sem] at hbe))
    all_goals
      go_ret
      refine ⟨?_, ?_⟩
      · first | (simp [Rul.writerB, HK.out, *]; done) | (simp [Rul.writerB, HK.out, *]; intro _; omega)
      · repeat (first | with_reducible exact Below.refl _ _ | with_reducible refine Below.trans ?_ (by with_reducible assumption) | with_reducible refine below_drewN ?_ _ | with_reducible refine Below.drew ?_ | with_reducible refine Below.alloc ?_ (by simp [go_sem] <;> omega) _)

def Rul.refusalB (R : Rul) (me : Nat) : Bool :=
  if ((R.t me).op == 5) = true then
    if R.kind = 1 ∨ R.kind = 4 then R.others me (fun t => t.hold == 2) || R.others me (fun t => t.req != 0)
    else if R.kind = 2 ∨ R.kind = 3 then R.others me (fun t => decide (0 < t.presence))
    else if R.kind = 5 then R.others me (fun t => t.hold == 2)
    else R.others me (fun t => t.hold == 2) || R.others me (fun t => t.req == 2)
  else if R.others me (fun t => t.hold != 0) then true
  else if R.kind = 5 then R.others me (fun t => t.req == 1)
  else if R.kind = 6 then R.others me (fun t => t.req == 2)
  else R.others me (fun t => t.req != 0) || R.others me (fun t => t.leaving)

set_option maxHeartbeats 4000000 in
theorem refusal_any (b c me : Nat) (R : Rul) (w : World) (hR : RuleAt w b c R) (hme : me < R.l.length) (hk : IsKind R.kind) :
    Calls Try.prog 49 #[.pointer (some ⟨b, 0, none⟩), .pointer (some ⟨c, me * 9, none⟩)] w fun e w' => e = .returned (.bool (R.refusalB me)) ∧ Below w.heap.size w w' := by
  have hb := hR.head.lt
  have hc := hR.body.lt
  obtain ⟨k0, _, _, _⟩ := hR.heads
  obtain ⟨t0, _, _, _, _, _, _, _, _⟩ := hR.task hme
  have HR := Lib.hid hR; clear hR
  rcases hk with hk | hk | hk | hk | hk | hk
  all_goals have HK := Lib.hid hk
  all_goals rw [hk] at k0; clear hk
  · cases hop : ((R.t me).op == 5)
    all_goals
      go_enter Try.func49, Try.ntmps49
      go_wp2_with (first
        | (go_at_call 42; ((with_reducible refine (o_wants (b := b) (c := c) (me := me) (R := R) ?_ hme).mono ?_); (repeat (first | with_reducible exact HR.out | with_reducible refine RuleAt.drewN ?_ _ | with_reducible refine RuleAt.alloc ?_ _)); rintro e w' ⟨rfl, n, rfl⟩))
        | (go_at_call 42; ((with_reducible refine (o_present (b := b) (c := c) (me := me) (R := R) ?_ hme).mono ?_); (repeat (first | with_reducible exact HR.out | with_reducible refine RuleAt.drewN ?_ _ | with_reducible refine RuleAt.alloc ?_ _)); rintro e w' ⟨rfl, n, rfl⟩))
        | (go_at_call 42; ((with_reducible refine (o_wantsWrite (b := b) (c := c) (me := me) (R := R) ?_ hme).mono ?_); (repeat (first | with_reducible exact HR.out | with_reducible refine RuleAt.drewN ?_ _ | with_reducible refine RuleAt.alloc ?_ _)); rintro e w' ⟨rfl, n, rfl⟩))
        | (go_at_call 42; ((with_reducible refine (o_writes (b := b) (c := c) (me := me) (R := R) ?_ hme).mono ?_); (repeat (first | with_reducible exact HR.out | with_reducible refine RuleAt.drewN ?_ _ | with_reducible refine RuleAt.alloc ?_ _)); rintro e w' ⟨rfl, n, rfl⟩))
        | (go_at_call 42; ((with_reducible refine (o_come (b := b) (c := c) (me := me) (R := R) ?_ hme).mono ?_); (repeat (first | with_reducible exact HR.out | with_reducible refine RuleAt.drewN ?_ _ | with_reducible refine RuleAt.alloc ?_ _)); rintro e w' ⟨rfl, n, rfl⟩))
        | (go_at_call 42; ((with_reducible refine (o_wantsRead (b := b) (c := c) (me := me) (R := R) ?_ hme).mono ?_); (repeat (first | with_reducible exact HR.out | with_reducible refine RuleAt.drewN ?_ _ | with_reducible refine RuleAt.alloc ?_ _)); rintro e w' ⟨rfl, n, rfl⟩))
        | (go_at_call 42; ((with_reducible refine (o_holds (b := b) (c := c) (me := me) (R := R) ?_ hme).mono ?_); (repeat (first | with_reducible exact HR.out | with_reducible refine RuleAt.drewN ?_ _ | with_reducible refine RuleAt.alloc ?_ _)); rintro e w' ⟨rfl, n, rfl⟩))
        | (go_at_call 42; ((with_reducible refine (o_leaves (b := b) (c := c) (me := me) (R := R) ?_ hme).mono ?_); (repeat (first | with_reducible exact HR.out | with_reducible refine RuleAt.drewN ?_ _ | with_reducible refine RuleAt.alloc ?_ _)); rintro e w' ⟨rfl, n, rfl⟩))
        | (go_at_call 42; ((with_reducible refine (o_before (b := b) (c := c) (me := me) (R := R) ?_ hme _ _ 0 ?_ ?_).mono ?_); (repeat (first | with_reducible exact HR.out | with_reducible refine RuleAt.drewN ?_ _ | with_reducible refine RuleAt.alloc ?_ _)); (simp [go_sem, cell_new_drewN]); (simp [go_sem, cell_new_drewN]); rintro e w' ⟨rfl, n, rfl⟩))
        | (go_at_call 44; refine (before_any _ _ _).mono ?_; rintro e w' ⟨rfl, rfl⟩)
        | (go_at_call 33; refine (wants_any c (me * 9) (R.t me) _ ?_).mono ?_; (refine RuleAt.task (b := b) ?_ hme; repeat (first | with_reducible exact HR.out | with_reducible refine RuleAt.drewN ?_ _ | with_reducible refine RuleAt.alloc ?_ _)); rintro e w' ⟨rfl, rfl⟩)
        | (go_at_call 36; refine (present_any c (me * 9) (R.t me) _ ?_).mono ?_; (refine RuleAt.task (b := b) ?_ hme; repeat (first | with_reducible exact HR.out | with_reducible refine RuleAt.drewN ?_ _ | with_reducible refine RuleAt.alloc ?_ _)); rintro e w' ⟨rfl, rfl⟩)
        | (go_at_call 40; refine (wantsWrite_any c (me * 9) (R.t me) _ ?_).mono ?_; (refine RuleAt.task (b := b) ?_ hme; repeat (first | with_reducible exact HR.out | with_reducible refine RuleAt.drewN ?_ _ | with_reducible refine RuleAt.alloc ?_ _)); rintro e w' ⟨rfl, rfl⟩)
        | (go_at_call 41; refine (writes_any c (me * 9) (R.t me) _ ?_).mono ?_; (refine RuleAt.task (b := b) ?_ hme; repeat (first | with_reducible exact HR.out | with_reducible refine RuleAt.drewN ?_ _ | with_reducible refine RuleAt.alloc ?_ _)); rintro e w' ⟨rfl, rfl⟩)
        | (go_at_call 46; refine (wantsRead_any c (me * 9) (R.t me) _ ?_).mono ?_; (refine RuleAt.task (b := b) ?_ hme; repeat (first | with_reducible exact HR.out | with_reducible refine RuleAt.drewN ?_ _ | with_reducible refine RuleAt.alloc ?_ _)); rintro e w' ⟨rfl, rfl⟩)
        | (go_at_call 60; refine (early_any b c me R _ ?_ hme).mono ?_; (repeat (first | with_reducible exact HR.out | with_reducible refine RuleAt.drewN ?_ _ | with_reducible refine RuleAt.alloc ?_ _)); rintro e w' ⟨rfl, hbe⟩; simp only [go_sem] at hbe))
      all_goals
        go_ret
        refine ⟨?_, ?_⟩
        · first | (simp [Rul.refusalB, HK.out, *]; done) | (simp [Rul.refusalB, HK.out, *]; intro _; omega)
        · repeat (first | with_reducible exact Below.refl _ _ | with_reducible refine Below.trans ?_ (by with_reducible assumption) | with_reducible refine below_drewN ?_ _ | with_reducible refine Below.drew ?_ | with_reducible refine Below.alloc ?_ (by simp [go_sem] <;> omega) _)
  · cases hop : ((R.t me).op == 5)
    all_goals
      go_enter Try.func49, Try.ntmps49
      go_wp2_with (first
        | (go_at_call 42; ((with_reducible refine (o_wants (b := b) (c := c) (me := me) (R := R) ?_ hme).mono ?_); (repeat (first | with_reducible exact HR.out | with_reducible refine RuleAt.drewN ?_ _ | with_reducible refine RuleAt.alloc ?_ _)); rintro e w' ⟨rfl, n, rfl⟩))
        | (go_at_call 42; ((with_reducible refine (o_present (b := b) (c := c) (me := me) (R := R) ?_ hme).mono ?_); (repeat (first | with_reducible exact HR.out | with_reducible refine RuleAt.drewN ?_ _ | with_reducible refine RuleAt.alloc ?_ _)); rintro e w' ⟨rfl, n, rfl⟩))
        | (go_at_call 42; ((with_reducible refine (o_wantsWrite (b := b) (c := c) (me := me) (R := R) ?_ hme).mono ?_); (repeat (first | with_reducible exact HR.out | with_reducible refine RuleAt.drewN ?_ _ | with_reducible refine RuleAt.alloc ?_ _)); rintro e w' ⟨rfl, n, rfl⟩))
        | (go_at_call 42; ((with_reducible refine (o_writes (b := b) (c := c) (me := me) (R := R) ?_ hme).mono ?_); (repeat (first | with_reducible exact HR.out | with_reducible refine RuleAt.drewN ?_ _ | with_reducible refine RuleAt.alloc ?_ _)); rintro e w' ⟨rfl, n, rfl⟩))
        | (go_at_call 42; ((with_reducible refine (o_come (b := b) (c := c) (me := me) (R := R) ?_ hme).mono ?_); (repeat (first | with_reducible exact HR.out | with_reducible refine RuleAt.drewN ?_ _ | with_reducible refine RuleAt.alloc ?_ _)); rintro e w' ⟨rfl, n, rfl⟩))
        | (go_at_call 42; ((with_reducible refine (o_wantsRead (b := b) (c := c) (me := me) (R := R) ?_ hme).mono ?_); (repeat (first | with_reducible exact HR.out | with_reducible refine RuleAt.drewN ?_ _ | with_reducible refine RuleAt.alloc ?_ _)); rintro e w' ⟨rfl, n, rfl⟩))
        | (go_at_call 42; ((with_reducible refine (o_holds (b := b) (c := c) (me := me) (R := R) ?_ hme).mono ?_); (repeat (first | with_reducible exact HR.out | with_reducible refine RuleAt.drewN ?_ _ | with_reducible refine RuleAt.alloc ?_ _)); rintro e w' ⟨rfl, n, rfl⟩))
        | (go_at_call 42; ((with_reducible refine (o_leaves (b := b) (c := c) (me := me) (R := R) ?_ hme).mono ?_); (repeat (first | with_reducible exact HR.out | with_reducible refine RuleAt.drewN ?_ _ | with_reducible refine RuleAt.alloc ?_ _)); rintro e w' ⟨rfl, n, rfl⟩))
        | (go_at_call 42; ((with_reducible refine (o_before (b := b) (c := c) (me := me) (R := R) ?_ hme _ _ 0 ?_ ?_).mono ?_); (repeat (first | with_reducible exact HR.out | with_reducible refine RuleAt.drewN ?_ _ | with_reducible refine RuleAt.alloc ?_ _)); (simp [go_sem, cell_new_drewN]); (simp [go_sem, cell_new_drewN]); rintro e w' ⟨rfl, n, rfl⟩))
        | (go_at_call 44; refine (before_any _ _ _).mono ?_; rintro e w' ⟨rfl, rfl⟩)
        | (go_at_call 33; refine (wants_any c (me * 9) (R.t me) _ ?_).mono ?_; (refine RuleAt.task (b := b) ?_ hme; repeat (first | with_reducible exact HR.out | with_reducible refine RuleAt.drewN ?_ _ | with_reducible refine RuleAt.alloc ?_ _)); rintro e w' ⟨rfl, rfl⟩)
        | (go_at_call 36; refine (present_any c (me * 9) (R.t me) _ ?_).mono ?_; (refine RuleAt.task (b := b) ?_ hme; repeat (first | with_reducible exact HR.out | with_reducible refine RuleAt.drewN ?_ _ | with_reducible refine RuleAt.alloc ?_ _)); rintro e w' ⟨rfl, rfl⟩)
        | (go_at_call 40; refine (wantsWrite_any c (me * 9) (R.t me) _ ?_).mono ?_; (refine RuleAt.task (b := b) ?_ hme; repeat (first | with_reducible exact HR.out | with_reducible refine RuleAt.drewN ?_ _ | with_reducible refine RuleAt.alloc ?_ _)); rintro e w' ⟨rfl, rfl⟩)
        | (go_at_call 41; refine (writes_any c (me * 9) (R.t me) _ ?_).mono ?_; (refine RuleAt.task (b := b) ?_ hme; repeat (first | with_reducible exact HR.out | with_reducible refine RuleAt.drewN ?_ _ | with_reducible refine RuleAt.alloc ?_ _)); rintro e w' ⟨rfl, rfl⟩)
        | (go_at_call 46; refine (wantsRead_any c (me * 9) (R.t me) _ ?_).mono ?_; (refine RuleAt.task (b := b) ?_ hme; repeat (first | with_reducible exact HR.out | with_reducible refine RuleAt.drewN ?_ _ | with_reducible refine RuleAt.alloc ?_ _)); rintro e w' ⟨rfl, rfl⟩)
        | (go_at_call 60; refine (early_any b c me R _ ?_ hme).mono ?_; (repeat (first | with_reducible exact HR.out | with_reducible refine RuleAt.drewN ?_ _ | with_reducible refine RuleAt.alloc ?_ _)); rintro e w' ⟨rfl, hbe⟩; simp only [go_sem] at hbe))
      all_goals
        go_ret
        refine ⟨?_, ?_⟩
        · first | (simp [Rul.refusalB, HK.out, *]; done) | (simp [Rul.refusalB, HK.out, *]; intro _; omega)
        · repeat (first | with_reducible exact Below.refl _ _ | with_reducible refine Below.trans ?_ (by with_reducible assumption) | with_reducible refine below_drewN ?_ _ | with_reducible refine Below.drew ?_ | with_reducible refine Below.alloc ?_ (by simp [go_sem] <;> omega) _)
  · cases hop : ((R.t me).op == 5)
    all_goals
      go_enter Try.func49, Try.ntmps49
      go_wp2_with (first
        | (go_at_call 42; ((with_reducible refine (o_wants (b := b) (c := c) (me := me) (R := R) ?_ hme).mono ?_); (repeat (first | with_reducible exact HR.out | with_reducible refine RuleAt.drewN ?_ _ | with_reducible refine RuleAt.alloc ?_ _)); rintro e w' ⟨rfl, n, rfl⟩))
        | (go_at_call 42; ((with_reducible refine (o_present (b := b) (c := c) (me := me) (R := R) ?_ hme).mono ?_); (repeat (first | with_reducible exact HR.out | with_reducible refine RuleAt.drewN ?_ _ | with_reducible refine RuleAt.alloc ?_ _)); rintro e w' ⟨rfl, n, rfl⟩))
        | (go_at_call 42; ((with_reducible refine (o_wantsWrite (b := b) (c := c) (me := me) (R := R) ?_ hme).mono ?_); (repeat (first | with_reducible exact HR.out | with_reducible refine RuleAt.drewN ?_ _ | with_reducible refine RuleAt.alloc ?_ _)); rintro e w' ⟨rfl, n, rfl⟩))
        | (go_at_call 42; ((with_reducible refine (o_writes (b := b) (c := c) (me := me) (R := R) ?_ hme).mono ?_); (repeat (first | with_reducible exact HR.out | with_reducible refine RuleAt.drewN ?_ _ | with_reducible refine RuleAt.alloc ?_ _)); rintro e w' ⟨rfl, n, rfl⟩))
        | (go_at_call 42; ((with_reducible refine (o_come (b := b) (c := c) (me := me) (R := R) ?_ hme).mono ?_); (repeat (first | with_reducible exact HR.out | with_reducible refine RuleAt.drewN ?_ _ | with_reducible refine RuleAt.alloc ?_ _)); rintro e w' ⟨rfl, n, rfl⟩))
        | (go_at_call 42; ((with_reducible refine (o_wantsRead (b := b) (c := c) (me := me) (R := R) ?_ hme).mono ?_); (repeat (first | with_reducible exact HR.out | with_reducible refine RuleAt.drewN ?_ _ | with_reducible refine RuleAt.alloc ?_ _)); rintro e w' ⟨rfl, n, rfl⟩))
        | (go_at_call 42; ((with_reducible refine (o_holds (b := b) (c := c) (me := me) (R := R) ?_ hme).mono ?_); (repeat (first | with_reducible exact HR.out | with_reducible refine RuleAt.drewN ?_ _ | with_reducible refine RuleAt.alloc ?_ _)); rintro e w' ⟨rfl, n, rfl⟩))
        | (go_at_call 42; ((with_reducible refine (o_leaves (b := b) (c := c) (me := me) (R := R) ?_ hme).mono ?_); (repeat (first | with_reducible exact HR.out | with_reducible refine RuleAt.drewN ?_ _ | with_reducible refine RuleAt.alloc ?_ _)); rintro e w' ⟨rfl, n, rfl⟩))
        | (go_at_call 42; ((with_reducible refine (o_before (b := b) (c := c) (me := me) (R := R) ?_ hme _ _ 0 ?_ ?_).mono ?_); (repeat (first | with_reducible exact HR.out | with_reducible refine RuleAt.drewN ?_ _ | with_reducible refine RuleAt.alloc ?_ _)); (simp [go_sem, cell_new_drewN]); (simp [go_sem, cell_new_drewN]); rintro e w' ⟨rfl, n, rfl⟩))
        | (go_at_call 44; refine (before_any _ _ _).mono ?_; rintro e w' ⟨rfl, rfl⟩)
        | (go_at_call 33; refine (wants_any c (me * 9) (R.t me) _ ?_).mono ?_; (refine RuleAt.task (b := b) ?_ hme; repeat (first | with_reducible exact HR.out | with_reducible refine RuleAt.drewN ?_ _ | with_reducible refine RuleAt.alloc ?_ _)); rintro e w' ⟨rfl, rfl⟩)
        | (go_at_call 36; refine (present_any c (me * 9) (R.t me) _ ?_).mono ?_; (refine RuleAt.task (b := b) ?_ hme; repeat (first | with_reducible exact HR.out | with_reducible refine RuleAt.drewN ?_ _ | with_reducible refine RuleAt.alloc ?_ _)); rintro e w' ⟨rfl, rfl⟩)
        | (go_at_call 40; refine (wantsWrite_any c (me * 9) (R.t me) _ ?_).mono ?_; (refine RuleAt.task (b := b) ?_ hme; repeat (first | with_reducible exact HR.out | with_reducible refine RuleAt.drewN ?_ _ | with_reducible refine RuleAt.alloc ?_ _)); rintro e w' ⟨rfl, rfl⟩)
        | (go_at_call 41; refine (writes_any c (me * 9) (R.t me) _ ?_).mono ?_; (refine RuleAt.task (b := b) ?_ hme; repeat (first | with_reducible exact HR.out | with_reducible refine RuleAt.drewN ?_ _ | with_reducible refine RuleAt.alloc ?_ _)); rintro e w' ⟨rfl, rfl⟩)
        | (go_at_call 46; refine (wantsRead_any c (me * 9) (R.t me) _ ?_).mono ?_; (refine RuleAt.task (b := b) ?_ hme; repeat (first | with_reducible exact HR.out | with_reducible refine RuleAt.drewN ?_ _ | with_reducible refine RuleAt.alloc ?_ _)); rintro e w' ⟨rfl, rfl⟩)
        | (go_at_call 60; refine (early_any b c me R _ ?_ hme).mono ?_; (repeat (first | with_reducible exact HR.out | with_reducible refine RuleAt.drewN ?_ _ | with_reducible refine RuleAt.alloc ?_ _)); rintro e w' ⟨rfl, hbe⟩; simp only [go_sem] at hbe))
      all_goals
        go_ret
        refine ⟨?_, ?_⟩
        · first | (simp [Rul.refusalB, HK.out, *]; done) | (simp [Rul.refusalB, HK.out, *]; intro _; omega)
        · repeat (first | with_reducible exact Below.refl _ _ | with_reducible refine Below.trans ?_ (by with_reducible assumption) | with_reducible refine below_drewN ?_ _ | with_reducible refine Below.drew ?_ | with_reducible refine Below.alloc ?_ (by simp [go_sem] <;> omega) _)
  · cases hop : ((R.t me).op == 5)
    all_goals
      go_enter Try.func49, Try.ntmps49
      go_wp2_with (first
        | (go_at_call 42; ((with_reducible refine (o_wants (b := b) (c := c) (me := me) (R := R) ?_ hme).mono ?_); (repeat (first | with_reducible exact HR.out | with_reducible refine RuleAt.drewN ?_ _ | with_reducible refine RuleAt.alloc ?_ _)); rintro e w' ⟨rfl, n, rfl⟩))
        | (go_at_call 42; ((with_reducible refine (o_present (b := b) (c := c) (me := me) (R := R) ?_ hme).mono ?_); (repeat (first | with_reducible exact HR.out | with_reducible refine RuleAt.drewN ?_ _ | with_reducible refine RuleAt.alloc ?_ _)); rintro e w' ⟨rfl, n, rfl⟩))
        | (go_at_call 42; ((with_reducible refine (o_wantsWrite (b := b) (c := c) (me := me) (R := R) ?_ hme).mono ?_); (repeat (first | with_reducible exact HR.out | with_reducible refine RuleAt.drewN ?_ _ | with_reducible refine RuleAt.alloc ?_ _)); rintro e w' ⟨rfl, n, rfl⟩))
        | (go_at_call 42; ((with_reducible refine (o_writes (b := b) (c := c) (me := me) (R := R) ?_ hme).mono ?_); (repeat (first | with_reducible exact HR.out | with_reducible refine RuleAt.drewN ?_ _ | with_reducible refine RuleAt.alloc ?_ _)); rintro e w' ⟨rfl, n, rfl⟩))
        | (go_at_call 42; ((with_reducible refine (o_come (b := b) (c := c) (me := me) (R := R) ?_ hme).mono ?_); (repeat (first | with_reducible exact HR.out | with_reducible refine RuleAt.drewN ?_ _ | with_reducible refine RuleAt.alloc ?_ _)); rintro e w' ⟨rfl, n, rfl⟩))
        | (go_at_call 42; ((with_reducible refine (o_wantsRead (b := b) (c := c) (me := me) (R := R) ?_ hme).mono ?_); (repeat (first | with_reducible exact HR.out | with_reducible refine RuleAt.drewN ?_ _ | with_reducible refine RuleAt.alloc ?_ _)); rintro e w' ⟨rfl, n, rfl⟩))
        | (go_at_call 42; ((with_reducible refine (o_holds (b := b) (c := c) (me := me) (R := R) ?_ hme).mono ?_); (repeat (first | with_reducible exact HR.out | with_reducible refine RuleAt.drewN ?_ _ | with_reducible refine RuleAt.alloc ?_ _)); rintro e w' ⟨rfl, n, rfl⟩))
        | (go_at_call 42; ((with_reducible refine (o_leaves (b := b) (c := c) (me := me) (R := R) ?_ hme).mono ?_); (repeat (first | with_reducible exact HR.out | with_reducible refine RuleAt.drewN ?_ _ | with_reducible refine RuleAt.alloc ?_ _)); rintro e w' ⟨rfl, n, rfl⟩))
        | (go_at_call 42; ((with_reducible refine (o_before (b := b) (c := c) (me := me) (R := R) ?_ hme _ _ 0 ?_ ?_).mono ?_); (repeat (first | with_reducible exact HR.out | with_reducible refine RuleAt.drewN ?_ _ | with_reducible refine RuleAt.alloc ?_ _)); (simp [go_sem, cell_new_drewN]); (simp [go_sem, cell_new_drewN]); rintro e w' ⟨rfl, n, rfl⟩))
        | (go_at_call 44; refine (before_any _ _ _).mono ?_; rintro e w' ⟨rfl, rfl⟩)
        | (go_at_call 33; refine (wants_any c (me * 9) (R.t me) _ ?_).mono ?_; (refine RuleAt.task (b := b) ?_ hme; repeat (first | with_reducible exact HR.out | with_reducible refine RuleAt.drewN ?_ _ | with_reducible refine RuleAt.alloc ?_ _)); rintro e w' ⟨rfl, rfl⟩)
        | (go_at_call 36; refine (present_any c (me * 9) (R.t me) _ ?_).mono ?_; (refine RuleAt.task (b := b) ?_ hme; repeat (first | with_reducible exact HR.out | with_reducible refine RuleAt.drewN ?_ _ | with_reducible refine RuleAt.alloc ?_ _)); rintro e w' ⟨rfl, rfl⟩)
        | (go_at_call 40; refine (wantsWrite_any c (me * 9) (R.t me) _ ?_).mono ?_; (refine RuleAt.task (b := b) ?_ hme; repeat (first | with_reducible exact HR.out | with_reducible refine RuleAt.drewN ?_ _ | with_reducible refine RuleAt.alloc ?_ _)); rintro e w' ⟨rfl, rfl⟩)
        | (go_at_call 41; refine (writes_any c (me * 9) (R.t me) _ ?_).mono ?_; (refine RuleAt.task (b := b) ?_ hme; repeat (first | with_reducible exact HR.out | with_reducible refine RuleAt.drewN ?_ _ | with_reducible refine RuleAt.alloc ?_ _)); rintro e w' ⟨rfl, rfl⟩)
        | (go_at_call 46; refine (wantsRead_any c (me * 9) (R.t me) _ ?_).mono ?_; (refine RuleAt.task (b := b) ?_ hme; repeat (first | with_reducible exact HR.out | with_reducible refine RuleAt.drewN ?_ _ | with_reducible refine RuleAt.alloc ?_ _)); rintro e w' ⟨rfl, rfl⟩)
        | (go_at_call 60; refine (early_any b c me R _ ?_ hme).mono ?_; (repeat (first | with_reducible exact HR.out | with_reducible refine RuleAt.drewN ?_ _ | with_reducible refine RuleAt.alloc ?_ _)); rintro e w' ⟨rfl, hbe⟩; simp only [go_sem] at hbe))
      all_goals
        go_ret
        refine ⟨?_, ?_⟩
        · first | (simp [Rul.refusalB, HK.out, *]; done) | (simp [Rul.refusalB, HK.out, *]; intro _; omega)
        · repeat (first | with_reducible exact Below.refl _ _ | with_reducible refine Below.trans ?_ (by with_reducible assumption) | with_reducible refine below_drewN ?_ _ | with_reducible refine Below.drew ?_ | with_reducible refine Below.alloc ?_ (by simp [go_sem] <;> omega) _)
  · cases hop : ((R.t me).op == 5)
    all_goals
      go_enter Try.func49, Try.ntmps49
      go_wp2_with (first
        | (go_at_call 42; ((with_reducible refine (o_wants (b := b) (c := c) (me := me) (R := R) ?_ hme).mono ?_); (repeat (first | with_reducible exact HR.out | with_reducible refine RuleAt.drewN ?_ _ | with_reducible refine RuleAt.alloc ?_ _)); rintro e w' ⟨rfl, n, rfl⟩))
        | (go_at_call 42; ((with_reducible refine (o_present (b := b) (c := c) (me := me) (R := R) ?_ hme).mono ?_); (repeat (first | with_reducible exact HR.out | with_reducible refine RuleAt.drewN ?_ _ | with_reducible refine RuleAt.alloc ?_ _)); rintro e w' ⟨rfl, n, rfl⟩))
        | (go_at_call 42; ((with_reducible refine (o_wantsWrite (b := b) (c := c) (me := me) (R := R) ?_ hme).mono ?_); (repeat (first | with_reducible exact HR.out | with_reducible refine RuleAt.drewN ?_ _ | with_reducible refine RuleAt.alloc ?_ _)); rintro e w' ⟨rfl, n, rfl⟩))
        | (go_at_call 42; ((with_reducible refine (o_writes (b := b) (c := c) (me := me) (R := R) ?_ hme).mono ?_); (repeat (first | with_reducible exact HR.out | with_reducible refine RuleAt.drewN ?_ _ | with_reducible refine RuleAt.alloc ?_ _)); rintro e w' ⟨rfl, n, rfl⟩))
        | (go_at_call 42; ((with_reducible refine (o_come (b := b) (c := c) (me := me) (R := R) ?_ hme).mono ?_); (repeat (first | with_reducible exact HR.out | with_reducible refine RuleAt.drewN ?_ _ | with_reducible refine RuleAt.alloc ?_ _)); rintro e w' ⟨rfl, n, rfl⟩))
        | (go_at_call 42; ((with_reducible refine (o_wantsRead (b := b) (c := c) (me := me) (R := R) ?_ hme).mono ?_); (repeat (first | with_reducible exact HR.out | with_reducible refine RuleAt.drewN ?_ _ | with_reducible refine RuleAt.alloc ?_ _)); rintro e w' ⟨rfl, n, rfl⟩))
        | (go_at_call 42; ((with_reducible refine (o_holds (b := b) (c := c) (me := me) (R := R) ?_ hme).mono ?_); (repeat (first | with_reducible exact HR.out | with_reducible refine RuleAt.drewN ?_ _ | with_reducible refine RuleAt.alloc ?_ _)); rintro e w' ⟨rfl, n, rfl⟩))
        | (go_at_call 42; ((with_reducible refine (o_leaves (b := b) (c := c) (me := me) (R := R) ?_ hme).mono ?_); (repeat (first | with_reducible exact HR.out | with_reducible refine RuleAt.drewN ?_ _ | with_reducible refine RuleAt.alloc ?_ _)); rintro e w' ⟨rfl, n, rfl⟩))
        | (go_at_call 42; ((with_reducible refine (o_before (b := b) (c := c) (me := me) (R := R) ?_ hme _ _ 0 ?_ ?_).mono ?_); (repeat (first | with_reducible exact HR.out | with_reducible refine RuleAt.drewN ?_ _ | with_reducible refine RuleAt.alloc ?_ _)); (simp [go_sem, cell_new_drewN]); (simp [go_sem, cell_new_drewN]); rintro e w' ⟨rfl, n, rfl⟩))
        | (go_at_call 44; refine (before_any _ _ _).mono ?_; rintro e w' ⟨rfl, rfl⟩)
        | (go_at_call 33; refine (wants_any c (me * 9) (R.t me) _ ?_).mono ?_; (refine RuleAt.task (b := b) ?_ hme; repeat (first | with_reducible exact HR.out | with_reducible refine RuleAt.drewN ?_ _ | with_reducible refine RuleAt.alloc ?_ _)); rintro e w' ⟨rfl, rfl⟩)
        | (go_at_call 36; refine (present_any c (me * 9) (R.t me) _ ?_).mono ?_; (refine RuleAt.task (b := b) ?_ hme; repeat (first | with_reducible exact HR.out | with_reducible refine RuleAt.drewN ?_ _ | with_reducible refine RuleAt.alloc ?_ _)); rintro e w' ⟨rfl, rfl⟩)
        | (go_at_call 40; refine (wantsWrite_any c (me * 9) (R.t me) _ ?_).mono ?_; (refine RuleAt.task (b := b) ?_ hme; repeat (first | with_reducible exact HR.out | with_reducible refine RuleAt.drewN ?_ _ | with_reducible refine RuleAt.alloc ?_ _)); rintro e w' ⟨rfl, rfl⟩)
        | (go_at_call 41; refine (writes_any c (me * 9) (R.t me) _ ?_).mono ?_; (refine RuleAt.task (b := b) ?_ hme; repeat (first | with_reducible exact HR.out | with_reducible refine RuleAt.drewN ?_ _ | with_reducible refine RuleAt.alloc ?_ _)); rintro e w' ⟨rfl, rfl⟩)
        | (go_at_call 46; refine (wantsRead_any c (me * 9) (R.t me) _ ?_).mono ?_; (refine RuleAt.task (b := b) ?_ hme; repeat (first | with_reducible exact HR.out | with_reducible refine RuleAt.drewN ?_ _ | with_reducible refine RuleAt.alloc ?_ _)); rintro e w' ⟨rfl, rfl⟩)
        | (go_at_call 60; refine (early_any b c me R _ ?_ hme).mono ?_; (repeat (first | with_reducible exact HR.out | with_reducible refine RuleAt.drewN ?_ _ | with_reducible refine RuleAt.alloc ?_ _)); rintro e w' ⟨rfl, hbe⟩; simp only [go_sem] at hbe))
      all_goals
        go_ret
        refine ⟨?_, ?_⟩
        · first | (simp [Rul.refusalB, HK.out, *]; done) | (simp [Rul.refusalB, HK.out, *]; intro _; omega)
        · repeat (first | with_reducible exact Below.refl _ _ | with_reducible refine Below.trans ?_ (by with_reducible assumption) | with_reducible refine below_drewN ?_ _ | with_reducible refine Below.drew ?_ | with_reducible refine Below.alloc ?_ (by simp [go_sem] <;> omega) _)
  · cases hop : ((R.t me).op == 5)
    all_goals
      go_enter Try.func49, Try.ntmps49
      go_wp2_with (first
        | (go_at_call 42; ((with_reducible refine (o_wants (b := b) (c := c) (me := me) (R := R) ?_ hme).mono ?_); (repeat (first | with_reducible exact HR.out | with_reducible refine RuleAt.drewN ?_ _ | with_reducible refine RuleAt.alloc ?_ _)); rintro e w' ⟨rfl, n, rfl⟩))
        | (go_at_call 42; ((with_reducible refine (o_present (b := b) (c := c) (me := me) (R := R) ?_ hme).mono ?_); (repeat (first | with_reducible exact HR.out | with_reducible refine RuleAt.drewN ?_ _ | with_reducible refine RuleAt.alloc ?_ _)); rintro e w' ⟨rfl, n, rfl⟩))
        | (go_at_call 42; ((with_reducible refine (o_wantsWrite (b := b) (c := c) (me := me) (R := R) ?_ hme).mono ?_); (repeat (first | with_reducible exact HR.out | with_reducible refine RuleAt.drewN ?_ _ | with_reducible refine RuleAt.alloc ?_ _)); rintro e w' ⟨rfl, n, rfl⟩))
        | (go_at_call 42; ((with_reducible refine (o_writes (b := b) (c := c) (me := me) (R := R) ?_ hme).mono ?_); (repeat (first | with_reducible exact HR.out | with_reducible refine RuleAt.drewN ?_ _ | with_reducible refine RuleAt.alloc ?_ _)); rintro e w' ⟨rfl, n, rfl⟩))
        | (go_at_call 42; ((with_reducible refine (o_come (b := b) (c := c) (me := me) (R := R) ?_ hme).mono ?_); (repeat (first | with_reducible exact HR.out | with_reducible refine RuleAt.drewN ?_ _ | with_reducible refine RuleAt.alloc ?_ _)); rintro e w' ⟨rfl, n, rfl⟩))
        | (go_at_call 42; ((with_reducible refine (o_wantsRead (b := b) (c := c) (me := me) (R := R) ?_ hme).mono ?_); (repeat (first | with_reducible exact HR.out | with_reducible refine RuleAt.drewN ?_ _ | with_reducible refine RuleAt.alloc ?_ _)); rintro e w' ⟨rfl, n, rfl⟩))
        | (go_at_call 42; ((with_reducible refine (o_holds (b := b) (c := c) (me := me) (R := R) ?_ hme).mono ?_); (repeat (first | with_reducible exact HR.out | with_reducible refine RuleAt.drewN ?_ _ | with_reducible refine RuleAt.alloc ?_ _)); rintro e w' ⟨rfl, n, rfl⟩))
        | (go_at_call 42; ((with_reducible refine (o_leaves (b := b) (c := c) (me := me) (R := R) ?_ hme).mono ?_); (repeat (first | with_reducible exact HR.out | with_reducible refine RuleAt.drewN ?_ _ | with_reducible refine RuleAt.alloc ?_ _)); rintro e w' ⟨rfl, n, rfl⟩))
        | (go_at_call 42; ((with_reducible refine (o_before (b := b) (c := c) (me := me) (R := R) ?_ hme _ _ 0 ?_ ?_).mono ?_); (repeat (first | with_reducible exact HR.out | with_reducible refine RuleAt.drewN ?_ _ | with_reducible refine RuleAt.alloc ?_ _)); (simp [go_sem, cell_new_drewN]); (simp [go_sem, cell_new_drewN]); rintro e w' ⟨rfl, n, rfl⟩))
        | (go_at_call 44; refine (before_any _ _ _).mono ?_; rintro e w' ⟨rfl, rfl⟩)
        | (go_at_call 33; refine (wants_any c (me * 9) (R.t me) _ ?_).mono ?_; (refine RuleAt.task (b := b) ?_ hme; repeat (first | with_reducible exact HR.out | with_reducible refine RuleAt.drewN ?_ _ | with_reducible refine RuleAt.alloc ?_ _)); rintro e w' ⟨rfl, rfl⟩)
        | (go_at_call 36; refine (present_any c (me * 9) (R.t me) _ ?_).mono ?_; (refine RuleAt.task (b := b) ?_ hme; repeat (first | with_reducible exact HR.out | with_reducible refine RuleAt.drewN ?_ _ | with_reducible refine RuleAt.alloc ?_ _)); rintro e w' ⟨rfl, rfl⟩)
        | (go_at_call 40; refine (wantsWrite_any c (me * 9) (R.t me) _ ?_).mono ?_; (refine RuleAt.task (b := b) ?_ hme; repeat (first | with_reducible exact HR.out | with_reducible refine RuleAt.drewN ?_ _ | with_reducible refine RuleAt.alloc ?_ _)); rintro e w' ⟨rfl, rfl⟩)
        | (go_at_call 41; refine (writes_any c (me * 9) (R.t me) _ ?_).mono ?_; (refine RuleAt.task (b := b) ?_ hme; repeat (first | with_reducible exact HR.out | with_reducible refine RuleAt.drewN ?_ _ | with_reducible refine RuleAt.alloc ?_ _)); rintro e w' ⟨rfl, rfl⟩)
        | (go_at_call 46; refine (wantsRead_any c (me * 9) (R.t me) _ ?_).mono ?_; (refine RuleAt.task (b := b) ?_ hme; repeat (first | with_reducible exact HR.out | with_reducible refine RuleAt.drewN ?_ _ | with_reducible refine RuleAt.alloc ?_ _)); rintro e w' ⟨rfl, rfl⟩)
        | (go_at_call 60; refine (early_any b c me R _ ?_ hme).mono ?_; (repeat (first | with_reducible exact HR.out | with_reducible refine RuleAt.drewN ?_ _ | with_reducible refine RuleAt.alloc ?_ _)); rintro e w' ⟨rfl, hbe⟩; simp only [go_sem] at hbe))
      all_goals
        go_ret
        refine ⟨?_, ?_⟩
        · first | (simp [Rul.refusalB, HK.out, *]; done) | (simp [Rul.refusalB, HK.out, *]; intro _; omega)
        · repeat (first | with_reducible exact Below.refl _ _ | with_reducible refine Below.trans ?_ (by with_reducible assumption) | with_reducible refine below_drewN ?_ _ | with_reducible refine Below.drew ?_ | with_reducible refine Below.alloc ?_ (by simp [go_sem] <;> omega) _)

def Rul.ascentB (R : Rul) (me : Nat) : Bool :=
  if ((R.t me).hold != 1) = true then false
  else if R.others me (fun t => t.hold != 0) then false
  else if R.kind = 1 then !((R.t me).req != 0) && !R.others me (fun t => t.req != 0) && !R.others me (fun t => t.leaving)
  else if R.kind = 4 then ((R.t me).req == 2) && !R.others me (beforeB 0 (R.t me))
  else if R.kind = 2 ∨ R.kind = 3 then ((R.t me).req == 2) && decide (0 < (R.t me).presence) && !R.others me (earlyB (R.t me))
  else if R.kind = 5 then !((R.t me).req != 0) && !R.others me (fun t => t.req == 1)
  else !((R.t me).req == 2) && !R.others me (fun t => t.req == 2)

set_option maxHeartbeats 4000000 in
theorem ascent_any (b c me : Nat) (R : Rul) (w : World) (hR : RuleAt w b c R) (hme : me < R.l.length) (hk : IsKind R.kind) :
    Calls Try.prog 50 #[.pointer (some ⟨b, 0, none⟩), .pointer (some ⟨c, me * 9, none⟩)] w fun e w' => e = .returned (.bool (R.ascentB me)) ∧ Below w.heap.size w w' := by
  have hb := hR.head.lt
  have hc := hR.body.lt
  obtain ⟨k0, _, _, _⟩ := hR.heads
  obtain ⟨_, t1, _, _, _, _, _, _, _⟩ := hR.task hme
  have HR := Lib.hid hR; clear hR
  rcases hk with hk | hk | hk | hk | hk | hk
  all_goals have HK := Lib.hid hk
  all_goals rw [hk] at k0; clear hk
  · cases hop : ((R.t me).hold != 1)
    all_goals
      go_enter Try.func50, Try.ntmps50
      go_wp2_with (first
        | (go_at_call 42; ((with_reducible refine (o_wants (b := b) (c := c) (me := me) (R := R) ?_ hme).mono ?_); (repeat (first | with_reducible exact HR.out | with_reducible refine RuleAt.drewN ?_ _ | with_reducible refine RuleAt.alloc ?_ _)); rintro e w' ⟨rfl, n, rfl⟩))
        | (go_at_call 42; ((with_reducible refine (o_present (b := b) (c := c) (me := me) (R := R) ?_ hme).mono ?_); (repeat (first | with_reducible exact HR.out | with_reducible refine RuleAt.drewN ?_ _ | with_reducible refine RuleAt.alloc ?_ _)); rintro e w' ⟨rfl, n, rfl⟩))
        | (go_at_call 42; ((with_reducible refine (o_wantsWrite (b := b) (c := c) (me := me) (R := R) ?_ hme).mono ?_); (repeat (first | with_reducible exact HR.out | with_reducible refine RuleAt.drewN ?_ _ | with_reducible refine RuleAt.alloc ?_ _)); rintro e w' ⟨rfl, n, rfl⟩))
        | (go_at_call 42; ((with_reducible refine (o_writes (b := b) (c := c) (me := me) (R := R) ?_ hme).mono ?_); (repeat (first | with_reducible exact HR.out | with_reducible refine RuleAt.drewN ?_ _ | with_reducible refine RuleAt.alloc ?_ _)); rintro e w' ⟨rfl, n, rfl⟩))
        | (go_at_call 42; ((with_reducible refine (o_come (b := b) (c := c) (me := me) (R := R) ?_ hme).mono ?_); (repeat (first | with_reducible exact HR.out | with_reducible refine RuleAt.drewN ?_ _ | with_reducible refine RuleAt.alloc ?_ _)); rintro e w' ⟨rfl, n, rfl⟩))
        | (go_at_call 42; ((with_reducible refine (o_wantsRead (b := b) (c := c) (me := me) (R := R) ?_ hme).mono ?_); (repeat (first | with_reducible exact HR.out | with_reducible refine RuleAt.drewN ?_ _ | with_reducible refine RuleAt.alloc ?_ _)); rintro e w' ⟨rfl, n, rfl⟩))
        | (go_at_call 42; ((with_reducible refine (o_holds (b := b) (c := c) (me := me) (R := R) ?_ hme).mono ?_); (repeat (first | with_reducible exact HR.out | with_reducible refine RuleAt.drewN ?_ _ | with_reducible refine RuleAt.alloc ?_ _)); rintro e w' ⟨rfl, n, rfl⟩))
        | (go_at_call 42; ((with_reducible refine (o_leaves (b := b) (c := c) (me := me) (R := R) ?_ hme).mono ?_); (repeat (first | with_reducible exact HR.out | with_reducible refine RuleAt.drewN ?_ _ | with_reducible refine RuleAt.alloc ?_ _)); rintro e w' ⟨rfl, n, rfl⟩))
        | (go_at_call 42; ((with_reducible refine (o_before (b := b) (c := c) (me := me) (R := R) ?_ hme _ _ 0 ?_ ?_).mono ?_); (repeat (first | with_reducible exact HR.out | with_reducible refine RuleAt.drewN ?_ _ | with_reducible refine RuleAt.alloc ?_ _)); (simp [go_sem, cell_new_drewN]); (simp [go_sem, cell_new_drewN]); rintro e w' ⟨rfl, n, rfl⟩))
        | (go_at_call 44; refine (before_any _ _ _).mono ?_; rintro e w' ⟨rfl, rfl⟩)
        | (go_at_call 33; refine (wants_any c (me * 9) (R.t me) _ ?_).mono ?_; (refine RuleAt.task (b := b) ?_ hme; repeat (first | with_reducible exact HR.out | with_reducible refine RuleAt.drewN ?_ _ | with_reducible refine RuleAt.alloc ?_ _)); rintro e w' ⟨rfl, rfl⟩)
        | (go_at_call 36; refine (present_any c (me * 9) (R.t me) _ ?_).mono ?_; (refine RuleAt.task (b := b) ?_ hme; repeat (first | with_reducible exact HR.out | with_reducible refine RuleAt.drewN ?_ _ | with_reducible refine RuleAt.alloc ?_ _)); rintro e w' ⟨rfl, rfl⟩)
        | (go_at_call 40; refine (wantsWrite_any c (me * 9) (R.t me) _ ?_).mono ?_; (refine RuleAt.task (b := b) ?_ hme; repeat (first | with_reducible exact HR.out | with_reducible refine RuleAt.drewN ?_ _ | with_reducible refine RuleAt.alloc ?_ _)); rintro e w' ⟨rfl, rfl⟩)
        | (go_at_call 41; refine (writes_any c (me * 9) (R.t me) _ ?_).mono ?_; (refine RuleAt.task (b := b) ?_ hme; repeat (first | with_reducible exact HR.out | with_reducible refine RuleAt.drewN ?_ _ | with_reducible refine RuleAt.alloc ?_ _)); rintro e w' ⟨rfl, rfl⟩)
        | (go_at_call 46; refine (wantsRead_any c (me * 9) (R.t me) _ ?_).mono ?_; (refine RuleAt.task (b := b) ?_ hme; repeat (first | with_reducible exact HR.out | with_reducible refine RuleAt.drewN ?_ _ | with_reducible refine RuleAt.alloc ?_ _)); rintro e w' ⟨rfl, rfl⟩)
        | (go_at_call 60; refine (early_any b c me R _ ?_ hme).mono ?_; (repeat (first | with_reducible exact HR.out | with_reducible refine RuleAt.drewN ?_ _ | with_reducible refine RuleAt.alloc ?_ _)); rintro e w' ⟨rfl, hbe⟩; simp only [go_sem] at hbe))
      all_goals
        go_ret
        refine ⟨?_, ?_⟩
        · first | (simp [Rul.ascentB, HK.out, *]; done) | (simp [Rul.ascentB, HK.out, *]; intro _; omega)
        · repeat (first | with_reducible exact Below.refl _ _ | with_reducible refine Below.trans ?_ (by with_reducible assumption) | with_reducible refine below_drewN ?_ _ | with_reducible refine Below.drew ?_ | with_reducible refine Below.alloc ?_ (by simp [go_sem] <;> omega) _)
  · cases hop : ((R.t me).hold != 1)
    all_goals
      go_enter Try.func50, Try.ntmps50
      go_wp2_with (first
        | (go_at_call 42; ((with_reducible refine (o_wants (b := b) (c := c) (me := me) (R := R) ?_ hme).mono ?_); (repeat (first | with_reducible exact HR.out | with_reducible refine RuleAt.drewN ?_ _ | with_reducible refine RuleAt.alloc ?_ _)); rintro e w' ⟨rfl, n, rfl⟩))
        | (go_at_call 42; ((with_reducible refine (o_present (b := b) (c := c) (me := me) (R := R) ?_ hme).mono ?_); (repeat (first | with_reducible exact HR.out | with_reducible refine RuleAt.drewN ?_ _ | with_reducible refine RuleAt.alloc ?_ _)); rintro e w' ⟨rfl, n, rfl⟩))
        | (go_at_call 42; ((with_reducible refine (o_wantsWrite (b := b) (c := c) (me := me) (R := R) ?_ hme).mono ?_); (repeat (first | with_reducible exact HR.out | with_reducible refine RuleAt.drewN ?_ _ | with_reducible refine RuleAt.alloc ?_ _)); rintro e w' ⟨rfl, n, rfl⟩))
        | (go_at_call 42; ((with_reducible refine (o_writes (b := b) (c := c) (me := me) (R := R) ?_ hme).mono ?_); (repeat (first | with_reducible exact HR.out | with_reducible refine RuleAt.drewN ?_ _ | with_reducible refine RuleAt.alloc ?_ _)); rintro e w' ⟨rfl, n, rfl⟩))
        | (go_at_call 42; ((with_reducible refine (o_come (b := b) (c := c) (me := me) (R := R) ?_ hme).mono ?_); (repeat (first | with_reducible exact HR.out | with_reducible refine RuleAt.drewN ?_ _ | with_reducible refine RuleAt.alloc ?_ _)); rintro e w' ⟨rfl, n, rfl⟩))
        | (go_at_call 42; ((with_reducible refine (o_wantsRead (b := b) (c := c) (me := me) (R := R) ?_ hme).mono ?_); (repeat (first | with_reducible exact HR.out | with_reducible refine RuleAt.drewN ?_ _ | with_reducible refine RuleAt.alloc ?_ _)); rintro e w' ⟨rfl, n, rfl⟩))
        | (go_at_call 42; ((with_reducible refine (o_holds (b := b) (c := c) (me := me) (R := R) ?_ hme).mono ?_); (repeat (first | with_reducible exact HR.out | with_reducible refine RuleAt.drewN ?_ _ | with_reducible refine RuleAt.alloc ?_ _)); rintro e w' ⟨rfl, n, rfl⟩))
        | (go_at_call 42; ((with_reducible refine (o_leaves (b := b) (c := c) (me := me) (R := R) ?_ hme).mono ?_); (repeat (first | with_reducible exact HR.out | with_reducible refine RuleAt.drewN ?_ _ | with_reducible refine RuleAt.alloc ?_ _)); rintro e w' ⟨rfl, n, rfl⟩))
        | (go_at_call 42; ((with_reducible refine (o_before (b := b) (c := c) (me := me) (R := R) ?_ hme _ _ 0 ?_ ?_).mono ?_); (repeat (first | with_reducible exact HR.out | with_reducible refine RuleAt.drewN ?_ _ | with_reducible refine RuleAt.alloc ?_ _)); (simp [go_sem, cell_new_drewN]); (simp [go_sem, cell_new_drewN]); rintro e w' ⟨rfl, n, rfl⟩))
        | (go_at_call 44; refine (before_any _ _ _).mono ?_; rintro e w' ⟨rfl, rfl⟩)
        | (go_at_call 33; refine (wants_any c (me * 9) (R.t me) _ ?_).mono ?_; (refine RuleAt.task (b := b) ?_ hme; repeat (first | with_reducible exact HR.out | with_reducible refine RuleAt.drewN ?_ _ | with_reducible refine RuleAt.alloc ?_ _)); rintro e w' ⟨rfl, rfl⟩)
        | (go_at_call 36; refine (present_any c (me * 9) (R.t me) _ ?_).mono ?_; (refine RuleAt.task (b := b) ?_ hme; repeat (first | with_reducible exact HR.out | with_reducible refine RuleAt.drewN ?_ _ | with_reducible refine RuleAt.alloc ?_ _)); rintro e w' ⟨rfl, rfl⟩)
        | (go_at_call 40; refine (wantsWrite_any c (me * 9) (R.t me) _ ?_).mono ?_; (refine RuleAt.task (b := b) ?_ hme; repeat (first | with_reducible exact HR.out | with_reducible refine RuleAt.drewN ?_ _ | with_reducible refine RuleAt.alloc ?_ _)); rintro e w' ⟨rfl, rfl⟩)
        | (go_at_call 41; refine (writes_any c (me * 9) (R.t me) _ ?_).mono ?_; (refine RuleAt.task (b := b) ?_ hme; repeat (first | with_reducible exact HR.out | with_reducible refine RuleAt.drewN ?_ _ | with_reducible refine RuleAt.alloc ?_ _)); rintro e w' ⟨rfl, rfl⟩)
        | (go_at_call 46; refine (wantsRead_any c (me * 9) (R.t me) _ ?_).mono ?_; (refine RuleAt.task (b := b) ?_ hme; repeat (first | with_reducible exact HR.out | with_reducible refine RuleAt.drewN ?_ _ | with_reducible refine RuleAt.alloc ?_ _)); rintro e w' ⟨rfl, rfl⟩)
        | (go_at_call 60; refine (early_any b c me R _ ?_ hme).mono ?_; (repeat (first | with_reducible exact HR.out | with_reducible refine RuleAt.drewN ?_ _ | with_reducible refine RuleAt.alloc ?_ _)); rintro e w' ⟨rfl, hbe⟩; simp only [go_sem] at hbe))
      all_goals
        go_ret
        refine ⟨?_, ?_⟩
        · first | (simp [Rul.ascentB, HK.out, *]; done) | (simp [Rul.ascentB, HK.out, *]; intro _; omega)
        · repeat (first | with_reducible exact Below.refl _ _ | with_reducible refine Below.trans ?_ (by with_reducible assumption) | with_reducible refine below_drewN ?_ _ | with_reducible refine Below.drew ?_ | with_reducible refine Below.alloc ?_ (by simp [go_sem] <;> omega) _)
  · cases hop : ((R.t me).hold != 1)
    all_goals
      go_enter Try.func50, Try.ntmps50
      go_wp2_with (first
        | (go_at_call 42; ((with_reducible refine (o_wants (b := b) (c := c) (me := me) (R := R) ?_ hme).mono ?_); (repeat (first | with_reducible exact HR.out | with_reducible refine RuleAt.drewN ?_ _ | with_reducible refine RuleAt.alloc ?_ _)); rintro e w' ⟨rfl, n, rfl⟩))
        | (go_at_call 42; ((with_reducible refine (o_present (b := b) (c := c) (me := me) (R := R) ?_ hme).mono ?_); (repeat (first | with_reducible exact HR.out | with_reducible refine RuleAt.drewN ?_ _ | with_reducible refine RuleAt.alloc ?_ _)); rintro e w' ⟨rfl, n, rfl⟩))
        | (go_at_call 42; ((with_reducible refine (o_wantsWrite (b := b) (c := c) (me := me) (R := R) ?_ hme).mono ?_); (repeat (first | with_reducible exact HR.out | with_reducible refine RuleAt.drewN ?_ _ | with_reducible refine RuleAt.alloc ?_ _)); rintro e w' ⟨rfl, n, rfl⟩))
        | (go_at_call 42; ((with_reducible refine (o_writes (b := b) (c := c) (me := me) (R := R) ?_ hme).mono ?_); (repeat (first | with_reducible exact HR.out | with_reducible refine RuleAt.drewN ?_ _ | with_reducible refine RuleAt.alloc ?_ _)); rintro e w' ⟨rfl, n, rfl⟩))
        | (go_at_call 42; ((with_reducible refine (o_come (b := b) (c := c) (me := me) (R := R) ?_ hme).mono ?_); (repeat (first | with_reducible exact HR.out | with_reducible refine RuleAt.drewN ?_ _ | with_reducible refine RuleAt.alloc ?_ _)); rintro e w' ⟨rfl, n, rfl⟩))
        | (go_at_call 42; ((with_reducible refine (o_wantsRead (b := b) (c := c) (me := me) (R := R) ?_ hme).mono ?_); (repeat (first | with_reducible exact HR.out | with_reducible refine RuleAt.drewN ?_ _ | with_reducible refine RuleAt.alloc ?_ _)); rintro e w' ⟨rfl, n, rfl⟩))
        | (go_at_call 42; ((with_reducible refine (o_holds (b := b) (c := c) (me := me) (R := R) ?_ hme).mono ?_); (repeat (first | with_reducible exact HR.out | with_reducible refine RuleAt.drewN ?_ _ | with_reducible refine RuleAt.alloc ?_ _)); rintro e w' ⟨rfl, n, rfl⟩))
        | (go_at_call 42; ((with_reducible refine (o_leaves (b := b) (c := c) (me := me) (R := R) ?_ hme).mono ?_); (repeat (first | with_reducible exact HR.out | with_reducible refine RuleAt.drewN ?_ _ | with_reducible refine RuleAt.alloc ?_ _)); rintro e w' ⟨rfl, n, rfl⟩))
        | (go_at_call 42; ((with_reducible refine (o_before (b := b) (c := c) (me := me) (R := R) ?_ hme _ _ 0 ?_ ?_).mono ?_); (repeat (first | with_reducible exact HR.out | with_reducible refine RuleAt.drewN ?_ _ | with_reducible refine RuleAt.alloc ?_ _)); (simp [go_sem, cell_new_drewN]); (simp [go_sem, cell_new_drewN]); rintro e w' ⟨rfl, n, rfl⟩))
        | (go_at_call 44; refine (before_any _ _ _).mono ?_; rintro e w' ⟨rfl, rfl⟩)
        | (go_at_call 33; refine (wants_any c (me * 9) (R.t me) _ ?_).mono ?_; (refine RuleAt.task (b := b) ?_ hme; repeat (first | with_reducible exact HR.out | with_reducible refine RuleAt.drewN ?_ _ | with_reducible refine RuleAt.alloc ?_ _)); rintro e w' ⟨rfl, rfl⟩)
        | (go_at_call 36; refine (present_any c (me * 9) (R.t me) _ ?_).mono ?_; (refine RuleAt.task (b := b) ?_ hme; repeat (first | with_reducible exact HR.out | with_reducible refine RuleAt.drewN ?_ _ | with_reducible refine RuleAt.alloc ?_ _)); rintro e w' ⟨rfl, rfl⟩)
        | (go_at_call 40; refine (wantsWrite_any c (me * 9) (R.t me) _ ?_).mono ?_; (refine RuleAt.task (b := b) ?_ hme; repeat (first | with_reducible exact HR.out | with_reducible refine RuleAt.drewN ?_ _ | with_reducible refine RuleAt.alloc ?_ _)); rintro e w' ⟨rfl, rfl⟩)
        | (go_at_call 41; refine (writes_any c (me * 9) (R.t me) _ ?_).mono ?_; (refine RuleAt.task (b := b) ?_ hme; repeat (first | with_reducible exact HR.out | with_reducible refine RuleAt.drewN ?_ _ | with_reducible refine RuleAt.alloc ?_ _)); rintro e w' ⟨rfl, rfl⟩)
        | (go_at_call 46; refine (wantsRead_any c (me * 9) (R.t me) _ ?_).mono ?_; (refine RuleAt.task (b := b) ?_ hme; repeat (first | with_reducible exact HR.out | with_reducible refine RuleAt.drewN ?_ _ | with_reducible refine RuleAt.alloc ?_ _)); rintro e w' ⟨rfl, rfl⟩)
        | (go_at_call 60; refine (early_any b c me R _ ?_ hme).mono ?_; (repeat (first | with_reducible exact HR.out | with_reducible refine RuleAt.drewN ?_ _ | with_reducible refine RuleAt.alloc ?_ _)); rintro e w' ⟨rfl, hbe⟩; simp only [go_sem] at hbe))
      all_goals
        go_ret
        refine ⟨?_, ?_⟩
        · first | (simp [Rul.ascentB, HK.out, *]; done) | (simp [Rul.ascentB, HK.out, *]; intro _; omega)
        · repeat (first | with_reducible exact Below.refl _ _ | with_reducible refine Below.trans ?_ (by with_reducible assumption) | with_reducible refine below_drewN ?_ _ | with_reducible refine Below.drew ?_ | with_reducible refine Below.alloc ?_ (by simp [go_sem] <;> omega) _)
  · cases hop : ((R.t me).hold != 1)
    all_goals
      go_enter Try.func50, Try.ntmps50
      go_wp2_with (first
        | (go_at_call 42; ((with_reducible refine (o_wants (b := b) (c := c) (me := me) (R := R) ?_ hme).mono ?_); (repeat (first | with_reducible exact HR.out | with_reducible refine RuleAt.drewN ?_ _ | with_reducible refine RuleAt.alloc ?_ _)); rintro e w' ⟨rfl, n, rfl⟩))
        | (go_at_call 42; ((with_reducible refine (o_present (b := b) (c := c) (me := me) (R := R) ?_ hme).mono ?_); (repeat (first | with_reducible exact HR.out | with_reducible refine RuleAt.drewN ?_ _ | with_reducible refine RuleAt.alloc ?_ _)); rintro e w' ⟨rfl, n, rfl⟩))
        | (go_at_call 42; ((with_reducible refine (o_wantsWrite (b := b) (c := c) (me := me) (R := R) ?_ hme).mono ?_); (repeat (first | with_reducible exact HR.out | with_reducible refine RuleAt.drewN ?_ _ | with_reducible refine RuleAt.alloc ?_ _)); rintro e w' ⟨rfl, n, rfl⟩))
        | (go_at_call 42; ((with_reducible refine (o_writes (b := b) (c := c) (me := me) (R := R) ?_ hme).mono ?_); (repeat (first | with_reducible exact HR.out | with_reducible refine RuleAt.drewN ?_ _ | with_reducible refine RuleAt.alloc ?_ _)); rintro e w' ⟨rfl, n, rfl⟩))
        | (go_at_call 42; ((with_reducible refine (o_come (b := b) (c := c) (me := me) (R := R) ?_ hme).mono ?_); (repeat (first | with_reducible exact HR.out | with_reducible refine RuleAt.drewN ?_ _ | with_reducible refine RuleAt.alloc ?_ _)); rintro e w' ⟨rfl, n, rfl⟩))
        | (go_at_call 42; ((with_reducible refine (o_wantsRead (b := b) (c := c) (me := me) (R := R) ?_ hme).mono ?_); (repeat (first | with_reducible exact HR.out | with_reducible refine RuleAt.drewN ?_ _ | with_reducible refine RuleAt.alloc ?_ _)); rintro e w' ⟨rfl, n, rfl⟩))
        | (go_at_call 42; ((with_reducible refine (o_holds (b := b) (c := c) (me := me) (R := R) ?_ hme).mono ?_); (repeat (first | with_reducible exact HR.out | with_reducible refine RuleAt.drewN ?_ _ | with_reducible refine RuleAt.alloc ?_ _)); rintro e w' ⟨rfl, n, rfl⟩))
        | (go_at_call 42; ((with_reducible refine (o_leaves (b := b) (c := c) (me := me) (R := R) ?_ hme).mono ?_); (repeat (first | with_reducible exact HR.out | with_reducible refine RuleAt.drewN ?_ _ | with_reducible refine RuleAt.alloc ?_ _)); rintro e w' ⟨rfl, n, rfl⟩))
        | (go_at_call 42; ((with_reducible refine (o_before (b := b) (c := c) (me := me) (R := R) ?_ hme _ _ 0 ?_ ?_).mono ?_); (repeat (first | with_reducible exact HR.out | with_reducible refine RuleAt.drewN ?_ _ | with_reducible refine RuleAt.alloc ?_ _)); (simp [go_sem, cell_new_drewN]); (simp [go_sem, cell_new_drewN]); rintro e w' ⟨rfl, n, rfl⟩))
        | (go_at_call 44; refine (before_any _ _ _).mono ?_; rintro e w' ⟨rfl, rfl⟩)
        | (go_at_call 33; refine (wants_any c (me * 9) (R.t me) _ ?_).mono ?_; (refine RuleAt.task (b := b) ?_ hme; repeat (first | with_reducible exact HR.out | with_reducible refine RuleAt.drewN ?_ _ | with_reducible refine RuleAt.alloc ?_ _)); rintro e w' ⟨rfl, rfl⟩)
        | (go_at_call 36; refine (present_any c (me * 9) (R.t me) _ ?_).mono ?_; (refine RuleAt.task (b := b) ?_ hme; repeat (first | with_reducible exact HR.out | with_reducible refine RuleAt.drewN ?_ _ | with_reducible refine RuleAt.alloc ?_ _)); rintro e w' ⟨rfl, rfl⟩)
        | (go_at_call 40; refine (wantsWrite_any c (me * 9) (R.t me) _ ?_).mono ?_; (refine RuleAt.task (b := b) ?_ hme; repeat (first | with_reducible exact HR.out | with_reducible refine RuleAt.drewN ?_ _ | with_reducible refine RuleAt.alloc ?_ _)); rintro e w' ⟨rfl, rfl⟩)
        | (go_at_call 41; refine (writes_any c (me * 9) (R.t me) _ ?_).mono ?_; (refine RuleAt.task (b := b) ?_ hme; repeat (first | with_reducible exact HR.out | with_reducible refine RuleAt.drewN ?_ _ | with_reducible refine RuleAt.alloc ?_ _)); rintro e w' ⟨rfl, rfl⟩)
        | (go_at_call 46; refine (wantsRead_any c (me * 9) (R.t me) _ ?_).mono ?_; (refine RuleAt.task (b := b) ?_ hme; repeat (first | with_reducible exact HR.out | with_reducible refine RuleAt.drewN ?_ _ | with_reducible refine RuleAt.alloc ?_ _)); rintro e w' ⟨rfl, rfl⟩)
        | (go_at_call 60; refine (early_any b c me R _ ?_ hme).mono ?_; (repeat (first | with_reducible exact HR.out | with_reducible refine RuleAt.drewN ?_ _ | with_reducible refine RuleAt.alloc ?_ _)); rintro e w' ⟨rfl, hbe⟩; simp only [go_sem] at hbe))
      all_goals
        go_ret
        refine ⟨?_, ?_⟩
        · first | (simp [Rul.ascentB, HK.out, *]; done) | (simp [Rul.ascentB, HK.out, *]; intro _; omega)
        · repeat (first | with_reducible exact Below.refl _ _ | with_reducible refine Below.trans ?_ (by with_reducible assumption) | with_reducible refine below_drewN ?_ _ | with_reducible refine Below.drew ?_ | with_reducible refine Below.alloc ?_ (by simp [go_sem] <;> omega) _)
  · cases hop : ((R.t me).hold != 1)
    all_goals
      go_enter Try.func50, Try.ntmps50
      go_wp2_with (first
        | (go_at_call 42; ((with_reducible refine (o_wants (b := b) (c := c) (me := me) (R := R) ?_ hme).mono ?_); (repeat (first | with_reducible exact HR.out | with_reducible refine RuleAt.drewN ?_ _ | with_reducible refine RuleAt.alloc ?_ _)); rintro e w' ⟨rfl, n, rfl⟩))
        | (go_at_call 42; ((with_reducible refine (o_present (b := b) (c := c) (me := me) (R := R) ?_ hme).mono ?_); (repeat (first | with_reducible exact HR.out | with_reducible refine RuleAt.drewN ?_ _ | with_reducible refine RuleAt.alloc ?_ _)); rintro e w' ⟨rfl, n, rfl⟩))
        | (go_at_call 42; ((with_reducible refine (o_wantsWrite (b := b) (c := c) (me := me) (R := R) ?_ hme).mono ?_); (repeat (first | with_reducible exact HR.out | with_reducible refine RuleAt.drewN ?_ _ | with_reducible refine RuleAt.alloc ?_ _)); rintro e w' ⟨rfl, n, rfl⟩))
        | (go_at_call 42; ((with_reducible refine (o_writes (b := b) (c := c) (me := me) (R := R) ?_ hme).mono ?_); (repeat (first | with_reducible exact HR.out | with_reducible refine RuleAt.drewN ?_ _ | with_reducible refine RuleAt.alloc ?_ _)); rintro e w' ⟨rfl, n, rfl⟩))
        | (go_at_call 42; ((with_reducible refine (o_come (b := b) (c := c) (me := me) (R := R) ?_ hme).mono ?_); (repeat (first | with_reducible exact HR.out | with_reducible refine RuleAt.drewN ?_ _ | with_reducible refine RuleAt.alloc ?_ _)); rintro e w' ⟨rfl, n, rfl⟩))
        | (go_at_call 42; ((with_reducible refine (o_wantsRead (b := b) (c := c) (me := me) (R := R) ?_ hme).mono ?_); (repeat (first | with_reducible exact HR.out | with_reducible refine RuleAt.drewN ?_ _ | with_reducible refine RuleAt.alloc ?_ _)); rintro e w' ⟨rfl, n, rfl⟩))
        | (go_at_call 42; ((with_reducible refine (o_holds (b := b) (c := c) (me := me) (R := R) ?_ hme).mono ?_); (repeat (first | with_reducible exact HR.out | with_reducible refine RuleAt.drewN ?_ _ | with_reducible refine RuleAt.alloc ?_ _)); rintro e w' ⟨rfl, n, rfl⟩))
        | (go_at_call 42; ((with_reducible refine (o_leaves (b := b) (c := c) (me := me) (R := R) ?_ hme).mono ?_); (repeat (first | with_reducible exact HR.out | with_reducible refine RuleAt.drewN ?_ _ | with_reducible refine RuleAt.alloc ?_ _)); rintro e w' ⟨rfl, n, rfl⟩))
        | (go_at_call 42; ((with_reducible refine (o_before (b := b) (c := c) (me := me) (R := R) ?_ hme _ _ 0 ?_ ?_).mono ?_); (repeat (first | with_reducible exact HR.out | with_reducible refine RuleAt.drewN ?_ _ | with_reducible refine RuleAt.alloc ?_ _)); (simp [go_sem, cell_new_drewN]); (simp [go_sem, cell_new_drewN]); rintro e w' ⟨rfl, n, rfl⟩))
        | (go_at_call 44; refine (before_any _ _ _).mono ?_; rintro e w' ⟨rfl, rfl⟩)
        | (go_at_call 33; refine (wants_any c (me * 9) (R.t me) _ ?_).mono ?_; (refine RuleAt.task (b := b) ?_ hme; repeat (first | with_reducible exact HR.out | with_reducible refine RuleAt.drewN ?_ _ | with_reducible refine RuleAt.alloc ?_ _)); rintro e w' ⟨rfl, rfl⟩)
        | (go_at_call 36; refine (present_any c (me * 9) (R.t me) _ ?_).mono ?_; (refine RuleAt.task (b := b) ?_ hme; repeat (first | with_reducible exact HR.out | with_reducible refine RuleAt.drewN ?_ _ | with_reducible refine RuleAt.alloc ?_ _)); rintro e w' ⟨rfl, rfl⟩)
        | (go_at_call 40; refine (wantsWrite_any c (me * 9) (R.t me) _ ?_).mono ?_; (refine RuleAt.task (b := b) ?_ hme; repeat (first | with_reducible exact HR.out | with_reducible refine RuleAt.drewN ?_ _ | with_reducible refine RuleAt.alloc ?_ _)); rintro e w' ⟨rfl, rfl⟩)
        | (go_at_call 41; refine (writes_any c (me * 9) (R.t me) _ ?_).mono ?_; (refine RuleAt.task (b := b) ?_ hme; repeat (first | with_reducible exact HR.out | with_reducible refine RuleAt.drewN ?_ _ | with_reducible refine RuleAt.alloc ?_ _)); rintro e w' ⟨rfl, rfl⟩)
        | (go_at_call 46; refine (wantsRead_any c (me * 9) (R.t me) _ ?_).mono ?_; (refine RuleAt.task (b := b) ?_ hme; repeat (first | with_reducible exact HR.out | with_reducible refine RuleAt.drewN ?_ _ | with_reducible refine RuleAt.alloc ?_ _)); rintro e w' ⟨rfl, rfl⟩)
        | (go_at_call 60; refine (early_any b c me R _ ?_ hme).mono ?_; (repeat (first | with_reducible exact HR.out | with_reducible refine RuleAt.drewN ?_ _ | with_reducible refine RuleAt.alloc ?_ _)); rintro e w' ⟨rfl, hbe⟩; simp only [go_sem] at hbe))
      all_goals
        go_ret
        refine ⟨?_, ?_⟩
        · first | (simp [Rul.ascentB, HK.out, *]; done) | (simp [Rul.ascentB, HK.out, *]; intro _; omega)
        · repeat (first | with_reducible exact Below.refl _ _ | with_reducible refine Below.trans ?_ (by with_reducible assumption) | with_reducible refine below_drewN ?_ _ | with_reducible refine Below.drew ?_ | with_reducible refine Below.alloc ?_ (by simp [go_sem] <;> omega) _)
  · cases hop : ((R.t me).hold != 1)
    all_goals
      go_enter Try.func50, Try.ntmps50
      go_wp2_with (first
        | (go_at_call 42; ((with_reducible refine (o_wants (b := b) (c := c) (me := me) (R := R) ?_ hme).mono ?_); (repeat (first | with_reducible exact HR.out | with_reducible refine RuleAt.drewN ?_ _ | with_reducible refine RuleAt.alloc ?_ _)); rintro e w' ⟨rfl, n, rfl⟩))
        | (go_at_call 42; ((with_reducible refine (o_present (b := b) (c := c) (me := me) (R := R) ?_ hme).mono ?_); (repeat (first | with_reducible exact HR.out | with_reducible refine RuleAt.drewN ?_ _ | with_reducible refine RuleAt.alloc ?_ _)); rintro e w' ⟨rfl, n, rfl⟩))
        | (go_at_call 42; ((with_reducible refine (o_wantsWrite (b := b) (c := c) (me := me) (R := R) ?_ hme).mono ?_); (repeat (first | with_reducible exact HR.out | with_reducible refine RuleAt.drewN ?_ _ | with_reducible refine RuleAt.alloc ?_ _)); rintro e w' ⟨rfl, n, rfl⟩))
        | (go_at_call 42; ((with_reducible refine (o_writes (b := b) (c := c) (me := me) (R := R) ?_ hme).mono ?_); (repeat (first | with_reducible exact HR.out | with_reducible refine RuleAt.drewN ?_ _ | with_reducible refine RuleAt.alloc ?_ _)); rintro e w' ⟨rfl, n, rfl⟩))
        | (go_at_call 42; ((with_reducible refine (o_come (b := b) (c := c) (me := me) (R := R) ?_ hme).mono ?_); (repeat (first | with_reducible exact HR.out | with_reducible refine RuleAt.drewN ?_ _ | with_reducible refine RuleAt.alloc ?_ _)); rintro e w' ⟨rfl, n, rfl⟩))
        | (go_at_call 42; ((with_reducible refine (o_wantsRead (b := b) (c := c) (me := me) (R := R) ?_ hme).mono ?_); (repeat (first | with_reducible exact HR.out | with_reducible refine RuleAt.drewN ?_ _ | with_reducible refine RuleAt.alloc ?_ _)); rintro e w' ⟨rfl, n, rfl⟩))
        | (go_at_call 42; ((with_reducible refine (o_holds (b := b) (c := c) (me := me) (R := R) ?_ hme).mono ?_); (repeat (first | with_reducible exact HR.out | with_reducible refine RuleAt.drewN ?_ _ | with_reducible refine RuleAt.alloc ?_ _)); rintro e w' ⟨rfl, n, rfl⟩))
        | (go_at_call 42; ((with_reducible refine (o_leaves (b := b) (c := c) (me := me) (R := R) ?_ hme).mono ?_); (repeat (first | with_reducible exact HR.out | with_reducible refine RuleAt.drewN ?_ _ | with_reducible refine RuleAt.alloc ?_ _)); rintro e w' ⟨rfl, n, rfl⟩))
        | (go_at_call 42; ((with_reducible refine (o_before (b := b) (c := c) (me := me) (R := R) ?_ hme _ _ 0 ?_ ?_).mono ?_); (repeat (first | with_reducible exact HR.out | with_reducible refine RuleAt.drewN ?_ _ | with_reducible refine RuleAt.alloc ?_ _)); (simp [go_sem, cell_new_drewN]); (simp [go_sem, cell_new_drewN]); rintro e w' ⟨rfl, n, rfl⟩))
        | (go_at_call 44; refine (before_any _ _ _).mono ?_; rintro e w' ⟨rfl, rfl⟩)
        | (go_at_call 33; refine (wants_any c (me * 9) (R.t me) _ ?_).mono ?_; (refine RuleAt.task (b := b) ?_ hme; repeat (first | with_reducible exact HR.out | with_reducible refine RuleAt.drewN ?_ _ | with_reducible refine RuleAt.alloc ?_ _)); rintro e w' ⟨rfl, rfl⟩)
        | (go_at_call 36; refine (present_any c (me * 9) (R.t me) _ ?_).mono ?_; (refine RuleAt.task (b := b) ?_ hme; repeat (first | with_reducible exact HR.out | with_reducible refine RuleAt.drewN ?_ _ | with_reducible refine RuleAt.alloc ?_ _)); rintro e w' ⟨rfl, rfl⟩)
        | (go_at_call 40; refine (wantsWrite_any c (me * 9) (R.t me) _ ?_).mono ?_; (refine RuleAt.task (b := b) ?_ hme; repeat (first | with_reducible exact HR.out | with_reducible refine RuleAt.drewN ?_ _ | with_reducible refine RuleAt.alloc ?_ _)); rintro e w' ⟨rfl, rfl⟩)
        | (go_at_call 41; refine (writes_any c (me * 9) (R.t me) _ ?_).mono ?_; (refine RuleAt.task (b := b) ?_ hme; repeat (first | with_reducible exact HR.out | with_reducible refine RuleAt.drewN ?_ _ | with_reducible refine RuleAt.alloc ?_ _)); rintro e w' ⟨rfl, rfl⟩)
        | (go_at_call 46; refine (wantsRead_any c (me * 9) (R.t me) _ ?_).mono ?_; (refine RuleAt.task (b := b) ?_ hme; repeat (first | with_reducible exact HR.out | with_reducible refine RuleAt.drewN ?_ _ | with_reducible refine RuleAt.alloc ?_ _)); rintro e w' ⟨rfl, rfl⟩)
        | (go_at_call 60; refine (early_any b c me R _ ?_ hme).mono ?_; (repeat (first | with_reducible exact HR.out | with_reducible refine RuleAt.drewN ?_ _ | with_reducible refine RuleAt.alloc ?_ _)); rintro e w' ⟨rfl, hbe⟩; simp only [go_sem] at hbe))
      all_goals
        go_ret
        refine ⟨?_, ?_⟩
        · first | (simp [Rul.ascentB, HK.out, *]; done) | (simp [Rul.ascentB, HK.out, *]; intro _; omega)
        · repeat (first | with_reducible exact Below.refl _ _ | with_reducible refine Below.trans ?_ (by with_reducible assumption) | with_reducible refine below_drewN ?_ _ | with_reducible refine Below.drew ?_ | with_reducible refine Below.alloc ?_ (by simp [go_sem] <;> omega) _)

end Go.Proofs.Yteifhbkhjkmhfaa
