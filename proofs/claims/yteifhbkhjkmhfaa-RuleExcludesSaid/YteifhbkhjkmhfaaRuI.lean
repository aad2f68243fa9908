/-
  The walks of what takes a return.
-/
import Derived.Test.YteifhbkhjkmhfaaRuH
namespace Go.Proofs.Yteifhbkhjkmhfaa
open Go.RowKit
set_option linter.unusedSimpArgs false
set_option linter.unusedVariables false

def needsI (op : Int) : Int := if (op == 1) || (op == 3) || (op == 5) || (op == 6) then 0 else if (op == 2) || (op == 7) then 1 else if (op == 4) || (op == 8) then 2 else -1
def leadsI (op : Int) : Int := if (op == 1) || (op == 5) || (op == 8) then 1 else if (op == 3) || (op == 6) || (op == 7) then 2 else 0
def mayB (op hold : Int) : Bool := decide (0 ≤ needsI op) && (needsI op == hold)

set_option maxHeartbeats 1000000 in
theorem needs_any (op : Int) (w : World) : Calls Try.prog 55 #[.int .i64 op] w fun e w' => e = .returned (.int .i64 (needsI op)) ∧ w = w' := by
  go_enter Try.func55, Try.ntmps55
  go_wp2
  all_goals (go_ret; exact ⟨by simp [needsI, *], rfl⟩)

set_option maxHeartbeats 1000000 in
theorem leads_any (op : Int) (w : World) : Calls Try.prog 39 #[.int .i64 op] w fun e w' => e = .returned (.int .i64 (leadsI op)) ∧ w = w' := by
  go_enter Try.func39, Try.ntmps39
  go_wp2
  all_goals (go_ret; exact ⟨by simp [leadsI, *], rfl⟩)

set_option maxHeartbeats 1000000 in
theorem may_any (op hold : Int) (w : World) : Calls Try.prog 38 #[.int .i64 op, .int .i64 hold] w fun e w' => e = .returned (.bool (mayB op hold)) ∧ w = w' := by
  obtain ⟨x, hx⟩ : ∃ x, needsI op = x := ⟨_, rfl⟩
  have HX := Lib.hid hx
  cases hp : decide (0 ≤ x)
  all_goals
    have HP := Lib.hid hp
    go_enter Try.func38, Try.ntmps38
    go_wp2_with (go_at_call 55; refine (needs_any op _).mono ?_; rintro e w' ⟨rfl, rfl⟩; rw [HX.out])
    go_ret
    exact ⟨by simp [mayB, HX.out, HP.out], rfl⟩

-- RET
theorem quiet_add_left {P : Program} {f : FuncId} {args : Array Value} {w : World} {a n : Nat} {v : Value}
    (h : Calls P f args (w.drewN (a + n)) fun e w' => e = .returned v ∧ w.drewN (a + n) = w') :
    Calls P f args (w.drewN (a + n)) fun e w'' => e = .returned v ∧ ∃ m, w'' = w.drewN (a + m) :=
  h.mono fun _ _ ⟨he, hm⟩ => ⟨he, n, hm.symm⟩
theorem mayB_is (v : Bool) (op hold : Int) (w : World) (hv : mayB op hold = v) : Calls Try.prog 38 #[.int .i64 op, .int .i64 hold] w fun e w' => e = .returned (.bool v) ∧ w = w' := by subst hv; exact may_any op hold w
theorem leads_is (v : Int) (op : Int) (w : World) (hv : leadsI op = v) : Calls Try.prog 39 #[.int .i64 op] w fun e w' => e = .returned (.int .i64 v) ∧ w = w' := by subst hv; exact leads_any op w

def Rul.retB (R : Rul) (me : Nat) (xop arg : Int) : Bool :=
  if ((R.t me).op != xop) || ((R.t me).req != 0) || (R.t me).leaving then false
  else if arg = 3 then !(R.t me).refused && !mayB xop (R.t me).hold
  else if arg = 2 then !(R.t me).refused && ((R.t me).hold == leadsI xop)
  else (R.t me).refused

set_option maxHeartbeats 4000000 in
theorem returns1_any (B b c me : Nat) (tk wh xop : Int) (R : Rul) (w : World) (hR : RuleAt w b c R) (hme : me < R.l.length) (hBb : B ≤ b) (hBc : B ≤ c) :
    Calls Try.prog 20 #[.pointer (some ⟨b, 0, none⟩), .pointer (some ⟨c, me * 9, none⟩), .agg #[.int .i64 tk, .int .i64 wh, .int .i64 xop, .int .i64 1]] w
      (Took b c B w (R.retB me xop 1) R (R.set me { R.t me with op := 0, refused := false })) := by
  have hne := hR.ne
  have hne' := Ne.symm hR.ne
  have hb := hR.head.lt
  have hc := hR.body.lt
  have hBw : B ≤ w.heap.size := by omega
  obtain ⟨k0, k1, k2, k3⟩ := hR.heads
  have hfb := hR.head.frozen
  have hfc := hR.body.frozen
  obtain ⟨t0, t1, t2, t3, t4, t5, t6, t7, t8⟩ := hR.task hme
  have HR := Lib.hid hR; clear hR
  cases hop : ((R.t me).op != xop)
  · cases hrq : ((R.t me).req != 0)
    · have HRQ := Lib.hid hrq; clear hrq
      cases hlv : (R.t me).leaving
      · rw [hlv] at t7
        cases hrf : (R.t me).refused
        all_goals rw [hrf] at t8
        all_goals
          go_enter Try.func20, Try.ntmps20
          go_wp2_with fail
          go_quiet ((go_at_call 33; exact quiet_left (wants_is _ c (me * 9) (R.t me) _ (RuleAt.task (b := b) ((HR.out.alloc _).drewN _) hme) HRQ.out)))
          go_wp2_with fail
          go_ret
          first
          | (refine Took.no ?_ ?_ ?_; (focus ((simp [Rul.retB, hop, HRQ.out, hlv, hrf]); done)); (focus ((repeat (first | with_reducible exact HR.out | with_reducible refine RuleAt.drewN ?_ _ | with_reducible refine RuleAt.alloc ?_ _ | with_reducible refine RuleAt.below' (B := w.heap.size) ?_ (by with_reducible assumption) hb hc)); done)); (focus ((repeat (first | with_reducible exact Kp.refl _ _ _ _ | with_reducible refine Kp.next ?_ (by with_reducible assumption) hBw | with_reducible refine Kp.drewN ?_ _ | with_reducible refine Kp.drew ?_ | with_reducible refine Kp.alloc ?_ hBw _ | with_reducible refine Kp.setCell ?_ (by first | exact hBb | exact hBc) (by first | exact .inl rfl | exact .inr rfl) _)); done)))
          | (refine Took.yes ?_ (RuleAt.set2 (b := b) (R := R) ?_ hme 0 (by omega) _ { R.t me with op := 0 } rfl 8 (by omega) _ { R.t me with op := 0, refused := false } rfl) ?_; (focus ((simp [Rul.retB, hop, HRQ.out, hlv, hrf]); done)); (focus ((repeat (first | with_reducible exact HR.out | with_reducible refine RuleAt.drewN ?_ _ | with_reducible refine RuleAt.alloc ?_ _ | with_reducible refine RuleAt.below' (B := w.heap.size) ?_ (by with_reducible assumption) hb hc)); done)); (focus ((repeat (first | with_reducible exact Kp.refl _ _ _ _ | with_reducible refine Kp.next ?_ (by with_reducible assumption) hBw | with_reducible refine Kp.drewN ?_ _ | with_reducible refine Kp.drew ?_ | with_reducible refine Kp.alloc ?_ hBw _ | with_reducible refine Kp.setCell ?_ (by first | exact hBb | exact hBc) (by first | exact .inl rfl | exact .inr rfl) _)); done)))
      · rw [hlv] at t7
        go_enter Try.func20, Try.ntmps20
        go_wp2_with fail
        go_quiet ((go_at_call 33; exact quiet_left (wants_is _ c (me * 9) (R.t me) _ (RuleAt.task (b := b) ((HR.out.alloc _).drewN _) hme) HRQ.out)))
        go_wp2_with fail
        go_ret
        (refine Took.no ?_ ?_ ?_; (focus ((simp [Rul.retB, hop, HRQ.out, hlv]); done)); (focus ((repeat (first | with_reducible exact HR.out | with_reducible refine RuleAt.drewN ?_ _ | with_reducible refine RuleAt.alloc ?_ _ | with_reducible refine RuleAt.below' (B := w.heap.size) ?_ (by with_reducible assumption) hb hc)); done)); (focus ((repeat (first | with_reducible exact Kp.refl _ _ _ _ | with_reducible refine Kp.next ?_ (by with_reducible assumption) hBw | with_reducible refine Kp.drewN ?_ _ | with_reducible refine Kp.drew ?_ | with_reducible refine Kp.alloc ?_ hBw _ | with_reducible refine Kp.setCell ?_ (by first | exact hBb | exact hBc) (by first | exact .inl rfl | exact .inr rfl) _)); done)))
    · have HRQ := Lib.hid hrq; clear hrq
      go_enter Try.func20, Try.ntmps20
      go_wp2_with fail
      go_quiet ((go_at_call 33; exact quiet_left (wants_is _ c (me * 9) (R.t me) _ (RuleAt.task (b := b) ((HR.out.alloc _).drewN _) hme) HRQ.out)))
      go_wp2_with fail
      go_ret
      (refine Took.no ?_ ?_ ?_; (focus ((simp [Rul.retB, hop, HRQ.out]); done)); (focus ((repeat (first | with_reducible exact HR.out | with_reducible refine RuleAt.drewN ?_ _ | with_reducible refine RuleAt.alloc ?_ _ | with_reducible refine RuleAt.below' (B := w.heap.size) ?_ (by with_reducible assumption) hb hc)); done)); (focus ((repeat (first | with_reducible exact Kp.refl _ _ _ _ | with_reducible refine Kp.next ?_ (by with_reducible assumption) hBw | with_reducible refine Kp.drewN ?_ _ | with_reducible refine Kp.drew ?_ | with_reducible refine Kp.alloc ?_ hBw _ | with_reducible refine Kp.setCell ?_ (by first | exact hBb | exact hBc) (by first | exact .inl rfl | exact .inr rfl) _)); done)))
  · go_enter Try.func20, Try.ntmps20
    go_wp2_with fail
    go_quiet (fail)
    go_wp2_with fail
    go_ret
    (refine Took.no ?_ ?_ ?_; (focus ((simp [Rul.retB, hop]); done)); (focus ((repeat (first | with_reducible exact HR.out | with_reducible refine RuleAt.drewN ?_ _ | with_reducible refine RuleAt.alloc ?_ _ | with_reducible refine RuleAt.below' (B := w.heap.size) ?_ (by with_reducible assumption) hb hc)); done)); (focus ((repeat (first | with_reducible exact Kp.refl _ _ _ _ | with_reducible refine Kp.next ?_ (by with_reducible assumption) hBw | with_reducible refine Kp.drewN ?_ _ | with_reducible refine Kp.drew ?_ | with_reducible refine Kp.alloc ?_ hBw _ | with_reducible refine Kp.setCell ?_ (by first | exact hBb | exact hBc) (by first | exact .inl rfl | exact .inr rfl) _)); done)))

set_option maxHeartbeats 4000000 in
theorem returns2_any (B b c me : Nat) (tk wh xop : Int) (R : Rul) (w : World) (hR : RuleAt w b c R) (hme : me < R.l.length) (hBb : B ≤ b) (hBc : B ≤ c) :
    Calls Try.prog 20 #[.pointer (some ⟨b, 0, none⟩), .pointer (some ⟨c, me * 9, none⟩), .agg #[.int .i64 tk, .int .i64 wh, .int .i64 xop, .int .i64 2]] w
      (Took b c B w (R.retB me xop 2) R (R.set me { R.t me with op := 0, refused := false })) := by
  have hne := hR.ne
  have hne' := Ne.symm hR.ne
  have hb := hR.head.lt
  have hc := hR.body.lt
  have hBw : B ≤ w.heap.size := by omega
  obtain ⟨k0, k1, k2, k3⟩ := hR.heads
  have hfb := hR.head.frozen
  have hfc := hR.body.frozen
  obtain ⟨t0, t1, t2, t3, t4, t5, t6, t7, t8⟩ := hR.task hme
  have HR := Lib.hid hR; clear hR
  cases hop : ((R.t me).op != xop)
  · cases hrq : ((R.t me).req != 0)
    · have HRQ := Lib.hid hrq; clear hrq
      cases hlv : (R.t me).leaving
      · rw [hlv] at t7
        cases hrf : (R.t me).refused
        all_goals rw [hrf] at t8
        · obtain ⟨lv, hlead⟩ : ∃ x, leadsI xop = x := ⟨_, rfl⟩
          have HL := Lib.hid hlead; clear hlead
          cases hhl : ((R.t me).hold == lv)
          all_goals
            have HM := Lib.hid hhl
            go_enter Try.func20, Try.ntmps20
            go_wp2_with fail
            go_quiet ((go_at_call 33; exact quiet_left (wants_is _ c (me * 9) (R.t me) _ (RuleAt.task (b := b) ((HR.out.alloc _).drewN _) hme) HRQ.out)))
            go_wp2_with fail
            go_quiet ((go_at_call 39; exact quiet_add_left (leads_is _ xop _ HL.out)))
            go_wp2_with fail
            go_ret
            first
            | (refine Took.no ?_ ?_ ?_; (focus ((simp [Rul.retB, hop, HRQ.out, hlv, hrf, HM.out, HL.out]); done)); (focus ((repeat (first | with_reducible exact HR.out | with_reducible refine RuleAt.drewN ?_ _ | with_reducible refine RuleAt.alloc ?_ _ | with_reducible refine RuleAt.below' (B := w.heap.size) ?_ (by with_reducible assumption) hb hc)); done)); (focus ((repeat (first | with_reducible exact Kp.refl _ _ _ _ | with_reducible refine Kp.next ?_ (by with_reducible assumption) hBw | with_reducible refine Kp.drewN ?_ _ | with_reducible refine Kp.drew ?_ | with_reducible refine Kp.alloc ?_ hBw _ | with_reducible refine Kp.setCell ?_ (by first | exact hBb | exact hBc) (by first | exact .inl rfl | exact .inr rfl) _)); done)))
            | (refine Took.yes ?_ (RuleAt.set2 (b := b) (R := R) ?_ hme 0 (by omega) _ { R.t me with op := 0 } rfl 8 (by omega) _ { R.t me with op := 0, refused := false } rfl) ?_; (focus ((simp [Rul.retB, hop, HRQ.out, hlv, hrf, HM.out, HL.out]); done)); (focus ((repeat (first | with_reducible exact HR.out | with_reducible refine RuleAt.drewN ?_ _ | with_reducible refine RuleAt.alloc ?_ _ | with_reducible refine RuleAt.below' (B := w.heap.size) ?_ (by with_reducible assumption) hb hc)); done)); (focus ((repeat (first | with_reducible exact Kp.refl _ _ _ _ | with_reducible refine Kp.next ?_ (by with_reducible assumption) hBw | with_reducible refine Kp.drewN ?_ _ | with_reducible refine Kp.drew ?_ | with_reducible refine Kp.alloc ?_ hBw _ | with_reducible refine Kp.setCell ?_ (by first | exact hBb | exact hBc) (by first | exact .inl rfl | exact .inr rfl) _)); done)))
        · go_enter Try.func20, Try.ntmps20
          go_wp2_with fail
          go_quiet ((go_at_call 33; exact quiet_left (wants_is _ c (me * 9) (R.t me) _ (RuleAt.task (b := b) ((HR.out.alloc _).drewN _) hme) HRQ.out)))
          go_wp2_with fail
          go_quiet (fail)
          go_wp2_with fail
          go_ret
          (refine Took.no ?_ ?_ ?_; (focus ((simp [Rul.retB, hop, HRQ.out, hlv, hrf]); done)); (focus ((repeat (first | with_reducible exact HR.out | with_reducible refine RuleAt.drewN ?_ _ | with_reducible refine RuleAt.alloc ?_ _ | with_reducible refine RuleAt.below' (B := w.heap.size) ?_ (by with_reducible assumption) hb hc)); done)); (focus ((repeat (first | with_reducible exact Kp.refl _ _ _ _ | with_reducible refine Kp.next ?_ (by with_reducible assumption) hBw | with_reducible refine Kp.drewN ?_ _ | with_reducible refine Kp.drew ?_ | with_reducible refine Kp.alloc ?_ hBw _ | with_reducible refine Kp.setCell ?_ (by first | exact hBb | exact hBc) (by first | exact .inl rfl | exact .inr rfl) _)); done)))
      · rw [hlv] at t7
        go_enter Try.func20, Try.ntmps20
        go_wp2_with fail
        go_quiet ((go_at_call 33; exact quiet_left (wants_is _ c (me * 9) (R.t me) _ (RuleAt.task (b := b) ((HR.out.alloc _).drewN _) hme) HRQ.out)))
        go_wp2_with fail
        go_ret
        (refine Took.no ?_ ?_ ?_; (focus ((simp [Rul.retB, hop, HRQ.out, hlv]); done)); (focus ((repeat (first | with_reducible exact HR.out | with_reducible refine RuleAt.drewN ?_ _ | with_reducible refine RuleAt.alloc ?_ _ | with_reducible refine RuleAt.below' (B := w.heap.size) ?_ (by with_reducible assumption) hb hc)); done)); (focus ((repeat (first | with_reducible exact Kp.refl _ _ _ _ | with_reducible refine Kp.next ?_ (by with_reducible assumption) hBw | with_reducible refine Kp.drewN ?_ _ | with_reducible refine Kp.drew ?_ | with_reducible refine Kp.alloc ?_ hBw _ | with_reducible refine Kp.setCell ?_ (by first | exact hBb | exact hBc) (by first | exact .inl rfl | exact .inr rfl) _)); done)))
    · have HRQ := Lib.hid hrq; clear hrq
      go_enter Try.func20, Try.ntmps20
      go_wp2_with fail
      go_quiet ((go_at_call 33; exact quiet_left (wants_is _ c (me * 9) (R.t me) _ (RuleAt.task (b := b) ((HR.out.alloc _).drewN _) hme) HRQ.out)))
      go_wp2_with fail
      go_ret
      (refine Took.no ?_ ?_ ?_; (focus ((simp [Rul.retB, hop, HRQ.out]); done)); (focus ((repeat (first | with_reducible exact HR.out | with_reducible refine RuleAt.drewN ?_ _ | with_reducible refine RuleAt.alloc ?_ _ | with_reducible refine RuleAt.below' (B := w.heap.size) ?_ (by with_reducible assumption) hb hc)); done)); (focus ((repeat (first | with_reducible exact Kp.refl _ _ _ _ | with_reducible refine Kp.next ?_ (by with_reducible assumption) hBw | with_reducible refine Kp.drewN ?_ _ | with_reducible refine Kp.drew ?_ | with_reducible refine Kp.alloc ?_ hBw _ | with_reducible refine Kp.setCell ?_ (by first | exact hBb | exact hBc) (by first | exact .inl rfl | exact .inr rfl) _)); done)))
  · go_enter Try.func20, Try.ntmps20
    go_wp2_with fail
    go_quiet (fail)
    go_wp2_with fail
    go_ret
    (refine Took.no ?_ ?_ ?_; (focus ((simp [Rul.retB, hop]); done)); (focus ((repeat (first | with_reducible exact HR.out | with_reducible refine RuleAt.drewN ?_ _ | with_reducible refine RuleAt.alloc ?_ _ | with_reducible refine RuleAt.below' (B := w.heap.size) ?_ (by with_reducible assumption) hb hc)); done)); (focus ((repeat (first | with_reducible exact Kp.refl _ _ _ _ | with_reducible refine Kp.next ?_ (by with_reducible assumption) hBw | with_reducible refine Kp.drewN ?_ _ | with_reducible refine Kp.drew ?_ | with_reducible refine Kp.alloc ?_ hBw _ | with_reducible refine Kp.setCell ?_ (by first | exact hBb | exact hBc) (by first | exact .inl rfl | exact .inr rfl) _)); done)))

set_option maxHeartbeats 4000000 in
theorem returns3_any (B b c me : Nat) (tk wh xop : Int) (R : Rul) (w : World) (hR : RuleAt w b c R) (hme : me < R.l.length) (hBb : B ≤ b) (hBc : B ≤ c) :
    Calls Try.prog 20 #[.pointer (some ⟨b, 0, none⟩), .pointer (some ⟨c, me * 9, none⟩), .agg #[.int .i64 tk, .int .i64 wh, .int .i64 xop, .int .i64 3]] w
      (Took b c B w (R.retB me xop 3) R (R.set me { R.t me with op := 0, refused := false })) := by
  have hne := hR.ne
  have hne' := Ne.symm hR.ne
  have hb := hR.head.lt
  have hc := hR.body.lt
  have hBw : B ≤ w.heap.size := by omega
  obtain ⟨k0, k1, k2, k3⟩ := hR.heads
  have hfb := hR.head.frozen
  have hfc := hR.body.frozen
  obtain ⟨t0, t1, t2, t3, t4, t5, t6, t7, t8⟩ := hR.task hme
  have HR := Lib.hid hR; clear hR
  cases hop : ((R.t me).op != xop)
  · cases hrq : ((R.t me).req != 0)
    · have HRQ := Lib.hid hrq; clear hrq
      cases hlv : (R.t me).leaving
      · rw [hlv] at t7
        cases hrf : (R.t me).refused
        all_goals rw [hrf] at t8
        · cases hmy : mayB xop (R.t me).hold
          all_goals
            have HM := Lib.hid hmy; clear hmy
            go_enter Try.func20, Try.ntmps20
            go_wp2_with fail
            go_quiet ((go_at_call 33; exact quiet_left (wants_is _ c (me * 9) (R.t me) _ (RuleAt.task (b := b) ((HR.out.alloc _).drewN _) hme) HRQ.out)))
            go_wp2_with fail
            go_quiet ((go_at_call 38; exact quiet_add_left (mayB_is _ xop (R.t me).hold _ HM.out)))
            go_wp2_with fail
            go_ret
            first
            | (refine Took.no ?_ ?_ ?_; (focus ((simp [Rul.retB, hop, HRQ.out, hlv, hrf, HM.out]); done)); (focus ((repeat (first | with_reducible exact HR.out | with_reducible refine RuleAt.drewN ?_ _ | with_reducible refine RuleAt.alloc ?_ _ | with_reducible refine RuleAt.below' (B := w.heap.size) ?_ (by with_reducible assumption) hb hc)); done)); (focus ((repeat (first | with_reducible exact Kp.refl _ _ _ _ | with_reducible refine Kp.next ?_ (by with_reducible assumption) hBw | with_reducible refine Kp.drewN ?_ _ | with_reducible refine Kp.drew ?_ | with_reducible refine Kp.alloc ?_ hBw _ | with_reducible refine Kp.setCell ?_ (by first | exact hBb | exact hBc) (by first | exact .inl rfl | exact .inr rfl) _)); done)))
            | (refine Took.yes ?_ (RuleAt.set2 (b := b) (R := R) ?_ hme 0 (by omega) _ { R.t me with op := 0 } rfl 8 (by omega) _ { R.t me with op := 0, refused := false } rfl) ?_; (focus ((simp [Rul.retB, hop, HRQ.out, hlv, hrf, HM.out]); done)); (focus ((repeat (first | with_reducible exact HR.out | with_reducible refine RuleAt.drewN ?_ _ | with_reducible refine RuleAt.alloc ?_ _ | with_reducible refine RuleAt.below' (B := w.heap.size) ?_ (by with_reducible assumption) hb hc)); done)); (focus ((repeat (first | with_reducible exact Kp.refl _ _ _ _ | with_reducible refine Kp.next ?_ (by with_reducible assumption) hBw | with_reducible refine Kp.drewN ?_ _ | with_reducible refine Kp.drew ?_ | with_reducible refine Kp.alloc ?_ hBw _ | with_reducible refine Kp.setCell ?_ (by first | exact hBb | exact hBc) (by first | exact .inl rfl | exact .inr rfl) _)); done)))
        · go_enter Try.func20, Try.ntmps20
          go_wp2_with fail
          go_quiet ((go_at_call 33; exact quiet_left (wants_is _ c (me * 9) (R.t me) _ (RuleAt.task (b := b) ((HR.out.alloc _).drewN _) hme) HRQ.out)))
          go_wp2_with fail
          go_quiet (fail)
          go_wp2_with fail
          go_ret
          (refine Took.no ?_ ?_ ?_; (focus ((simp [Rul.retB, hop, HRQ.out, hlv, hrf]); done)); (focus ((repeat (first | with_reducible exact HR.out | with_reducible refine RuleAt.drewN ?_ _ | with_reducible refine RuleAt.alloc ?_ _ | with_reducible refine RuleAt.below' (B := w.heap.size) ?_ (by with_reducible assumption) hb hc)); done)); (focus ((repeat (first | with_reducible exact Kp.refl _ _ _ _ | with_reducible refine Kp.next ?_ (by with_reducible assumption) hBw | with_reducible refine Kp.drewN ?_ _ | with_reducible refine Kp.drew ?_ | with_reducible refine Kp.alloc ?_ hBw _ | with_reducible refine Kp.setCell ?_ (by first | exact hBb | exact hBc) (by first | exact .inl rfl | exact .inr rfl) _)); done)))
      · rw [hlv] at t7
        go_enter Try.func20, Try.ntmps20
        go_wp2_with fail
        go_quiet ((go_at_call 33; exact quiet_left (wants_is _ c (me * 9) (R.t me) _ (RuleAt.task (b := b) ((HR.out.alloc _).drewN _) hme) HRQ.out)))
        go_wp2_with fail
        go_ret
        (refine Took.no ?_ ?_ ?_; (focus ((simp [Rul.retB, hop, HRQ.out, hlv]); done)); (focus ((repeat (first | with_reducible exact HR.out | with_reducible refine RuleAt.drewN ?_ _ | with_reducible refine RuleAt.alloc ?_ _ | with_reducible refine RuleAt.below' (B := w.heap.size) ?_ (by with_reducible assumption) hb hc)); done)); (focus ((repeat (first | with_reducible exact Kp.refl _ _ _ _ | with_reducible refine Kp.next ?_ (by with_reducible assumption) hBw | with_reducible refine Kp.drewN ?_ _ | with_reducible refine Kp.drew ?_ | with_reducible refine Kp.alloc ?_ hBw _ | with_reducible refine Kp.setCell ?_ (by first | exact hBb | exact hBc) (by first | exact .inl rfl | exact .inr rfl) _)); done)))
    · have HRQ := Lib.hid hrq; clear hrq
      go_enter Try.func20, Try.ntmps20
      go_wp2_with fail
      go_quiet ((go_at_call 33; exact quiet_left (wants_is _ c (me * 9) (R.t me) _ (RuleAt.task (b := b) ((HR.out.alloc _).drewN _) hme) HRQ.out)))
      go_wp2_with fail
      go_ret
      (refine Took.no ?_ ?_ ?_; (focus ((simp [Rul.retB, hop, HRQ.out]); done)); (focus ((repeat (first | with_reducible exact HR.out | with_reducible refine RuleAt.drewN ?_ _ | with_reducible refine RuleAt.alloc ?_ _ | with_reducible refine RuleAt.below' (B := w.heap.size) ?_ (by with_reducible assumption) hb hc)); done)); (focus ((repeat (first | with_reducible exact Kp.refl _ _ _ _ | with_reducible refine Kp.next ?_ (by with_reducible assumption) hBw | with_reducible refine Kp.drewN ?_ _ | with_reducible refine Kp.drew ?_ | with_reducible refine Kp.alloc ?_ hBw _ | with_reducible refine Kp.setCell ?_ (by first | exact hBb | exact hBc) (by first | exact .inl rfl | exact .inr rfl) _)); done)))
  · go_enter Try.func20, Try.ntmps20
    go_wp2_with fail
    go_quiet (fail)
    go_wp2_with fail
    go_ret
    (refine Took.no ?_ ?_ ?_; (focus ((simp [Rul.retB, hop]); done)); (focus ((repeat (first | with_reducible exact HR.out | with_reducible refine RuleAt.drewN ?_ _ | with_reducible refine RuleAt.alloc ?_ _ | with_reducible refine RuleAt.below' (B := w.heap.size) ?_ (by with_reducible assumption) hb hc)); done)); (focus ((repeat (first | with_reducible exact Kp.refl _ _ _ _ | with_reducible refine Kp.next ?_ (by with_reducible assumption) hBw | with_reducible refine Kp.drewN ?_ _ | with_reducible refine Kp.drew ?_ | with_reducible refine Kp.alloc ?_ hBw _ | with_reducible refine Kp.setCell ?_ (by first | exact hBb | exact hBc) (by first | exact .inl rfl | exact .inr rfl) _)); done)))

end Go.Proofs.Yteifhbkhjkmhfaa
