/-
  The walk of what takes a note, by what the note tells.
-/
import Derived.Test.YteifhbkhjkmhfaaRuL
namespace Go.Proofs.Yteifhbkhjkmhfaa
open Go.RowKit
set_option linter.unusedSimpArgs false
set_option linter.unusedVariables false

/-- What a take has answered, and what the rule is then. -/
def TakeEnd (b c B : Nat) (w : World) (code : Int) (R : Rul) (e : Ending) (w' : World) : Prop := e = .returned (.int .i64 code) ∧ RuleAt w' b c R ∧ Kp b c B w w'

set_option maxHeartbeats 4000000 in
theorem take3 (B b c me : Nat) (op arg : Int) (R : Rul) (w : World) (hR : RuleAt w b c R) (hme : me < R.l.length) (hBb : B ≤ b) (hBc : B ≤ c) (hk : IsKind R.kind) (hr : rightB me 3 op arg = true) :
    Calls Try.prog 7 #[.pointer (some ⟨b, 0, none⟩), .agg #[.int .i64 (me : Int), .int .i64 3, .int .i64 op, .int .i64 arg]] w (TakeEnd b c B w (bif R.presentB me then 0 else 8) (bif R.presentB me then R.appear me else R)) := by
  have hne := hR.ne
  have hne' := Ne.symm hR.ne
  have hb := hR.head.lt
  have hc := hR.body.lt
  have hBw : B ≤ w.heap.size := by omega
  obtain ⟨k0, k1, k2, k3⟩ := hR.heads
  have hfb := hR.head.frozen
  have hfc := hR.body.frozen
  obtain ⟨t0, t1, t2, t3, t4, t5, t6, t7, t8⟩ := hR.task hme
  have HR := Lib.hid hR; clear hR
  have hl := HR.out.len
  have HRR := Lib.hid hr; clear hr
  have hb' : b < w.heap.size + 1 := by omega
  have hc' : c < w.heap.size + 1 := by omega
  go_enter Try.func7, Try.ntmps7
  go_wp2_with fail
  refine (right_full _ _ _ _ _).mono ?_
  rintro e w1 ⟨rfl, hbe⟩
  rw [HRR.out]
  have hb1 := hbe.mono (show w.heap.size + 1 ≤ _ by simp [go_sem])
  have hb0 := hb1.mono (show w.heap.size ≤ _ by omega)
  clear hbe
  have HR1 := Lib.hid ((HR.out.alloc _).below' hb1 hb' hc')
  obtain ⟨hcc, hff⟩ := bcell hb1
  go_wp2_with fail
  go_quiet (fail)
  go_wp2_with fail
  go_quiet (fail)
  go_wp2_with fail
  refine (come3_any B b c me R _ ?_ hme hBb hBc hk).mono ?_
  · repeat (first | with_reducible exact HR.out | with_reducible exact HR1.out | with_reducible refine RuleAt.drewN ?_ _ | with_reducible refine RuleAt.drew ?_ | with_reducible refine RuleAt.alloc ?_ _)
  intro e w2 hT
  obtain ⟨rfl, hR2, hb2⟩ := hT
  cases hok : R.presentB me
  all_goals
    rw [hok] at hR2
    go_wp2_with fail
    go_ret
    unfold TakeEnd
    rw [hok]
    refine ⟨rfl, hR2, Kp.trans ?_ hb2⟩
    repeat (first | with_reducible exact Kp.refl _ _ _ _ | with_reducible refine Kp.next ?_ (by with_reducible assumption) hBw | with_reducible refine Kp.next ?_ (by with_reducible assumption) hBw | with_reducible refine Kp.drewN ?_ _ | with_reducible refine Kp.drew ?_ | with_reducible refine Kp.alloc ?_ hBw _ | with_reducible refine Kp.setCell ?_ (by first | exact hBb | exact hBc) (by first | exact .inl rfl | exact .inr rfl) _)

set_option maxHeartbeats 4000000 in
theorem take4 (B b c me : Nat) (op arg : Int) (R : Rul) (w : World) (hR : RuleAt w b c R) (hme : me < R.l.length) (hBb : B ≤ b) (hBc : B ≤ c) (hk : IsKind R.kind) (hr : rightB me 4 op arg = true) :
    Calls Try.prog 7 #[.pointer (some ⟨b, 0, none⟩), .agg #[.int .i64 (me : Int), .int .i64 4, .int .i64 op, .int .i64 arg]] w (TakeEnd b c B w (bif R.admitB me then 0 else 8) (bif R.admitB me then R.set me { R.t me with hold := (R.t me).req, req := 0 } else R)) := by
  have hne := hR.ne
  have hne' := Ne.symm hR.ne
  have hb := hR.head.lt
  have hc := hR.body.lt
  have hBw : B ≤ w.heap.size := by omega
  obtain ⟨k0, k1, k2, k3⟩ := hR.heads
  have hfb := hR.head.frozen
  have hfc := hR.body.frozen
  obtain ⟨t0, t1, t2, t3, t4, t5, t6, t7, t8⟩ := hR.task hme
  have HR := Lib.hid hR; clear hR
  have hl := HR.out.len
  have HRR := Lib.hid hr; clear hr
  have hb' : b < w.heap.size + 1 := by omega
  have hc' : c < w.heap.size + 1 := by omega
  go_enter Try.func7, Try.ntmps7
  go_wp2_with fail
  refine (right_full _ _ _ _ _).mono ?_
  rintro e w1 ⟨rfl, hbe⟩
  rw [HRR.out]
  have hb1 := hbe.mono (show w.heap.size + 1 ≤ _ by simp [go_sem])
  have hb0 := hb1.mono (show w.heap.size ≤ _ by omega)
  clear hbe
  have HR1 := Lib.hid ((HR.out.alloc _).below' hb1 hb' hc')
  obtain ⟨hcc, hff⟩ := bcell hb1
  go_wp2_with fail
  go_quiet (fail)
  go_wp2_with fail
  go_quiet (fail)
  go_wp2_with fail
  refine (come4_any B b c me R _ ?_ hme hBb hBc hk).mono ?_
  · repeat (first | with_reducible exact HR.out | with_reducible exact HR1.out | with_reducible refine RuleAt.drewN ?_ _ | with_reducible refine RuleAt.drew ?_ | with_reducible refine RuleAt.alloc ?_ _)
  intro e w2 hT
  obtain ⟨rfl, hR2, hb2⟩ := hT
  cases hok : R.admitB me
  all_goals
    rw [hok] at hR2
    go_wp2_with fail
    go_ret
    unfold TakeEnd
    rw [hok]
    refine ⟨rfl, hR2, Kp.trans ?_ hb2⟩
    repeat (first | with_reducible exact Kp.refl _ _ _ _ | with_reducible refine Kp.next ?_ (by with_reducible assumption) hBw | with_reducible refine Kp.next ?_ (by with_reducible assumption) hBw | with_reducible refine Kp.drewN ?_ _ | with_reducible refine Kp.drew ?_ | with_reducible refine Kp.alloc ?_ hBw _ | with_reducible refine Kp.setCell ?_ (by first | exact hBb | exact hBc) (by first | exact .inl rfl | exact .inr rfl) _)

set_option maxHeartbeats 4000000 in
theorem take5 (B b c me : Nat) (op arg : Int) (R : Rul) (w : World) (hR : RuleAt w b c R) (hme : me < R.l.length) (hBb : B ≤ b) (hBc : B ≤ c) (hk : IsKind R.kind) (hr : rightB me 5 op arg = true) :
    Calls Try.prog 7 #[.pointer (some ⟨b, 0, none⟩), .agg #[.int .i64 (me : Int), .int .i64 5, .int .i64 op, .int .i64 arg]] w (TakeEnd b c B w (bif R.refuseB me then 0 else 8) (bif R.refuseB me then R.set me { R.t me with refused := true } else R)) := by
  have hne := hR.ne
  have hne' := Ne.symm hR.ne
  have hb := hR.head.lt
  have hc := hR.body.lt
  have hBw : B ≤ w.heap.size := by omega
  obtain ⟨k0, k1, k2, k3⟩ := hR.heads
  have hfb := hR.head.frozen
  have hfc := hR.body.frozen
  obtain ⟨t0, t1, t2, t3, t4, t5, t6, t7, t8⟩ := hR.task hme
  have HR := Lib.hid hR; clear hR
  have hl := HR.out.len
  have HRR := Lib.hid hr; clear hr
  have hb' : b < w.heap.size + 1 := by omega
  have hc' : c < w.heap.size + 1 := by omega
  go_enter Try.func7, Try.ntmps7
  go_wp2_with fail
  refine (right_full _ _ _ _ _).mono ?_
  rintro e w1 ⟨rfl, hbe⟩
  rw [HRR.out]
  have hb1 := hbe.mono (show w.heap.size + 1 ≤ _ by simp [go_sem])
  have hb0 := hb1.mono (show w.heap.size ≤ _ by omega)
  clear hbe
  have HR1 := Lib.hid ((HR.out.alloc _).below' hb1 hb' hc')
  obtain ⟨hcc, hff⟩ := bcell hb1
  go_wp2_with fail
  go_quiet (fail)
  go_wp2_with fail
  go_quiet (fail)
  go_wp2_with fail
  refine (come5_any B b c me R _ ?_ hme hBb hBc hk).mono ?_
  · repeat (first | with_reducible exact HR.out | with_reducible exact HR1.out | with_reducible refine RuleAt.drewN ?_ _ | with_reducible refine RuleAt.drew ?_ | with_reducible refine RuleAt.alloc ?_ _)
  intro e w2 hT
  obtain ⟨rfl, hR2, hb2⟩ := hT
  cases hok : R.refuseB me
  all_goals
    rw [hok] at hR2
    go_wp2_with fail
    go_ret
    unfold TakeEnd
    rw [hok]
    refine ⟨rfl, hR2, Kp.trans ?_ hb2⟩
    repeat (first | with_reducible exact Kp.refl _ _ _ _ | with_reducible refine Kp.next ?_ (by with_reducible assumption) hBw | with_reducible refine Kp.next ?_ (by with_reducible assumption) hBw | with_reducible refine Kp.drewN ?_ _ | with_reducible refine Kp.drew ?_ | with_reducible refine Kp.alloc ?_ hBw _ | with_reducible refine Kp.setCell ?_ (by first | exact hBb | exact hBc) (by first | exact .inl rfl | exact .inr rfl) _)

set_option maxHeartbeats 4000000 in
theorem take9 (B b c me : Nat) (op arg : Int) (R : Rul) (w : World) (hR : RuleAt w b c R) (hme : me < R.l.length) (hBb : B ≤ b) (hBc : B ≤ c) (hk : IsKind R.kind) (hr : rightB me 9 op arg = true) :
    Calls Try.prog 7 #[.pointer (some ⟨b, 0, none⟩), .agg #[.int .i64 (me : Int), .int .i64 9, .int .i64 op, .int .i64 arg]] w (TakeEnd b c B w (bif R.upB me then 0 else 8) (bif R.upB me then R.set me { R.t me with hold := 2, req := 0 } else R)) := by
  have hne := hR.ne
  have hne' := Ne.symm hR.ne
  have hb := hR.head.lt
  have hc := hR.body.lt
  have hBw : B ≤ w.heap.size := by omega
  obtain ⟨k0, k1, k2, k3⟩ := hR.heads
  have hfb := hR.head.frozen
  have hfc := hR.body.frozen
  obtain ⟨t0, t1, t2, t3, t4, t5, t6, t7, t8⟩ := hR.task hme
  have HR := Lib.hid hR; clear hR
  have hl := HR.out.len
  have HRR := Lib.hid hr; clear hr
  have hb' : b < w.heap.size + 1 := by omega
  have hc' : c < w.heap.size + 1 := by omega
  go_enter Try.func7, Try.ntmps7
  go_wp2_with fail
  refine (right_full _ _ _ _ _).mono ?_
  rintro e w1 ⟨rfl, hbe⟩
  rw [HRR.out]
  have hb1 := hbe.mono (show w.heap.size + 1 ≤ _ by simp [go_sem])
  have hb0 := hb1.mono (show w.heap.size ≤ _ by omega)
  clear hbe
  have HR1 := Lib.hid ((HR.out.alloc _).below' hb1 hb' hc')
  obtain ⟨hcc, hff⟩ := bcell hb1
  go_wp2_with fail
  go_quiet (fail)
  go_wp2_with fail
  go_quiet (fail)
  go_wp2_with fail
  refine (come9_any B b c me R _ ?_ hme hBb hBc hk).mono ?_
  · repeat (first | with_reducible exact HR.out | with_reducible exact HR1.out | with_reducible refine RuleAt.drewN ?_ _ | with_reducible refine RuleAt.drew ?_ | with_reducible refine RuleAt.alloc ?_ _)
  intro e w2 hT
  obtain ⟨rfl, hR2, hb2⟩ := hT
  cases hok : R.upB me
  all_goals
    rw [hok] at hR2
    go_wp2_with fail
    go_ret
    unfold TakeEnd
    rw [hok]
    refine ⟨rfl, hR2, Kp.trans ?_ hb2⟩
    repeat (first | with_reducible exact Kp.refl _ _ _ _ | with_reducible refine Kp.next ?_ (by with_reducible assumption) hBw | with_reducible refine Kp.next ?_ (by with_reducible assumption) hBw | with_reducible refine Kp.drewN ?_ _ | with_reducible refine Kp.drew ?_ | with_reducible refine Kp.alloc ?_ hBw _ | with_reducible refine Kp.setCell ?_ (by first | exact hBb | exact hBc) (by first | exact .inl rfl | exact .inr rfl) _)

set_option maxHeartbeats 4000000 in
theorem take6 (B b c me : Nat) (op arg : Int) (R : Rul) (w : World) (hR : RuleAt w b c R) (hme : me < R.l.length) (hBb : B ≤ b) (hBc : B ≤ c) (hk : IsKind R.kind) (hr : rightB me 6 op arg = true) :
    Calls Try.prog 7 #[.pointer (some ⟨b, 0, none⟩), .agg #[.int .i64 (me : Int), .int .i64 6, .int .i64 op, .int .i64 arg]] w (TakeEnd b c B w (bif R.releaseB me then 0 else 8) (bif R.releaseB me then R.set me { R.t me with hold := 0 } else R)) := by
  have hne := hR.ne
  have hne' := Ne.symm hR.ne
  have hb := hR.head.lt
  have hc := hR.body.lt
  have hBw : B ≤ w.heap.size := by omega
  obtain ⟨k0, k1, k2, k3⟩ := hR.heads
  have hfb := hR.head.frozen
  have hfc := hR.body.frozen
  obtain ⟨t0, t1, t2, t3, t4, t5, t6, t7, t8⟩ := hR.task hme
  have HR := Lib.hid hR; clear hR
  have hl := HR.out.len
  have HRR := Lib.hid hr; clear hr
  have hb' : b < w.heap.size + 1 := by omega
  have hc' : c < w.heap.size + 1 := by omega
  go_enter Try.func7, Try.ntmps7
  go_wp2_with fail
  refine (right_full _ _ _ _ _).mono ?_
  rintro e w1 ⟨rfl, hbe⟩
  rw [HRR.out]
  have hb1 := hbe.mono (show w.heap.size + 1 ≤ _ by simp [go_sem])
  have hb0 := hb1.mono (show w.heap.size ≤ _ by omega)
  clear hbe
  have HR1 := Lib.hid ((HR.out.alloc _).below' hb1 hb' hc')
  obtain ⟨hcc, hff⟩ := bcell hb1
  go_wp2_with fail
  go_quiet (fail)
  go_wp2_with fail
  go_quiet (fail)
  go_wp2_with fail
  refine (goes6_any B b c me R _ ?_ hme hBb hBc hk).mono ?_
  · repeat (first | with_reducible exact HR.out | with_reducible exact HR1.out | with_reducible refine RuleAt.drewN ?_ _ | with_reducible refine RuleAt.drew ?_ | with_reducible refine RuleAt.alloc ?_ _)
  intro e w2 hT
  obtain ⟨rfl, hR2, hb2⟩ := hT
  cases hok : R.releaseB me
  all_goals
    rw [hok] at hR2
    go_wp2_with fail
    go_ret
    unfold TakeEnd
    rw [hok]
    refine ⟨rfl, hR2, Kp.trans ?_ hb2⟩
    repeat (first | with_reducible exact Kp.refl _ _ _ _ | with_reducible refine Kp.next ?_ (by with_reducible assumption) hBw | with_reducible refine Kp.next ?_ (by with_reducible assumption) hBw | with_reducible refine Kp.drewN ?_ _ | with_reducible refine Kp.drew ?_ | with_reducible refine Kp.alloc ?_ hBw _ | with_reducible refine Kp.setCell ?_ (by first | exact hBb | exact hBc) (by first | exact .inl rfl | exact .inr rfl) _)

set_option maxHeartbeats 4000000 in
theorem take7 (B b c me : Nat) (op arg : Int) (R : Rul) (w : World) (hR : RuleAt w b c R) (hme : me < R.l.length) (hBb : B ≤ b) (hBc : B ≤ c) (hk : IsKind R.kind) (hr : rightB me 7 op arg = true) :
    Calls Try.prog 7 #[.pointer (some ⟨b, 0, none⟩), .agg #[.int .i64 (me : Int), .int .i64 7, .int .i64 op, .int .i64 arg]] w (TakeEnd b c B w (bif R.leaveB me then 0 else 8) (bif R.leaveB me then R.set me { R.t me with hold := 0, presence := 0, leaving := true } else R)) := by
  have hne := hR.ne
  have hne' := Ne.symm hR.ne
  have hb := hR.head.lt
  have hc := hR.body.lt
  have hBw : B ≤ w.heap.size := by omega
  obtain ⟨k0, k1, k2, k3⟩ := hR.heads
  have hfb := hR.head.frozen
  have hfc := hR.body.frozen
  obtain ⟨t0, t1, t2, t3, t4, t5, t6, t7, t8⟩ := hR.task hme
  have HR := Lib.hid hR; clear hR
  have hl := HR.out.len
  have HRR := Lib.hid hr; clear hr
  have hb' : b < w.heap.size + 1 := by omega
  have hc' : c < w.heap.size + 1 := by omega
  go_enter Try.func7, Try.ntmps7
  go_wp2_with fail
  refine (right_full _ _ _ _ _).mono ?_
  rintro e w1 ⟨rfl, hbe⟩
  rw [HRR.out]
  have hb1 := hbe.mono (show w.heap.size + 1 ≤ _ by simp [go_sem])
  have hb0 := hb1.mono (show w.heap.size ≤ _ by omega)
  clear hbe
  have HR1 := Lib.hid ((HR.out.alloc _).below' hb1 hb' hc')
  obtain ⟨hcc, hff⟩ := bcell hb1
  go_wp2_with fail
  go_quiet (fail)
  go_wp2_with fail
  go_quiet (fail)
  go_wp2_with fail
  refine (goes7_any B b c me R _ ?_ hme hBb hBc hk).mono ?_
  · repeat (first | with_reducible exact HR.out | with_reducible exact HR1.out | with_reducible refine RuleAt.drewN ?_ _ | with_reducible refine RuleAt.drew ?_ | with_reducible refine RuleAt.alloc ?_ _)
  intro e w2 hT
  obtain ⟨rfl, hR2, hb2⟩ := hT
  cases hok : R.leaveB me
  all_goals
    rw [hok] at hR2
    go_wp2_with fail
    go_ret
    unfold TakeEnd
    rw [hok]
    refine ⟨rfl, hR2, Kp.trans ?_ hb2⟩
    repeat (first | with_reducible exact Kp.refl _ _ _ _ | with_reducible refine Kp.next ?_ (by with_reducible assumption) hBw | with_reducible refine Kp.next ?_ (by with_reducible assumption) hBw | with_reducible refine Kp.drewN ?_ _ | with_reducible refine Kp.drew ?_ | with_reducible refine Kp.alloc ?_ hBw _ | with_reducible refine Kp.setCell ?_ (by first | exact hBb | exact hBc) (by first | exact .inl rfl | exact .inr rfl) _)

set_option maxHeartbeats 4000000 in
theorem take8 (B b c me : Nat) (op arg : Int) (R : Rul) (w : World) (hR : RuleAt w b c R) (hme : me < R.l.length) (hBb : B ≤ b) (hBc : B ≤ c) (hk : IsKind R.kind) (hr : rightB me 8 op arg = true) :
    Calls Try.prog 7 #[.pointer (some ⟨b, 0, none⟩), .agg #[.int .i64 (me : Int), .int .i64 8, .int .i64 op, .int .i64 arg]] w (TakeEnd b c B w (bif R.passB me then 0 else 8) (bif R.passB me then R.set me { R.t me with leaving := false, req := 0 } else R)) := by
  have hne := hR.ne
  have hne' := Ne.symm hR.ne
  have hb := hR.head.lt
  have hc := hR.body.lt
  have hBw : B ≤ w.heap.size := by omega
  obtain ⟨k0, k1, k2, k3⟩ := hR.heads
  have hfb := hR.head.frozen
  have hfc := hR.body.frozen
  obtain ⟨t0, t1, t2, t3, t4, t5, t6, t7, t8⟩ := hR.task hme
  have HR := Lib.hid hR; clear hR
  have hl := HR.out.len
  have HRR := Lib.hid hr; clear hr
  have hb' : b < w.heap.size + 1 := by omega
  have hc' : c < w.heap.size + 1 := by omega
  go_enter Try.func7, Try.ntmps7
  go_wp2_with fail
  refine (right_full _ _ _ _ _).mono ?_
  rintro e w1 ⟨rfl, hbe⟩
  rw [HRR.out]
  have hb1 := hbe.mono (show w.heap.size + 1 ≤ _ by simp [go_sem])
  have hb0 := hb1.mono (show w.heap.size ≤ _ by omega)
  clear hbe
  have HR1 := Lib.hid ((HR.out.alloc _).below' hb1 hb' hc')
  obtain ⟨hcc, hff⟩ := bcell hb1
  go_wp2_with fail
  go_quiet (fail)
  go_wp2_with fail
  go_quiet (fail)
  go_wp2_with fail
  refine (goes8_any B b c me R _ ?_ hme hBb hBc hk).mono ?_
  · repeat (first | with_reducible exact HR.out | with_reducible exact HR1.out | with_reducible refine RuleAt.drewN ?_ _ | with_reducible refine RuleAt.drew ?_ | with_reducible refine RuleAt.alloc ?_ _)
  intro e w2 hT
  obtain ⟨rfl, hR2, hb2⟩ := hT
  cases hok : R.passB me
  all_goals
    rw [hok] at hR2
    go_wp2_with fail
    go_ret
    unfold TakeEnd
    rw [hok]
    refine ⟨rfl, hR2, Kp.trans ?_ hb2⟩
    repeat (first | with_reducible exact Kp.refl _ _ _ _ | with_reducible refine Kp.next ?_ (by with_reducible assumption) hBw | with_reducible refine Kp.next ?_ (by with_reducible assumption) hBw | with_reducible refine Kp.drewN ?_ _ | with_reducible refine Kp.drew ?_ | with_reducible refine Kp.alloc ?_ hBw _ | with_reducible refine Kp.setCell ?_ (by first | exact hBb | exact hBc) (by first | exact .inl rfl | exact .inr rfl) _)

set_option maxHeartbeats 4000000 in
theorem take10 (B b c me : Nat) (op arg : Int) (R : Rul) (w : World) (hR : RuleAt w b c R) (hme : me < R.l.length) (hBb : B ≤ b) (hBc : B ≤ c) (hk : IsKind R.kind) (hr : rightB me 10 op arg = true) :
    Calls Try.prog 7 #[.pointer (some ⟨b, 0, none⟩), .agg #[.int .i64 (me : Int), .int .i64 10, .int .i64 op, .int .i64 arg]] w (TakeEnd b c B w (bif R.downB me then 0 else 8) (bif R.downB me then R.set me { R.t me with hold := 1, presence := 0, leaving := ((R.kind == 2) || (R.kind == 3)) } else R)) := by
  have hne := hR.ne
  have hne' := Ne.symm hR.ne
  have hb := hR.head.lt
  have hc := hR.body.lt
  have hBw : B ≤ w.heap.size := by omega
  obtain ⟨k0, k1, k2, k3⟩ := hR.heads
  have hfb := hR.head.frozen
  have hfc := hR.body.frozen
  obtain ⟨t0, t1, t2, t3, t4, t5, t6, t7, t8⟩ := hR.task hme
  have HR := Lib.hid hR; clear hR
  have hl := HR.out.len
  have HRR := Lib.hid hr; clear hr
  have hb' : b < w.heap.size + 1 := by omega
  have hc' : c < w.heap.size + 1 := by omega
  go_enter Try.func7, Try.ntmps7
  go_wp2_with fail
  refine (right_full _ _ _ _ _).mono ?_
  rintro e w1 ⟨rfl, hbe⟩
  rw [HRR.out]
  have hb1 := hbe.mono (show w.heap.size + 1 ≤ _ by simp [go_sem])
  have hb0 := hb1.mono (show w.heap.size ≤ _ by omega)
  clear hbe
  have HR1 := Lib.hid ((HR.out.alloc _).below' hb1 hb' hc')
  obtain ⟨hcc, hff⟩ := bcell hb1
  go_wp2_with fail
  go_quiet (fail)
  go_wp2_with fail
  go_quiet (fail)
  go_wp2_with fail
  refine (goes10_any B b c me R _ ?_ hme hBb hBc hk).mono ?_
  · repeat (first | with_reducible exact HR.out | with_reducible exact HR1.out | with_reducible refine RuleAt.drewN ?_ _ | with_reducible refine RuleAt.drew ?_ | with_reducible refine RuleAt.alloc ?_ _)
  intro e w2 hT
  obtain ⟨rfl, hR2, hb2⟩ := hT
  cases hok : R.downB me
  all_goals
    rw [hok] at hR2
    go_wp2_with fail
    go_ret
    unfold TakeEnd
    rw [hok]
    refine ⟨rfl, hR2, Kp.trans ?_ hb2⟩
    repeat (first | with_reducible exact Kp.refl _ _ _ _ | with_reducible refine Kp.next ?_ (by with_reducible assumption) hBw | with_reducible refine Kp.next ?_ (by with_reducible assumption) hBw | with_reducible refine Kp.drewN ?_ _ | with_reducible refine Kp.drew ?_ | with_reducible refine Kp.alloc ?_ hBw _ | with_reducible refine Kp.setCell ?_ (by first | exact hBb | exact hBc) (by first | exact .inl rfl | exact .inr rfl) _)

set_option maxHeartbeats 4000000 in
theorem take2r (B b c me : Nat) (op : Int) (R : Rul) (w : World) (hR : RuleAt w b c R) (hme : me < R.l.length) (hBb : B ≤ b) (hBc : B ≤ c) (hk : IsKind R.kind) (hr : rightB me 2 op 1 = true) :
    Calls Try.prog 7 #[.pointer (some ⟨b, 0, none⟩), .agg #[.int .i64 (me : Int), .int .i64 2, .int .i64 op, .int .i64 1]] w (TakeEnd b c B w (bif R.regB1 me then 0 else 8) (bif R.regB1 me then R.reg me 1 else R)) := by
  have hne := hR.ne
  have hne' := Ne.symm hR.ne
  have hb := hR.head.lt
  have hc := hR.body.lt
  have hBw : B ≤ w.heap.size := by omega
  obtain ⟨k0, k1, k2, k3⟩ := hR.heads
  have hfb := hR.head.frozen
  have hfc := hR.body.frozen
  obtain ⟨t0, t1, t2, t3, t4, t5, t6, t7, t8⟩ := hR.task hme
  have HR := Lib.hid hR; clear hR
  have hl := HR.out.len
  have HRR := Lib.hid hr; clear hr
  have hb' : b < w.heap.size + 1 := by omega
  have hc' : c < w.heap.size + 1 := by omega
  go_enter Try.func7, Try.ntmps7
  go_wp2_with fail
  refine (right_full _ _ _ _ _).mono ?_
  rintro e w1 ⟨rfl, hbe⟩
  rw [HRR.out]
  have hb1 := hbe.mono (show w.heap.size + 1 ≤ _ by simp [go_sem])
  have hb0 := hb1.mono (show w.heap.size ≤ _ by omega)
  clear hbe
  have HR1 := Lib.hid ((HR.out.alloc _).below' hb1 hb' hc')
  obtain ⟨hcc, hff⟩ := bcell hb1
  go_wp2_with fail
  go_quiet (fail)
  go_wp2_with fail
  go_quiet (fail)
  go_wp2_with fail
  refine (reg1_any B b c me R _ ?_ hme hBb hBc hk).mono ?_
  · repeat (first | with_reducible exact HR.out | with_reducible exact HR1.out | with_reducible refine RuleAt.drewN ?_ _ | with_reducible refine RuleAt.drew ?_ | with_reducible refine RuleAt.alloc ?_ _)
  intro e w2 hT
  obtain ⟨rfl, hR2, hb2⟩ := hT
  cases hok : R.regB1 me
  all_goals
    rw [hok] at hR2
    go_wp2_with fail
    go_ret
    unfold TakeEnd
    rw [hok]
    refine ⟨rfl, hR2, Kp.trans ?_ hb2⟩
    repeat (first | with_reducible exact Kp.refl _ _ _ _ | with_reducible refine Kp.next ?_ (by with_reducible assumption) hBw | with_reducible refine Kp.next ?_ (by with_reducible assumption) hBw | with_reducible refine Kp.drewN ?_ _ | with_reducible refine Kp.drew ?_ | with_reducible refine Kp.alloc ?_ hBw _ | with_reducible refine Kp.setCell ?_ (by first | exact hBb | exact hBc) (by first | exact .inl rfl | exact .inr rfl) _)

set_option maxHeartbeats 4000000 in
theorem take2w (B b c me : Nat) (op : Int) (R : Rul) (w : World) (hR : RuleAt w b c R) (hme : me < R.l.length) (hBb : B ≤ b) (hBc : B ≤ c) (hk : IsKind R.kind) (hr : rightB me 2 op 2 = true) :
    Calls Try.prog 7 #[.pointer (some ⟨b, 0, none⟩), .agg #[.int .i64 (me : Int), .int .i64 2, .int .i64 op, .int .i64 2]] w (TakeEnd b c B w (bif R.regB2 me then 0 else 8) (bif R.regB2 me then R.reg me 2 else R)) := by
  have hne := hR.ne
  have hne' := Ne.symm hR.ne
  have hb := hR.head.lt
  have hc := hR.body.lt
  have hBw : B ≤ w.heap.size := by omega
  obtain ⟨k0, k1, k2, k3⟩ := hR.heads
  have hfb := hR.head.frozen
  have hfc := hR.body.frozen
  obtain ⟨t0, t1, t2, t3, t4, t5, t6, t7, t8⟩ := hR.task hme
  have HR := Lib.hid hR; clear hR
  have hl := HR.out.len
  have HRR := Lib.hid hr; clear hr
  have hb' : b < w.heap.size + 1 := by omega
  have hc' : c < w.heap.size + 1 := by omega
  go_enter Try.func7, Try.ntmps7
  go_wp2_with fail
  refine (right_full _ _ _ _ _).mono ?_
  rintro e w1 ⟨rfl, hbe⟩
  rw [HRR.out]
  have hb1 := hbe.mono (show w.heap.size + 1 ≤ _ by simp [go_sem])
  have hb0 := hb1.mono (show w.heap.size ≤ _ by omega)
  clear hbe
  have HR1 := Lib.hid ((HR.out.alloc _).below' hb1 hb' hc')
  obtain ⟨hcc, hff⟩ := bcell hb1
  go_wp2_with fail
  go_quiet (fail)
  go_wp2_with fail
  go_quiet (fail)
  go_wp2_with fail
  refine (reg2_any B b c me R _ ?_ hme hBb hBc hk).mono ?_
  · repeat (first | with_reducible exact HR.out | with_reducible exact HR1.out | with_reducible refine RuleAt.drewN ?_ _ | with_reducible refine RuleAt.drew ?_ | with_reducible refine RuleAt.alloc ?_ _)
  intro e w2 hT
  obtain ⟨rfl, hR2, hb2⟩ := hT
  cases hok : R.regB2 me
  all_goals
    rw [hok] at hR2
    go_wp2_with fail
    go_ret
    unfold TakeEnd
    rw [hok]
    refine ⟨rfl, hR2, Kp.trans ?_ hb2⟩
    repeat (first | with_reducible exact Kp.refl _ _ _ _ | with_reducible refine Kp.next ?_ (by with_reducible assumption) hBw | with_reducible refine Kp.next ?_ (by with_reducible assumption) hBw | with_reducible refine Kp.drewN ?_ _ | with_reducible refine Kp.drew ?_ | with_reducible refine Kp.alloc ?_ hBw _ | with_reducible refine Kp.setCell ?_ (by first | exact hBb | exact hBc) (by first | exact .inl rfl | exact .inr rfl) _)

set_option maxHeartbeats 4000000 in
theorem take11_1 (B b c me : Nat) (op : Int) (R : Rul) (w : World) (hR : RuleAt w b c R) (hme : me < R.l.length) (hBb : B ≤ b) (hBc : B ≤ c) (hk : IsKind R.kind) (hr : rightB me 11 op 1 = true) :
    Calls Try.prog 7 #[.pointer (some ⟨b, 0, none⟩), .agg #[.int .i64 (me : Int), .int .i64 11, .int .i64 op, .int .i64 1]] w (TakeEnd b c B w (bif R.retB me op 1 then 0 else 8) (bif R.retB me op 1 then R.set me { R.t me with op := 0, refused := false } else R)) := by
  have hne := hR.ne
  have hne' := Ne.symm hR.ne
  have hb := hR.head.lt
  have hc := hR.body.lt
  have hBw : B ≤ w.heap.size := by omega
  obtain ⟨k0, k1, k2, k3⟩ := hR.heads
  have hfb := hR.head.frozen
  have hfc := hR.body.frozen
  obtain ⟨t0, t1, t2, t3, t4, t5, t6, t7, t8⟩ := hR.task hme
  have HR := Lib.hid hR; clear hR
  have hl := HR.out.len
  have HRR := Lib.hid hr; clear hr
  have hb' : b < w.heap.size + 1 := by omega
  have hc' : c < w.heap.size + 1 := by omega
  go_enter Try.func7, Try.ntmps7
  go_wp2_with fail
  refine (right_full _ _ _ _ _).mono ?_
  rintro e w1 ⟨rfl, hbe⟩
  rw [HRR.out]
  have hb1 := hbe.mono (show w.heap.size + 1 ≤ _ by simp [go_sem])
  have hb0 := hb1.mono (show w.heap.size ≤ _ by omega)
  clear hbe
  have HR1 := Lib.hid ((HR.out.alloc _).below' hb1 hb' hc')
  obtain ⟨hcc, hff⟩ := bcell hb1
  go_wp2_with fail
  go_quiet (fail)
  go_wp2_with fail
  go_quiet (fail)
  go_wp2_with fail
  refine (returns1_any B b c me (me : Int) 11 op R _ ?_ hme hBb hBc).mono ?_
  · repeat (first | with_reducible exact HR.out | with_reducible exact HR1.out | with_reducible refine RuleAt.drewN ?_ _ | with_reducible refine RuleAt.drew ?_ | with_reducible refine RuleAt.alloc ?_ _)
  intro e w2 hT
  obtain ⟨rfl, hR2, hb2⟩ := hT
  cases hok : R.retB me op 1
  all_goals
    rw [hok] at hR2
    go_wp2_with fail
    go_ret
    unfold TakeEnd
    rw [hok]
    refine ⟨rfl, hR2, Kp.trans ?_ hb2⟩
    repeat (first | with_reducible exact Kp.refl _ _ _ _ | with_reducible refine Kp.next ?_ (by with_reducible assumption) hBw | with_reducible refine Kp.next ?_ (by with_reducible assumption) hBw | with_reducible refine Kp.drewN ?_ _ | with_reducible refine Kp.drew ?_ | with_reducible refine Kp.alloc ?_ hBw _ | with_reducible refine Kp.setCell ?_ (by first | exact hBb | exact hBc) (by first | exact .inl rfl | exact .inr rfl) _)

set_option maxHeartbeats 4000000 in
theorem take11_2 (B b c me : Nat) (op : Int) (R : Rul) (w : World) (hR : RuleAt w b c R) (hme : me < R.l.length) (hBb : B ≤ b) (hBc : B ≤ c) (hk : IsKind R.kind) (hr : rightB me 11 op 2 = true) :
    Calls Try.prog 7 #[.pointer (some ⟨b, 0, none⟩), .agg #[.int .i64 (me : Int), .int .i64 11, .int .i64 op, .int .i64 2]] w (TakeEnd b c B w (bif R.retB me op 2 then 0 else 8) (bif R.retB me op 2 then R.set me { R.t me with op := 0, refused := false } else R)) := by
  have hne := hR.ne
  have hne' := Ne.symm hR.ne
  have hb := hR.head.lt
  have hc := hR.body.lt
  have hBw : B ≤ w.heap.size := by omega
  obtain ⟨k0, k1, k2, k3⟩ := hR.heads
  have hfb := hR.head.frozen
  have hfc := hR.body.frozen
  obtain ⟨t0, t1, t2, t3, t4, t5, t6, t7, t8⟩ := hR.task hme
  have HR := Lib.hid hR; clear hR
  have hl := HR.out.len
  have HRR := Lib.hid hr; clear hr
  have hb' : b < w.heap.size + 1 := by omega
  have hc' : c < w.heap.size + 1 := by omega
  go_enter Try.func7, Try.ntmps7
  go_wp2_with fail
  refine (right_full _ _ _ _ _).mono ?_
  rintro e w1 ⟨rfl, hbe⟩
  rw [HRR.out]
  have hb1 := hbe.mono (show w.heap.size + 1 ≤ _ by simp [go_sem])
  have hb0 := hb1.mono (show w.heap.size ≤ _ by omega)
  clear hbe
  have HR1 := Lib.hid ((HR.out.alloc _).below' hb1 hb' hc')
  obtain ⟨hcc, hff⟩ := bcell hb1
  go_wp2_with fail
  go_quiet (fail)
  go_wp2_with fail
  go_quiet (fail)
  go_wp2_with fail
  refine (returns2_any B b c me (me : Int) 11 op R _ ?_ hme hBb hBc).mono ?_
  · repeat (first | with_reducible exact HR.out | with_reducible exact HR1.out | with_reducible refine RuleAt.drewN ?_ _ | with_reducible refine RuleAt.drew ?_ | with_reducible refine RuleAt.alloc ?_ _)
  intro e w2 hT
  obtain ⟨rfl, hR2, hb2⟩ := hT
  cases hok : R.retB me op 2
  all_goals
    rw [hok] at hR2
    go_wp2_with fail
    go_ret
    unfold TakeEnd
    rw [hok]
    refine ⟨rfl, hR2, Kp.trans ?_ hb2⟩
    repeat (first | with_reducible exact Kp.refl _ _ _ _ | with_reducible refine Kp.next ?_ (by with_reducible assumption) hBw | with_reducible refine Kp.next ?_ (by with_reducible assumption) hBw | with_reducible refine Kp.drewN ?_ _ | with_reducible refine Kp.drew ?_ | with_reducible refine Kp.alloc ?_ hBw _ | with_reducible refine Kp.setCell ?_ (by first | exact hBb | exact hBc) (by first | exact .inl rfl | exact .inr rfl) _)

set_option maxHeartbeats 4000000 in
theorem take11_3 (B b c me : Nat) (op : Int) (R : Rul) (w : World) (hR : RuleAt w b c R) (hme : me < R.l.length) (hBb : B ≤ b) (hBc : B ≤ c) (hk : IsKind R.kind) (hr : rightB me 11 op 3 = true) :
    Calls Try.prog 7 #[.pointer (some ⟨b, 0, none⟩), .agg #[.int .i64 (me : Int), .int .i64 11, .int .i64 op, .int .i64 3]] w (TakeEnd b c B w (bif R.retB me op 3 then 0 else 8) (bif R.retB me op 3 then R.set me { R.t me with op := 0, refused := false } else R)) := by
  have hne := hR.ne
  have hne' := Ne.symm hR.ne
  have hb := hR.head.lt
  have hc := hR.body.lt
  have hBw : B ≤ w.heap.size := by omega
  obtain ⟨k0, k1, k2, k3⟩ := hR.heads
  have hfb := hR.head.frozen
  have hfc := hR.body.frozen
  obtain ⟨t0, t1, t2, t3, t4, t5, t6, t7, t8⟩ := hR.task hme
  have HR := Lib.hid hR; clear hR
  have hl := HR.out.len
  have HRR := Lib.hid hr; clear hr
  have hb' : b < w.heap.size + 1 := by omega
  have hc' : c < w.heap.size + 1 := by omega
  go_enter Try.func7, Try.ntmps7
  go_wp2_with fail
  refine (right_full _ _ _ _ _).mono ?_
  rintro e w1 ⟨rfl, hbe⟩
  rw [HRR.out]
  have hb1 := hbe.mono (show w.heap.size + 1 ≤ _ by simp [go_sem])
  have hb0 := hb1.mono (show w.heap.size ≤ _ by omega)
  clear hbe
  have HR1 := Lib.hid ((HR.out.alloc _).below' hb1 hb' hc')
  obtain ⟨hcc, hff⟩ := bcell hb1
  go_wp2_with fail
  go_quiet (fail)
  go_wp2_with fail
  go_quiet (fail)
  go_wp2_with fail
  refine (returns3_any B b c me (me : Int) 11 op R _ ?_ hme hBb hBc).mono ?_
  · repeat (first | with_reducible exact HR.out | with_reducible exact HR1.out | with_reducible refine RuleAt.drewN ?_ _ | with_reducible refine RuleAt.drew ?_ | with_reducible refine RuleAt.alloc ?_ _)
  intro e w2 hT
  obtain ⟨rfl, hR2, hb2⟩ := hT
  cases hok : R.retB me op 3
  all_goals
    rw [hok] at hR2
    go_wp2_with fail
    go_ret
    unfold TakeEnd
    rw [hok]
    refine ⟨rfl, hR2, Kp.trans ?_ hb2⟩
    repeat (first | with_reducible exact Kp.refl _ _ _ _ | with_reducible refine Kp.next ?_ (by with_reducible assumption) hBw | with_reducible refine Kp.next ?_ (by with_reducible assumption) hBw | with_reducible refine Kp.drewN ?_ _ | with_reducible refine Kp.drew ?_ | with_reducible refine Kp.alloc ?_ hBw _ | with_reducible refine Kp.setCell ?_ (by first | exact hBb | exact hBc) (by first | exact .inl rfl | exact .inr rfl) _)

end Go.Proofs.Yteifhbkhjkmhfaa
