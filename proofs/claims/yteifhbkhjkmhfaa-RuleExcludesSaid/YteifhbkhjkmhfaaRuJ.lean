/-
  The walks of what registers a request.
-/
import Derived.Test.YteifhbkhjkmhfaaRuI
namespace Go.Proofs.Yteifhbkhjkmhfaa
open Go.RowKit
set_option linter.unusedSimpArgs false
set_option linter.unusedVariables false

/-- The request stands, its bar is 0. -/
def Rul.reg0 (R : Rul) (me : Nat) (cls : Int) : Rul :=
  { R with ranks := wrap64 (R.ranks + 1) }.set me { R.t me with req := cls, rank := wrap64 (R.ranks + 1), bar := 0 }
def Rul.first (R : Rul) : Int := firstIdx R.l.length fun j => decide (0 < (R.t j).presence)
/-- .. and its bar. -/
def Rul.reg (R : Rul) (me : Nat) (cls : Int) : Rul :=
  if (cls == 1) = true ∧ ((R.kind == 2) || (R.kind == 3)) = true ∧ 0 ≤ (R.reg0 me cls).first then
    (R.reg0 me cls).set me { (R.reg0 me cls).t me with bar := ((R.reg0 me cls).t (R.reg0 me cls).first.toNat).presence }
  else R.reg0 me cls

theorem Rul.reg0_len (R : Rul) (me : Nat) (cls : Int) : (R.reg0 me cls).l.length = R.l.length := by simp [Rul.reg0, Rul.set]

theorem RuleAt.reg0 {w : World} {b c me : Nat} {R : Rul} (h : RuleAt w b c R) (hme : me < R.l.length) (cls : Int) :
    RuleAt ((((w.setCell ⟨b, 2, none⟩ (.int .i64 (wrap64 (R.ranks + 1)))).setCell ⟨c, me * 9 + 2, none⟩ (.int .i64 cls)).setCell ⟨c, me * 9 + 3, none⟩ (.int .i64 (wrap64 (R.ranks + 1)))).setCell ⟨c, me * 9 + 6, none⟩ (.int .i64 0)) b c (R.reg0 me cls) :=
  (h.setRanks (wrap64 (R.ranks + 1))).set3 (me := me) hme 2 (by omega) (.int .i64 cls) { R.t me with req := cls } rfl 3 (by omega) (.int .i64 (wrap64 (R.ranks + 1))) { R.t me with req := cls, rank := wrap64 (R.ranks + 1) } rfl
    6 (by omega) (.int .i64 0) { R.t me with req := cls, rank := wrap64 (R.ranks + 1), bar := 0 } rfl

theorem indexFunc_at (b c n : Nat) (R : Rul) (w : World) (hR : RuleAt w b c R) (hn : R.l.length = n) :
    Calls Try.prog 34 #[.slice (some ⟨c, 0, none⟩) n n, .func (.func 35) #[] #[]] w fun e w' => e = .returned (.int .i64 R.first) ∧ Below w.heap.size w w' ∧ RuleAt w' b c R := by
  subst hn; exact (indexFunc_any b c R w hR).mono fun _ _ ⟨he, hb⟩ => ⟨he, hb, hR.below hb⟩

def Rul.regB1 (R : Rul) (me : Nat) : Bool := (((R.t me).op == 1) || ((R.t me).op == 5)) && ((R.t me).hold == 0) && !((R.t me).req != 0)
def Rul.regB2 (R : Rul) (me : Nat) : Bool := (((((R.t me).op == 3) || ((R.t me).op == 6)) && ((R.t me).hold == 0)) || (((R.t me).op == 7) && ((R.t me).hold == 1))) && !((R.t me).req != 0)

set_option maxHeartbeats 4000000 in
theorem reg1_any (B b c me : Nat) (R : Rul) (w : World) (hR : RuleAt w b c R) (hme : me < R.l.length) (hBb : B ≤ b) (hBc : B ≤ c) (hk : IsKind R.kind) :
    Calls Try.prog 19 #[.pointer (some ⟨b, 0, none⟩), .pointer (some ⟨c, me * 9, none⟩), .int .i64 1] w (Took b c B w (R.regB1 me) R (R.reg me 1)) := by
  have hne := hR.ne
  have hne' := Ne.symm hR.ne
  have hb := hR.head.lt
  have hc := hR.body.lt
  have hBw : B ≤ w.heap.size := by omega
  obtain ⟨k0, k1, k2, k3⟩ := hR.heads
  have hfb := hR.head.frozen
  have hfc := hR.body.frozen
  obtain ⟨t0, t1, t2, t3, t4, t5, t6, t7, t8⟩ := hR.task hme
  have HR := Lib.hid hR; clear hR
  have hc2 : c < w.heap.size + 1 + 1 := by omega
  have hb2 : b < w.heap.size + 1 + 1 := by omega
  have HF := Lib.hid (firstIdx_lt (R.reg0 me 1).l.length fun j => decide (0 < ((R.reg0 me 1).t j).presence))
  cases hh0 : ((R.t me).hold == 0)
  all_goals cases hh1 : ((R.t me).hold == 1)
  all_goals
    go_enter Try.func19, Try.ntmps19
    go_wp2_with (first
        | (go_at_call 33; refine (wants_any c (me * 9) (R.t me) _ ?_).mono ?_; (refine RuleAt.task (b := b) ?_ hme; repeat (first | with_reducible exact HR.out | with_reducible refine RuleAt.drewN ?_ _ | with_reducible refine RuleAt.alloc ?_ _ | with_reducible refine RuleAt.below' (B := w.heap.size) ?_ (by with_reducible assumption) hb hc)); rintro e w' ⟨rfl, rfl⟩; cases hq33 : ((R.t me).req != 0))
        | (go_at_call 32; ((with_reducible refine (in2 1 5 c (me * 9) _ (R.t me) _ ?_ ?_ ?_).mono ?_); (refine RuleAt.task (b := b) ?_ hme; repeat (first | with_reducible exact HR.out | with_reducible refine RuleAt.drewN ?_ _ | with_reducible refine RuleAt.alloc ?_ _ | with_reducible refine RuleAt.below' (B := w.heap.size) ?_ (by with_reducible assumption) hb hc)); (focus ((simp [go_sem]); done)); (focus ((simp [go_sem]); done));  rintro e w' ⟨rfl, rfl⟩; cases hq32 : (((R.t me).op == 1) || ((R.t me).op == 5))))
        | (go_at_call 32; ((with_reducible refine (in2 3 6 c (me * 9) _ (R.t me) _ ?_ ?_ ?_).mono ?_); (refine RuleAt.task (b := b) ?_ hme; repeat (first | with_reducible exact HR.out | with_reducible refine RuleAt.drewN ?_ _ | with_reducible refine RuleAt.alloc ?_ _ | with_reducible refine RuleAt.below' (B := w.heap.size) ?_ (by with_reducible assumption) hb hc)); (focus ((simp [go_sem]); done)); (focus ((simp [go_sem]); done));  rintro e w' ⟨rfl, rfl⟩; cases hq32 : (((R.t me).op == 3) || ((R.t me).op == 6))))
        | (go_at_call 32; ((with_reducible refine (in1 7 c (me * 9) _ (R.t me) _ ?_ ?_).mono ?_); (refine RuleAt.task (b := b) ?_ hme; repeat (first | with_reducible exact HR.out | with_reducible refine RuleAt.drewN ?_ _ | with_reducible refine RuleAt.alloc ?_ _ | with_reducible refine RuleAt.below' (B := w.heap.size) ?_ (by with_reducible assumption) hb hc)); (focus ((simp [go_sem]); done));  rintro e w' ⟨rfl, rfl⟩; cases hq32 : ((R.t me).op == 7)))
        | (go_at_call 34; refine (indexFunc_at b c R.l.length (R.reg0 me 1) _ ?_ (Rul.reg0_len _ _ _)).mono ?_; (focus ((repeat (first | with_reducible refine RuleAt.drewN ?_ _ | with_reducible refine RuleAt.alloc ?_ _)); refine RuleAt.reg0 ?_ hme 1; (repeat (first | with_reducible exact HR.out | with_reducible refine RuleAt.drewN ?_ _ | with_reducible refine RuleAt.alloc ?_ _ | with_reducible refine RuleAt.below' (B := w.heap.size) ?_ (by with_reducible assumption) hb hc)); done)); rintro e w1 ⟨rfl, hbe, hR1⟩; have hb1 := hbe.mono (show w.heap.size ≤ _ by (simp [go_sem] <;> omega)); clear hbe; obtain ⟨q0, q1, q2, q3⟩ := hR1.heads; have hfc1 := hR1.body.frozen; have hme1 : me < (R.reg0 me 1).l.length := (by rw [Rul.reg0_len]; exact hme); have HR1 := Lib.hid hR1; clear hR1; have hlen : (R.reg0 me 1).l.length = R.l.length := Rul.reg0_len _ _ _; rw [hlen] at q1; have HLEN := Lib.hid hlen; clear hlen; obtain ⟨i, hi⟩ : ∃ i, (R.reg0 me 1).first = i := ⟨_, rfl⟩; have hlt : i < R.l.length ∧ -1 ≤ i := (by rw [← hi, ← HLEN.out]; exact HF.out); rw [hi]; have HI := Lib.hid hi; clear hi; obtain ⟨_, _, _, _, _, _, s6, _, _⟩ := HR1.out.task hme1; obtain ⟨hlt1, hlt2⟩ := hlt; (cases hge : decide (0 ≤ i)) <;> (try (have hge2 := of_decide_eq_true hge; obtain ⟨j, rfl⟩ := Int.eq_ofNat_of_zero_le hge2; obtain ⟨_, _, _, _, p4, _, _, _, _⟩ := HR1.out.task (j := j) (by rw [HLEN.out]; omega))))
        | (go_at_call 37; refine (phases_any b R.kind _ ?_).mono ?_; (first | (simp [go_sem, *]; done) | (rw [q0]; rfl)); rintro e w' ⟨rfl, rfl⟩; cases hq37 : ((R.kind == 2) || (R.kind == 3))))
    all_goals
      go_ret
      first
      | (refine Took.no ?_ ?_ ?_; (focus simp only [Rul.regB1, *, Bool.false_and, Bool.and_false, Bool.true_and, Bool.and_true, Bool.not_true, Bool.not_false, Bool.or_true, Bool.true_or, Bool.or_false, Bool.false_or, Bool.and_self, Bool.or_self]; done); (focus ((repeat (first | with_reducible exact HR.out | with_reducible refine RuleAt.drewN ?_ _ | with_reducible refine RuleAt.alloc ?_ _ | with_reducible refine RuleAt.below' (B := w.heap.size) ?_ (by with_reducible assumption) hb hc)); done)); (focus ((repeat (first | with_reducible exact Kp.refl _ _ _ _ | with_reducible refine Kp.next ?_ (by with_reducible assumption) hBw | with_reducible refine Kp.drewN ?_ _ | with_reducible refine Kp.drew ?_ | with_reducible refine Kp.alloc ?_ hBw _ | with_reducible refine Kp.setCell ?_ (by first | exact hBb | exact hBc) (by first | exact .inl rfl | exact .inr rfl) _)); done)))
      | (refine Took.yes ?_ ?_ ?_; (focus simp only [Rul.regB1, *, Bool.false_and, Bool.and_false, Bool.true_and, Bool.and_true, Bool.not_true, Bool.not_false, Bool.or_true, Bool.true_or, Bool.or_false, Bool.false_or, Bool.and_self, Bool.or_self]; done); (focus (unfold Rul.reg; rw [if_neg (by rintro ⟨_, _, h3⟩; rw [HI.out] at h3; exact absurd h3 (of_decide_eq_false hge))]; exact HR1.out)); (focus ((repeat (first | with_reducible exact Kp.refl _ _ _ _ | with_reducible refine Kp.next ?_ (by with_reducible assumption) hBw | with_reducible refine Kp.drewN ?_ _ | with_reducible refine Kp.drew ?_ | with_reducible refine Kp.alloc ?_ hBw _ | with_reducible refine Kp.setCell ?_ (by first | exact hBb | exact hBc) (by first | exact .inl rfl | exact .inr rfl) _)); done)))
      | (refine Took.yes ?_ ?_ ?_; (focus simp only [Rul.regB1, *, Bool.false_and, Bool.and_false, Bool.true_and, Bool.and_true, Bool.not_true, Bool.not_false, Bool.or_true, Bool.true_or, Bool.or_false, Bool.false_or, Bool.and_self, Bool.or_self]; done); (focus (unfold Rul.reg; rw [if_neg (by rintro ⟨_, h2, _⟩; rw [hq37] at h2; cases h2)]; exact HR1.out)); (focus ((repeat (first | with_reducible exact Kp.refl _ _ _ _ | with_reducible refine Kp.next ?_ (by with_reducible assumption) hBw | with_reducible refine Kp.drewN ?_ _ | with_reducible refine Kp.drew ?_ | with_reducible refine Kp.alloc ?_ hBw _ | with_reducible refine Kp.setCell ?_ (by first | exact hBb | exact hBc) (by first | exact .inl rfl | exact .inr rfl) _)); done)))
      | (refine Took.yes ?_ ?_ ?_; (focus simp only [Rul.regB1, *, Bool.false_and, Bool.and_false, Bool.true_and, Bool.and_true, Bool.not_true, Bool.not_false, Bool.or_true, Bool.true_or, Bool.or_false, Bool.false_or, Bool.and_self, Bool.or_self]; done); (focus (unfold Rul.reg; rw [if_neg (by rintro ⟨h1, _, _⟩; cases h1)]; exact HR1.out)); (focus ((repeat (first | with_reducible exact Kp.refl _ _ _ _ | with_reducible refine Kp.next ?_ (by with_reducible assumption) hBw | with_reducible refine Kp.drewN ?_ _ | with_reducible refine Kp.drew ?_ | with_reducible refine Kp.alloc ?_ hBw _ | with_reducible refine Kp.setCell ?_ (by first | exact hBb | exact hBc) (by first | exact .inl rfl | exact .inr rfl) _)); done)))
      | (refine Took.yes ?_ ?_ ?_; (focus simp only [Rul.regB1, *, Bool.false_and, Bool.and_false, Bool.true_and, Bool.and_true, Bool.not_true, Bool.not_false, Bool.or_true, Bool.true_or, Bool.or_false, Bool.false_or, Bool.and_self, Bool.or_self]; done); (focus (unfold Rul.reg; rw [if_pos ⟨rfl, hq37, by rw [HI.out]; exact hge2⟩, HI.out, Int.toNat_natCast]; exact HR1.out.set hme1 6 (by omega) _ _ rfl)); (focus ((repeat (first | with_reducible exact Kp.refl _ _ _ _ | with_reducible refine Kp.next ?_ (by with_reducible assumption) hBw | with_reducible refine Kp.drewN ?_ _ | with_reducible refine Kp.drew ?_ | with_reducible refine Kp.alloc ?_ hBw _ | with_reducible refine Kp.setCell ?_ (by first | exact hBb | exact hBc) (by first | exact .inl rfl | exact .inr rfl) _)); done)))

set_option maxHeartbeats 4000000 in
theorem reg2_any (B b c me : Nat) (R : Rul) (w : World) (hR : RuleAt w b c R) (hme : me < R.l.length) (hBb : B ≤ b) (hBc : B ≤ c) (hk : IsKind R.kind) :
    Calls Try.prog 19 #[.pointer (some ⟨b, 0, none⟩), .pointer (some ⟨c, me * 9, none⟩), .int .i64 2] w (Took b c B w (R.regB2 me) R (R.reg me 2)) := by
  have hne := hR.ne
  have hne' := Ne.symm hR.ne
  have hb := hR.head.lt
  have hc := hR.body.lt
  have hBw : B ≤ w.heap.size := by omega
  obtain ⟨k0, k1, k2, k3⟩ := hR.heads
  have hfb := hR.head.frozen
  have hfc := hR.body.frozen
  obtain ⟨t0, t1, t2, t3, t4, t5, t6, t7, t8⟩ := hR.task hme
  have HR := Lib.hid hR; clear hR
  have hc2 : c < w.heap.size + 1 + 1 := by omega
  have hb2 : b < w.heap.size + 1 + 1 := by omega
  have HF := Lib.hid (firstIdx_lt (R.reg0 me 2).l.length fun j => decide (0 < ((R.reg0 me 2).t j).presence))
  cases hh0 : ((R.t me).hold == 0)
  all_goals cases hh1 : ((R.t me).hold == 1)
  all_goals
    go_enter Try.func19, Try.ntmps19
    go_wp2_with (first
        | (go_at_call 33; refine (wants_any c (me * 9) (R.t me) _ ?_).mono ?_; (refine RuleAt.task (b := b) ?_ hme; repeat (first | with_reducible exact HR.out | with_reducible refine RuleAt.drewN ?_ _ | with_reducible refine RuleAt.alloc ?_ _ | with_reducible refine RuleAt.below' (B := w.heap.size) ?_ (by with_reducible assumption) hb hc)); rintro e w' ⟨rfl, rfl⟩; cases hq33 : ((R.t me).req != 0))
        | (go_at_call 32; ((with_reducible refine (in2 1 5 c (me * 9) _ (R.t me) _ ?_ ?_ ?_).mono ?_); (refine RuleAt.task (b := b) ?_ hme; repeat (first | with_reducible exact HR.out | with_reducible refine RuleAt.drewN ?_ _ | with_reducible refine RuleAt.alloc ?_ _ | with_reducible refine RuleAt.below' (B := w.heap.size) ?_ (by with_reducible assumption) hb hc)); (focus ((simp [go_sem]); done)); (focus ((simp [go_sem]); done));  rintro e w' ⟨rfl, rfl⟩; cases hq32 : (((R.t me).op == 1) || ((R.t me).op == 5))))
        | (go_at_call 32; ((with_reducible refine (in2 3 6 c (me * 9) _ (R.t me) _ ?_ ?_ ?_).mono ?_); (refine RuleAt.task (b := b) ?_ hme; repeat (first | with_reducible exact HR.out | with_reducible refine RuleAt.drewN ?_ _ | with_reducible refine RuleAt.alloc ?_ _ | with_reducible refine RuleAt.below' (B := w.heap.size) ?_ (by with_reducible assumption) hb hc)); (focus ((simp [go_sem]); done)); (focus ((simp [go_sem]); done));  rintro e w' ⟨rfl, rfl⟩; cases hq32 : (((R.t me).op == 3) || ((R.t me).op == 6))))
        | (go_at_call 32; ((with_reducible refine (in1 7 c (me * 9) _ (R.t me) _ ?_ ?_).mono ?_); (refine RuleAt.task (b := b) ?_ hme; repeat (first | with_reducible exact HR.out | with_reducible refine RuleAt.drewN ?_ _ | with_reducible refine RuleAt.alloc ?_ _ | with_reducible refine RuleAt.below' (B := w.heap.size) ?_ (by with_reducible assumption) hb hc)); (focus ((simp [go_sem]); done));  rintro e w' ⟨rfl, rfl⟩; cases hq32 : ((R.t me).op == 7)))
        | (go_at_call 34; refine (indexFunc_at b c R.l.length (R.reg0 me 2) _ ?_ (Rul.reg0_len _ _ _)).mono ?_; (focus ((repeat (first | with_reducible refine RuleAt.drewN ?_ _ | with_reducible refine RuleAt.alloc ?_ _)); refine RuleAt.reg0 ?_ hme 2; (repeat (first | with_reducible exact HR.out | with_reducible refine RuleAt.drewN ?_ _ | with_reducible refine RuleAt.alloc ?_ _ | with_reducible refine RuleAt.below' (B := w.heap.size) ?_ (by with_reducible assumption) hb hc)); done)); rintro e w1 ⟨rfl, hbe, hR1⟩; have hb1 := hbe.mono (show w.heap.size ≤ _ by (simp [go_sem] <;> omega)); clear hbe; obtain ⟨q0, q1, q2, q3⟩ := hR1.heads; have hfc1 := hR1.body.frozen; have hme1 : me < (R.reg0 me 2).l.length := (by rw [Rul.reg0_len]; exact hme); have HR1 := Lib.hid hR1; clear hR1; have hlen : (R.reg0 me 2).l.length = R.l.length := Rul.reg0_len _ _ _; rw [hlen] at q1; have HLEN := Lib.hid hlen; clear hlen; obtain ⟨i, hi⟩ : ∃ i, (R.reg0 me 2).first = i := ⟨_, rfl⟩; have hlt : i < R.l.length ∧ -1 ≤ i := (by rw [← hi, ← HLEN.out]; exact HF.out); rw [hi]; have HI := Lib.hid hi; clear hi; obtain ⟨_, _, _, _, _, _, s6, _, _⟩ := HR1.out.task hme1; obtain ⟨hlt1, hlt2⟩ := hlt; (cases hge : decide (0 ≤ i)) <;> (try (have hge2 := of_decide_eq_true hge; obtain ⟨j, rfl⟩ := Int.eq_ofNat_of_zero_le hge2; obtain ⟨_, _, _, _, p4, _, _, _, _⟩ := HR1.out.task (j := j) (by rw [HLEN.out]; omega))))
        | (go_at_call 37; refine (phases_any b R.kind _ ?_).mono ?_; (first | (simp [go_sem, *]; done) | (rw [q0]; rfl)); rintro e w' ⟨rfl, rfl⟩; cases hq37 : ((R.kind == 2) || (R.kind == 3))))
    all_goals
      go_ret
      first
      | (refine Took.no ?_ ?_ ?_; (focus simp only [Rul.regB2, *, Bool.false_and, Bool.and_false, Bool.true_and, Bool.and_true, Bool.not_true, Bool.not_false, Bool.or_true, Bool.true_or, Bool.or_false, Bool.false_or, Bool.and_self, Bool.or_self]; done); (focus ((repeat (first | with_reducible exact HR.out | with_reducible refine RuleAt.drewN ?_ _ | with_reducible refine RuleAt.alloc ?_ _ | with_reducible refine RuleAt.below' (B := w.heap.size) ?_ (by with_reducible assumption) hb hc)); done)); (focus ((repeat (first | with_reducible exact Kp.refl _ _ _ _ | with_reducible refine Kp.next ?_ (by with_reducible assumption) hBw | with_reducible refine Kp.drewN ?_ _ | with_reducible refine Kp.drew ?_ | with_reducible refine Kp.alloc ?_ hBw _ | with_reducible refine Kp.setCell ?_ (by first | exact hBb | exact hBc) (by first | exact .inl rfl | exact .inr rfl) _)); done)))
      | (refine Took.yes ?_ ?_ ?_; (focus simp only [Rul.regB2, *, Bool.false_and, Bool.and_false, Bool.true_and, Bool.and_true, Bool.not_true, Bool.not_false, Bool.or_true, Bool.true_or, Bool.or_false, Bool.false_or, Bool.and_self, Bool.or_self]; done); (focus (unfold Rul.reg; rw [if_neg (by rintro ⟨_, _, h3⟩; rw [HI.out] at h3; exact absurd h3 (of_decide_eq_false hge))]; exact HR1.out)); (focus ((repeat (first | with_reducible exact Kp.refl _ _ _ _ | with_reducible refine Kp.next ?_ (by with_reducible assumption) hBw | with_reducible refine Kp.drewN ?_ _ | with_reducible refine Kp.drew ?_ | with_reducible refine Kp.alloc ?_ hBw _ | with_reducible refine Kp.setCell ?_ (by first | exact hBb | exact hBc) (by first | exact .inl rfl | exact .inr rfl) _)); done)))
      | (refine Took.yes ?_ ?_ ?_; (focus simp only [Rul.regB2, *, Bool.false_and, Bool.and_false, Bool.true_and, Bool.and_true, Bool.not_true, Bool.not_false, Bool.or_true, Bool.true_or, Bool.or_false, Bool.false_or, Bool.and_self, Bool.or_self]; done); (focus (unfold Rul.reg; rw [if_neg (by rintro ⟨_, h2, _⟩; rw [hq37] at h2; cases h2)]; exact HR1.out)); (focus ((repeat (first | with_reducible exact Kp.refl _ _ _ _ | with_reducible refine Kp.next ?_ (by with_reducible assumption) hBw | with_reducible refine Kp.drewN ?_ _ | with_reducible refine Kp.drew ?_ | with_reducible refine Kp.alloc ?_ hBw _ | with_reducible refine Kp.setCell ?_ (by first | exact hBb | exact hBc) (by first | exact .inl rfl | exact .inr rfl) _)); done)))
      | (refine Took.yes ?_ ?_ ?_; (focus simp only [Rul.regB2, *, Bool.false_and, Bool.and_false, Bool.true_and, Bool.and_true, Bool.not_true, Bool.not_false, Bool.or_true, Bool.true_or, Bool.or_false, Bool.false_or, Bool.and_self, Bool.or_self]; done); (focus (unfold Rul.reg; rw [if_neg (by rintro ⟨h1, _, _⟩; cases h1)]; exact HR1.out)); (focus ((repeat (first | with_reducible exact Kp.refl _ _ _ _ | with_reducible refine Kp.next ?_ (by with_reducible assumption) hBw | with_reducible refine Kp.drewN ?_ _ | with_reducible refine Kp.drew ?_ | with_reducible refine Kp.alloc ?_ hBw _ | with_reducible refine Kp.setCell ?_ (by first | exact hBb | exact hBc) (by first | exact .inl rfl | exact .inr rfl) _)); done)))
      | (refine Took.yes ?_ ?_ ?_; (focus simp only [Rul.regB2, *, Bool.false_and, Bool.and_false, Bool.true_and, Bool.and_true, Bool.not_true, Bool.not_false, Bool.or_true, Bool.true_or, Bool.or_false, Bool.false_or, Bool.and_self, Bool.or_self]; done); (focus (unfold Rul.reg; rw [if_pos ⟨rfl, hq37, by rw [HI.out]; exact hge2⟩, HI.out, Int.toNat_natCast]; exact HR1.out.set hme1 6 (by omega) _ _ rfl)); (focus ((repeat (first | with_reducible exact Kp.refl _ _ _ _ | with_reducible refine Kp.next ?_ (by with_reducible assumption) hBw | with_reducible refine Kp.drewN ?_ _ | with_reducible refine Kp.drew ?_ | with_reducible refine Kp.alloc ?_ hBw _ | with_reducible refine Kp.setCell ?_ (by first | exact hBb | exact hBc) (by first | exact .inl rfl | exact .inr rfl) _)); done)))

end Go.Proofs.Yteifhbkhjkmhfaa
