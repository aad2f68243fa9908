/-
  The walks of what makes a task present, and of what takes a note of a request.
-/
import Derived.Test.YteifhbkhjkmhfaaRuF
import Derived.RegionTactic
import Derived.BigRegion
namespace Go.Proofs.Yteifhbkhjkmhfaa
open Go.RowKit
set_option linter.unusedSimpArgs false
set_option linter.unusedVariables false

theorem bcell {B : Nat} {W w1 : World} (hb : Below B W w1) : (∀ b o, b < B → w1.cell? ⟨b, o, none⟩ = W.cell? ⟨b, o, none⟩) ∧ (∀ b o, b < B → w1.frozen? ⟨b, o, none⟩ = W.frozen? ⟨b, o, none⟩) :=
  ⟨fun b o h => hb.cell (p := ⟨b, o, none⟩) h, fun b o h => hb.frozen (p := ⟨b, o, none⟩) h⟩

/-- Nothing below B has turned, and of all that was there only the blocks b and c may have. -/
structure Kp (b c B : Nat) (w w' : World) : Prop where
  below : Below B w w'
  other : ∀ g, g < w.heap.size → g ≠ b → g ≠ c → w'.heap[g]? = w.heap[g]?

section
variable {b c B : Nat} {w X Y : World}
theorem Kp.refl (b c B : Nat) (w : World) : Kp b c B w w := ⟨Below.refl _ _, fun _ _ _ _ => rfl⟩
theorem Kp.trans (h : Kp b c B w X) (k : Kp b c B X Y) : Kp b c B w Y := ⟨h.below.trans k.below, fun g hg hb hc => (k.other g (Nat.lt_of_lt_of_le hg h.below.size) hb hc).trans (h.other g hg hb hc)⟩
theorem Kp.next (h : Kp b c B w X) (k : Below w.heap.size X Y) (hB : B ≤ w.heap.size) : Kp b c B w Y := ⟨h.below.trans (k.mono hB), fun g hg hb hc => (k.block g hg).trans (h.other g hg hb hc)⟩
theorem Kp.drewN (h : Kp b c B w X) (n : Nat) : Kp b c B w (X.drewN n) := ⟨below_drewN h.below n, h.other⟩
theorem Kp.drew (h : Kp b c B w X) : Kp b c B w X.drew := ⟨h.below.drew, h.other⟩
theorem Kp.alloc (h : Kp b c B w X) (hB : B ≤ w.heap.size) (o : Obj) : Kp b c B w (X.alloc o) :=
  ⟨h.below.alloc (Nat.le_trans hB h.below.size) o, fun g hg hb hc => (Below.heap_alloc X o g (Nat.lt_of_lt_of_le hg h.below.size)).trans (h.other g hg hb hc)⟩
theorem Kp.setCell (h : Kp b c B w X) {p : Addr} (hp : B ≤ p.block) (hbc : p.block = b ∨ p.block = c) (v : Value) : Kp b c B w (X.setCell p v) :=
  ⟨h.below.setCell hp v, fun g hg hb hc => (Below.heap_setCell X p v g (by rcases hbc with e | e <;> rw [e] <;> assumption)).trans (h.other g hg hb hc)⟩
end

/-- A note was taken (ok), or not: what the rule is then, and that nothing below B has turned. -/
def Took (b c B : Nat) (w : World) (ok : Bool) (R R' : Rul) (e : Ending) (w' : World) : Prop :=
  e = .returned (.bool ok) ∧ RuleAt w' b c (bif ok then R' else R) ∧ Kp b c B w w'
theorem Took.no {b c B : Nat} {w w' : World} {ok : Bool} {R R' : Rul} (h : ok = false) (hR : RuleAt w' b c R) (hB : Kp b c B w w') : Took b c B w ok R R' (.returned (.bool false)) w' := by
  subst h; exact ⟨rfl, hR, hB⟩
theorem Took.yes {b c B : Nat} {w w' : World} {ok : Bool} {R R' : Rul} (h : ok = true) (hR : RuleAt w' b c R') (hB : Kp b c B w w') : Took b c B w ok R R' (.returned (.bool true)) w' := by
  subst h; exact ⟨rfl, hR, hB⟩

def Rul.appear (R : Rul) (me : Nat) : Rul :=
  { R with presences := wrap64 (R.presences + 1) }.set me { R.t me with presence := wrap64 (R.presences + 1), seen := R.ranks }

theorem RuleAt.drew {w : World} {b c : Nat} {R : Rul} (h : RuleAt w b c R) : RuleAt w.drew b c R := ⟨h.head, h.body, h.len⟩

theorem RuleAt.set2 {w : World} {b c me : Nat} {R : Rul} (h : RuleAt w b c R) (hme : me < R.l.length) (i : Nat) (hi : i < 9) (v : Value) (t1 : Tsk) (h1 : t1.cells = (R.t me).cells.set i v)
    (j : Nat) (hj : j < 9) (u : Value) (t2 : Tsk) (h2 : t2.cells = t1.cells.set j u) :
    RuleAt ((w.setCell ⟨c, me * 9 + i, none⟩ v).setCell ⟨c, me * 9 + j, none⟩ u) b c (R.set me t2) := by
  have := (h.set hme i hi v t1 h1).set (me := me) (by simpa [Rul.set] using hme) j hj u t2 (by rw [Rul.t_set _ hme]; exact h2)
  rwa [Rul.set_set] at this
theorem RuleAt.set3 {w : World} {b c me : Nat} {R : Rul} (h : RuleAt w b c R) (hme : me < R.l.length) (i : Nat) (hi : i < 9) (v : Value) (t1 : Tsk) (h1 : t1.cells = (R.t me).cells.set i v)
    (j : Nat) (hj : j < 9) (u : Value) (t2 : Tsk) (h2 : t2.cells = t1.cells.set j u) (k : Nat) (hk : k < 9) (x : Value) (t3 : Tsk) (h3 : t3.cells = t2.cells.set k x) :
    RuleAt (((w.setCell ⟨c, me * 9 + i, none⟩ v).setCell ⟨c, me * 9 + j, none⟩ u).setCell ⟨c, me * 9 + k, none⟩ x) b c (R.set me t3) := by
  have := (h.set2 hme i hi v t1 h1 j hj u t2 h2).set (me := me) (by simpa [Rul.set] using hme) k hk x t3 (by rw [Rul.t_set _ hme]; exact h3)
  rwa [Rul.set_set] at this

set_option maxHeartbeats 2000000 in
theorem appear_any (B b c me : Nat) (R : Rul) (w : World) (hR : RuleAt w b c R) (hme : me < R.l.length) (hBb : B ≤ b) (hBc : B ≤ c) :
    Calls Try.prog 45 #[.pointer (some ⟨b, 0, none⟩), .pointer (some ⟨c, me * 9, none⟩)] w
      fun e w' => e = .returned (.tuple #[]) ∧ RuleAt w' b c (R.appear me) ∧ Kp b c B w w' := by
  have hne := hR.ne
  have hne' := Ne.symm hR.ne
  have hb := hR.head.lt
  have hc := hR.body.lt
  have hBw : B ≤ w.heap.size := by omega
  obtain ⟨k0, k1, k2, k3⟩ := hR.heads
  have hfb := hR.head.frozen
  have hfc := hR.body.frozen
  obtain ⟨t0, t1, t2, t3, t4, t5, t6, t7, t8⟩ := hR.task hme
  have HR := Lib.hid hR; clear hR
  go_enter Try.func45, Try.ntmps45
  go_wp2
  go_region
  go_end0
  refine ⟨rfl, ?_, ?_⟩
  · refine RuleAt.drew ?_
    exact (HR.out.setPresences (wrap64 (R.presences + 1))).set2 (me := me) hme 4 (by omega) (.int .i64 (wrap64 (R.presences + 1))) { R.t me with presence := wrap64 (R.presences + 1) } rfl
      5 (by omega) (.int .i64 R.ranks) { R.t me with presence := wrap64 (R.presences + 1), seen := R.ranks } rfl
  · exact ((((Kp.refl _ _ _ _).setCell (p := ⟨b, 3, none⟩) hBb (.inl rfl) _).setCell (p := ⟨c, me * 9 + 4, none⟩) hBc (.inr rfl) _).setCell (p := ⟨c, me * 9 + 5, none⟩) hBc (.inr rfl) _).drew

def Rul.presentB (R : Rul) (me : Nat) : Bool :=
  ((R.kind == 2) || (R.kind == 3)) && ((R.t me).req == 2) && !decide (0 < (R.t me).presence) && !((R.t me).hold == 2) && !(R.t me).leaving && !R.others me busyB && !R.others me (beforeB 2 (R.t me))

set_option maxHeartbeats 4000000 in
theorem come3_any (B b c me : Nat) (R : Rul) (w : World) (hR : RuleAt w b c R) (hme : me < R.l.length) (hBb : B ≤ b) (hBc : B ≤ c) (hk : IsKind R.kind) :
    Calls Try.prog 21 #[.pointer (some ⟨b, 0, none⟩), .pointer (some ⟨c, me * 9, none⟩), .int .i64 3] w (Took b c B w (R.presentB me) R (R.appear me)) := by
  have hne := hR.ne
  have hne' := Ne.symm hR.ne
  have hb := hR.head.lt
  have hc := hR.body.lt
  have hBw : B ≤ w.heap.size := by omega
  obtain ⟨k0, k1, k2, k3⟩ := hR.heads
  have hfb := hR.head.frozen
  have hfc := hR.body.frozen
  obtain ⟨t0, t1, t2, t3, t4, t5, t6, t7, t8⟩ := hR.task hme
  have HR := Lib.hid hR; clear hR
  cases hlv : (R.t me).leaving
  all_goals
    rw [hlv] at t7
    go_enter Try.func21, Try.ntmps21
    go_wp2_with (first
        | (go_at_call 42; ((with_reducible refine (o_wants (b := b) (c := c) (me := me) (R := R) ?_ hme).mono ?_); (repeat (first | with_reducible exact HR.out | with_reducible refine RuleAt.drewN ?_ _ | with_reducible refine RuleAt.alloc ?_ _ | with_reducible refine RuleAt.below' (B := w.heap.size) ?_ (by with_reducible assumption) hb hc)); rintro e w' ⟨rfl, n, rfl⟩; cases hq42_33 : R.others me (fun t => t.req != 0)))
        | (go_at_call 42; ((with_reducible refine (o_present (b := b) (c := c) (me := me) (R := R) ?_ hme).mono ?_); (repeat (first | with_reducible exact HR.out | with_reducible refine RuleAt.drewN ?_ _ | with_reducible refine RuleAt.alloc ?_ _ | with_reducible refine RuleAt.below' (B := w.heap.size) ?_ (by with_reducible assumption) hb hc)); rintro e w' ⟨rfl, n, rfl⟩; cases hq42_36 : R.others me (fun t => decide (0 < t.presence))))
        | (go_at_call 42; ((with_reducible refine (o_wantsWrite (b := b) (c := c) (me := me) (R := R) ?_ hme).mono ?_); (repeat (first | with_reducible exact HR.out | with_reducible refine RuleAt.drewN ?_ _ | with_reducible refine RuleAt.alloc ?_ _ | with_reducible refine RuleAt.below' (B := w.heap.size) ?_ (by with_reducible assumption) hb hc)); rintro e w' ⟨rfl, n, rfl⟩; cases hq42_40 : R.others me (fun t => t.req == 2)))
        | (go_at_call 42; ((with_reducible refine (o_writes (b := b) (c := c) (me := me) (R := R) ?_ hme).mono ?_); (repeat (first | with_reducible exact HR.out | with_reducible refine RuleAt.drewN ?_ _ | with_reducible refine RuleAt.alloc ?_ _ | with_reducible refine RuleAt.below' (B := w.heap.size) ?_ (by with_reducible assumption) hb hc)); rintro e w' ⟨rfl, n, rfl⟩; cases hq42_41 : R.others me (fun t => t.hold == 2)))
        | (go_at_call 42; ((with_reducible refine (o_come (b := b) (c := c) (me := me) (R := R) ?_ hme).mono ?_); (repeat (first | with_reducible exact HR.out | with_reducible refine RuleAt.drewN ?_ _ | with_reducible refine RuleAt.alloc ?_ _ | with_reducible refine RuleAt.below' (B := w.heap.size) ?_ (by with_reducible assumption) hb hc)); rintro e w' ⟨rfl, n, rfl⟩; cases hq42_43 : R.others me busyB))
        | (go_at_call 42; ((with_reducible refine (o_wantsRead (b := b) (c := c) (me := me) (R := R) ?_ hme).mono ?_); (repeat (first | with_reducible exact HR.out | with_reducible refine RuleAt.drewN ?_ _ | with_reducible refine RuleAt.alloc ?_ _ | with_reducible refine RuleAt.below' (B := w.heap.size) ?_ (by with_reducible assumption) hb hc)); rintro e w' ⟨rfl, n, rfl⟩; cases hq42_46 : R.others me (fun t => t.req == 1)))
        | (go_at_call 42; ((with_reducible refine (o_holds (b := b) (c := c) (me := me) (R := R) ?_ hme).mono ?_); (repeat (first | with_reducible exact HR.out | with_reducible refine RuleAt.drewN ?_ _ | with_reducible refine RuleAt.alloc ?_ _ | with_reducible refine RuleAt.below' (B := w.heap.size) ?_ (by with_reducible assumption) hb hc)); rintro e w' ⟨rfl, n, rfl⟩; cases hq42_58 : R.others me (fun t => t.hold != 0)))
        | (go_at_call 42; ((with_reducible refine (o_leaves (b := b) (c := c) (me := me) (R := R) ?_ hme).mono ?_); (repeat (first | with_reducible exact HR.out | with_reducible refine RuleAt.drewN ?_ _ | with_reducible refine RuleAt.alloc ?_ _ | with_reducible refine RuleAt.below' (B := w.heap.size) ?_ (by with_reducible assumption) hb hc)); rintro e w' ⟨rfl, n, rfl⟩; cases hq42_59 : R.others me (fun t => t.leaving)))
        | (go_at_call 42; ((with_reducible refine (o_before (b := b) (c := c) (me := me) (R := R) ?_ hme _ _ 2 ?_ ?_).mono ?_); (repeat (first | with_reducible exact HR.out | with_reducible refine RuleAt.drewN ?_ _ | with_reducible refine RuleAt.alloc ?_ _ | with_reducible refine RuleAt.below' (B := w.heap.size) ?_ (by with_reducible assumption) hb hc)); (simp [go_sem, cell_new_drewN]); (simp [go_sem, cell_new_drewN]); rintro e w' ⟨rfl, n, rfl⟩; cases hq56 : R.others me (beforeB 2 (R.t me))))
        | (go_at_call 44; refine (before_any _ _ _).mono ?_; rintro e w' ⟨rfl, rfl⟩)
        | (go_at_call 33; refine (wants_any c (me * 9) (R.t me) _ ?_).mono ?_; (refine RuleAt.task (b := b) ?_ hme; repeat (first | with_reducible exact HR.out | with_reducible refine RuleAt.drewN ?_ _ | with_reducible refine RuleAt.alloc ?_ _ | with_reducible refine RuleAt.below' (B := w.heap.size) ?_ (by with_reducible assumption) hb hc)); rintro e w' ⟨rfl, rfl⟩; cases hq33 : ((R.t me).req != 0))
        | (go_at_call 36; refine (present_any c (me * 9) (R.t me) _ ?_).mono ?_; (refine RuleAt.task (b := b) ?_ hme; repeat (first | with_reducible exact HR.out | with_reducible refine RuleAt.drewN ?_ _ | with_reducible refine RuleAt.alloc ?_ _ | with_reducible refine RuleAt.below' (B := w.heap.size) ?_ (by with_reducible assumption) hb hc)); rintro e w' ⟨rfl, rfl⟩; cases hq36 : (decide (0 < (R.t me).presence)))
        | (go_at_call 40; refine (wantsWrite_any c (me * 9) (R.t me) _ ?_).mono ?_; (refine RuleAt.task (b := b) ?_ hme; repeat (first | with_reducible exact HR.out | with_reducible refine RuleAt.drewN ?_ _ | with_reducible refine RuleAt.alloc ?_ _ | with_reducible refine RuleAt.below' (B := w.heap.size) ?_ (by with_reducible assumption) hb hc)); rintro e w' ⟨rfl, rfl⟩; cases hq40 : ((R.t me).req == 2))
        | (go_at_call 41; refine (writes_any c (me * 9) (R.t me) _ ?_).mono ?_; (refine RuleAt.task (b := b) ?_ hme; repeat (first | with_reducible exact HR.out | with_reducible refine RuleAt.drewN ?_ _ | with_reducible refine RuleAt.alloc ?_ _ | with_reducible refine RuleAt.below' (B := w.heap.size) ?_ (by with_reducible assumption) hb hc)); rintro e w' ⟨rfl, rfl⟩; cases hq41 : ((R.t me).hold == 2))
        | (go_at_call 46; refine (wantsRead_any c (me * 9) (R.t me) _ ?_).mono ?_; (refine RuleAt.task (b := b) ?_ hme; repeat (first | with_reducible exact HR.out | with_reducible refine RuleAt.drewN ?_ _ | with_reducible refine RuleAt.alloc ?_ _ | with_reducible refine RuleAt.below' (B := w.heap.size) ?_ (by with_reducible assumption) hb hc)); rintro e w' ⟨rfl, rfl⟩; cases hq46 : ((R.t me).req == 1))
        | (go_at_call 37; refine (phases_any b R.kind _ ?_).mono ?_; (simp [go_sem, *]); rintro e w' ⟨rfl, rfl⟩; cases hq37 : ((R.kind == 2) || (R.kind == 3)))
        | (go_at_call 47; refine (reader_any b c me R _ ?_ hme hk).mono ?_; (repeat (first | with_reducible exact HR.out | with_reducible refine RuleAt.drewN ?_ _ | with_reducible refine RuleAt.alloc ?_ _ | with_reducible refine RuleAt.below' (B := w.heap.size) ?_ (by with_reducible assumption) hb hc)); rintro e w1 ⟨rfl, hbe⟩; have hb1 := hbe.mono (show w.heap.size ≤ _ by first | exact Nat.le_refl _ | (simp [go_sem] <;> omega)); clear hbe; obtain ⟨hcc, hff⟩ := bcell hb1; cases hq47 : R.readerB me)
        | (go_at_call 48; refine (writer_any b c me R _ ?_ hme hk).mono ?_; (repeat (first | with_reducible exact HR.out | with_reducible refine RuleAt.drewN ?_ _ | with_reducible refine RuleAt.alloc ?_ _ | with_reducible refine RuleAt.below' (B := w.heap.size) ?_ (by with_reducible assumption) hb hc)); rintro e w1 ⟨rfl, hbe⟩; have hb1 := hbe.mono (show w.heap.size ≤ _ by first | exact Nat.le_refl _ | (simp [go_sem] <;> omega)); clear hbe; obtain ⟨hcc, hff⟩ := bcell hb1; cases hq48 : R.writerB me)
        | (go_at_call 49; refine (refusal_any b c me R _ ?_ hme hk).mono ?_; (repeat (first | with_reducible exact HR.out | with_reducible refine RuleAt.drewN ?_ _ | with_reducible refine RuleAt.alloc ?_ _ | with_reducible refine RuleAt.below' (B := w.heap.size) ?_ (by with_reducible assumption) hb hc)); rintro e w1 ⟨rfl, hbe⟩; have hb1 := hbe.mono (show w.heap.size ≤ _ by first | exact Nat.le_refl _ | (simp [go_sem] <;> omega)); clear hbe; obtain ⟨hcc, hff⟩ := bcell hb1; cases hq49 : R.refusalB me)
        | (go_at_call 50; refine (ascent_any b c me R _ ?_ hme hk).mono ?_; (repeat (first | with_reducible exact HR.out | with_reducible refine RuleAt.drewN ?_ _ | with_reducible refine RuleAt.alloc ?_ _ | with_reducible refine RuleAt.below' (B := w.heap.size) ?_ (by with_reducible assumption) hb hc)); rintro e w1 ⟨rfl, hbe⟩; have hb1 := hbe.mono (show w.heap.size ≤ _ by first | exact Nat.le_refl _ | (simp [go_sem] <;> omega)); clear hbe; obtain ⟨hcc, hff⟩ := bcell hb1; cases hq50 : R.ascentB me)
        | (go_at_call 45; refine (appear_any B b c me R _ ?_ hme hBb hBc).mono ?_; (repeat (first | with_reducible exact HR.out | with_reducible refine RuleAt.drewN ?_ _ | with_reducible refine RuleAt.alloc ?_ _ | with_reducible refine RuleAt.below' (B := w.heap.size) ?_ (by with_reducible assumption) hb hc)); rintro e w2 ⟨rfl, hR2, hb2⟩))
    all_goals
      go_ret
      first
      | (refine Took.no ?_ ?_ ?_; (focus simp only [Rul.presentB, *, Bool.false_and, Bool.and_false, Bool.true_and, Bool.and_true, Bool.not_true, Bool.not_false, Bool.or_true, Bool.true_or, Bool.or_false, Bool.false_or, Bool.and_self, Bool.or_self]; done); (focus ((repeat (first | with_reducible exact HR.out | with_reducible refine RuleAt.drewN ?_ _ | with_reducible refine RuleAt.alloc ?_ _ | with_reducible refine RuleAt.below' (B := w.heap.size) ?_ (by with_reducible assumption) hb hc)); done)); (focus ((repeat (first | with_reducible exact Kp.refl _ _ _ _ | with_reducible refine Kp.next ?_ (by with_reducible assumption) hBw | with_reducible refine Kp.drewN ?_ _ | with_reducible refine Kp.drew ?_ | with_reducible refine Kp.alloc ?_ hBw _ | with_reducible refine Kp.setCell ?_ (by first | exact hBb | exact hBc) (by first | exact .inl rfl | exact .inr rfl) _)); done)))
      | (refine Took.yes ?_ hR2 (Kp.trans ?_ hb2); (focus simp only [Rul.presentB, *, Bool.false_and, Bool.and_false, Bool.true_and, Bool.and_true, Bool.not_true, Bool.not_false, Bool.or_true, Bool.true_or, Bool.or_false, Bool.false_or, Bool.and_self, Bool.or_self]; done); (focus ((repeat (first | with_reducible exact Kp.refl _ _ _ _ | with_reducible refine Kp.next ?_ (by with_reducible assumption) hBw | with_reducible refine Kp.drewN ?_ _ | with_reducible refine Kp.drew ?_ | with_reducible refine Kp.alloc ?_ hBw _ | with_reducible refine Kp.setCell ?_ (by first | exact hBb | exact hBc) (by first | exact .inl rfl | exact .inr rfl) _)); done)))

end Go.Proofs.Yteifhbkhjkmhfaa
