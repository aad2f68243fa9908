/-
  The walk of what takes a note: a call; notes that are refused; all notes.
-/
import Derived.Test.YteifhbkhjkmhfaaRuM
namespace Go.Proofs.Yteifhbkhjkmhfaa
open Go.RowKit
set_option linter.unusedSimpArgs false
set_option linter.unusedVariables false


theorem atS_some {ss : List ByteArray} {n : Int} (h0 : ss.getD 0 ⟨#[]⟩ = ⟨#[]⟩) (h : (atS ss n).toList.isEmpty = false) : 1 ≤ n ∧ n < ss.length := by
  unfold atS at h
  split at h
  · simp at h
  · refine ⟨?_, by omega⟩
    rcases Int.lt_or_le 0 n with hp | hp
    · omega
    · have : n = 0 := by omega
      subst this
      rw [show (0 : Int).toNat = 0 from rfl, h0] at h
      simp at h

theorem rightB_split {tk what op arg : Int} (h : rightB tk what op arg = true) :
    0 ≤ tk ∧ tk < 64 ∧ 1 ≤ what ∧ what < 12 ∧ (what = 2 → 1 ≤ arg ∧ arg < 3) ∧ (what = 11 → 1 ≤ arg ∧ arg < 4) := by
  unfold rightB at h
  split at h
  · cases h
  · rename_i h1
    simp only [Bool.or_eq_true, decide_eq_true_eq, not_or] at h1
    obtain ⟨⟨h1, h2⟩, h3⟩ := h1
    have hw := atS_some (ss := whatsL) rfl (Bool.eq_false_iff.2 h3)
    split at h
    · cases h
    · refine ⟨by omega, by omega, hw.1, hw.2, ?_, ?_⟩
      · rintro rfl
        simp at h
        exact atS_some (ss := regL) rfl (by show (regS arg).toList.isEmpty = false; simpa using h)
      · rintro rfl
        simp at h
        exact atS_some (ss := retL) rfl (by show (retS arg).toList.isEmpty = false; simpa using h)

set_option maxHeartbeats 4000000 in
theorem take1 (B b c me : Nat) (op arg : Int) (R : Rul) (w : World) (hR : RuleAt w b c R) (hme : me < R.l.length) (hBb : B ≤ b) (hBc : B ≤ c) (hr : rightB me 1 op arg = true) :
    Calls Try.prog 7 #[.pointer (some ⟨b, 0, none⟩), .agg #[.int .i64 (me : Int), .int .i64 1, .int .i64 op, .int .i64 arg]] w (TakeEnd b c B w (bif ((R.t me).op == 0) then 0 else 8) (bif ((R.t me).op == 0) then R.set me { R.t me with op := op } else R)) := by
  have hne := hR.ne
  have hne' := Ne.symm hR.ne
  have hb := hR.head.lt
  have hc := hR.body.lt
  have hBw : B ≤ w.heap.size := by omega
  obtain ⟨k0, k1, k2, k3⟩ := hR.heads
  have hfb := hR.head.frozen
  have hfc := hR.body.frozen
  obtain ⟨t0, t1, t2, t3, t4, t5, t6, t7, t8⟩ := hR.task hme
  have HR := Lib.hid hR; clear hR
  have hl := HR.out.len
  have HRR := Lib.hid hr; clear hr
  have hb' : b < w.heap.size + 1 := by omega
  have hc' : c < w.heap.size + 1 := by omega
  cases hok : ((R.t me).op == 0)
  all_goals
    go_enter Try.func7, Try.ntmps7
    go_wp2_with fail
    refine (right_full _ _ _ _ _).mono ?_
    rintro e w1 ⟨rfl, hbe⟩
    rw [HRR.out]
    have hb1 := hbe.mono (show w.heap.size + 1 ≤ _ by simp [go_sem])
    have hb0 := hb1.mono (show w.heap.size ≤ _ by omega)
    clear hbe
    have HR1 := Lib.hid ((HR.out.alloc _).below' hb1 hb' hc')
    obtain ⟨hcc, hff⟩ := bcell hb1
    go_wp2_with fail
    go_quiet (fail)
    go_wp2_with fail
    go_quiet (fail)
    go_wp2_with fail
    go_ret
    unfold TakeEnd
    try rw [hok]
  · refine ⟨rfl, ?_, ?_⟩
    · dsimp only [cond_true, cond_false]
      repeat (first | with_reducible exact HR.out | with_reducible exact HR1.out | with_reducible refine RuleAt.drewN ?_ _ | with_reducible refine RuleAt.drew ?_ | with_reducible refine RuleAt.alloc ?_ _)
    · repeat (first | with_reducible exact Kp.refl _ _ _ _ | with_reducible refine Kp.next ?_ (by with_reducible assumption) hBw | with_reducible refine Kp.next ?_ (by with_reducible assumption) hBw | with_reducible refine Kp.drewN ?_ _ | with_reducible refine Kp.drew ?_ | with_reducible refine Kp.alloc ?_ hBw _ | with_reducible refine Kp.setCell ?_ (by first | exact hBb | exact hBc) (by first | exact .inl rfl | exact .inr rfl) _)
  · refine ⟨rfl, ?_, ?_⟩
    · dsimp only [cond_true, cond_false]
      refine RuleAt.set (b := b) (R := R) ?_ hme 0 (by omega) _ { R.t me with op := op } rfl
      repeat (first | with_reducible exact HR.out | with_reducible exact HR1.out | with_reducible refine RuleAt.drewN ?_ _ | with_reducible refine RuleAt.drew ?_ | with_reducible refine RuleAt.alloc ?_ _)
    · repeat (first | with_reducible exact Kp.refl _ _ _ _ | with_reducible refine Kp.next ?_ (by with_reducible assumption) hBw | with_reducible refine Kp.next ?_ (by with_reducible assumption) hBw | with_reducible refine Kp.drewN ?_ _ | with_reducible refine Kp.drew ?_ | with_reducible refine Kp.alloc ?_ hBw _ | with_reducible refine Kp.setCell ?_ (by first | exact hBb | exact hBc) (by first | exact .inl rfl | exact .inr rfl) _)

set_option maxHeartbeats 4000000 in
theorem take_wrong (B b c : Nat) (tk what op arg : Int) (R : Rul) (w : World) (hR : RuleAt w b c R) (hBb : B ≤ b) (hBc : B ≤ c) (hr : rightB tk what op arg = false) :
    Calls Try.prog 7 #[.pointer (some ⟨b, 0, none⟩), .agg #[.int .i64 tk, .int .i64 what, .int .i64 op, .int .i64 arg]] w (TakeEnd b c B w 4 R) := by
  have hne := hR.ne
  have hne' := Ne.symm hR.ne
  have hb := hR.head.lt
  have hc := hR.body.lt
  have hBw : B ≤ w.heap.size := by omega
  obtain ⟨k0, k1, k2, k3⟩ := hR.heads
  have hfb := hR.head.frozen
  have hfc := hR.body.frozen
  have HR := Lib.hid hR; clear hR
  have hl := HR.out.len
  have HRR := Lib.hid hr; clear hr
  have hb' : b < w.heap.size + 1 := by omega
  have hc' : c < w.heap.size + 1 := by omega
  go_enter Try.func7, Try.ntmps7
  go_wp2_with fail
  refine (right_full _ _ _ _ _).mono ?_
  rintro e w1 ⟨rfl, hbe⟩
  rw [HRR.out]
  have hb1 := hbe.mono (show w.heap.size + 1 ≤ _ by simp [go_sem])
  have hb0 := hb1.mono (show w.heap.size ≤ _ by omega)
  clear hbe
  have HR1 := Lib.hid ((HR.out.alloc _).below' hb1 hb' hc')
  obtain ⟨hcc, hff⟩ := bcell hb1
  go_wp2_with fail
  go_ret
  unfold TakeEnd
  refine ⟨rfl, ?_, ?_⟩
  · repeat (first | with_reducible exact HR.out | with_reducible exact HR1.out | with_reducible refine RuleAt.drewN ?_ _ | with_reducible refine RuleAt.drew ?_ | with_reducible refine RuleAt.alloc ?_ _)
  · repeat (first | with_reducible exact Kp.refl _ _ _ _ | with_reducible refine Kp.next ?_ (by with_reducible assumption) hBw | with_reducible refine Kp.next ?_ (by with_reducible assumption) hBw | with_reducible refine Kp.drewN ?_ _ | with_reducible refine Kp.drew ?_ | with_reducible refine Kp.alloc ?_ hBw _ | with_reducible refine Kp.setCell ?_ (by first | exact hBb | exact hBc) (by first | exact .inl rfl | exact .inr rfl) _)

set_option maxHeartbeats 4000000 in
theorem take_far (B b c : Nat) (tk what op arg : Int) (R : Rul) (w : World) (hR : RuleAt w b c R) (hBb : B ≤ b) (hBc : B ≤ c) (hr : rightB tk what op arg = true) (hf : (R.l.length : Int) ≤ tk) :
    Calls Try.prog 7 #[.pointer (some ⟨b, 0, none⟩), .agg #[.int .i64 tk, .int .i64 what, .int .i64 op, .int .i64 arg]] w (TakeEnd b c B w 2 R) := by
  have hne := hR.ne
  have hne' := Ne.symm hR.ne
  have hb := hR.head.lt
  have hc := hR.body.lt
  have hBw : B ≤ w.heap.size := by omega
  obtain ⟨k0, k1, k2, k3⟩ := hR.heads
  have hfb := hR.head.frozen
  have hfc := hR.body.frozen
  have HR := Lib.hid hR; clear hR
  have hl := HR.out.len
  have HRR := Lib.hid hr; clear hr
  have hb' : b < w.heap.size + 1 := by omega
  have hc' : c < w.heap.size + 1 := by omega
  go_enter Try.func7, Try.ntmps7
  go_wp2_with fail
  refine (right_full _ _ _ _ _).mono ?_
  rintro e w1 ⟨rfl, hbe⟩
  rw [HRR.out]
  have hb1 := hbe.mono (show w.heap.size + 1 ≤ _ by simp [go_sem])
  have hb0 := hb1.mono (show w.heap.size ≤ _ by omega)
  clear hbe
  have HR1 := Lib.hid ((HR.out.alloc _).below' hb1 hb' hc')
  obtain ⟨hcc, hff⟩ := bcell hb1
  go_wp2_with fail
  go_quiet (fail)
  go_wp2_with fail
  go_ret
  unfold TakeEnd
  refine ⟨rfl, ?_, ?_⟩
  · repeat (first | with_reducible exact HR.out | with_reducible exact HR1.out | with_reducible refine RuleAt.drewN ?_ _ | with_reducible refine RuleAt.drew ?_ | with_reducible refine RuleAt.alloc ?_ _)
  · repeat (first | with_reducible exact Kp.refl _ _ _ _ | with_reducible refine Kp.next ?_ (by with_reducible assumption) hBw | with_reducible refine Kp.next ?_ (by with_reducible assumption) hBw | with_reducible refine Kp.drewN ?_ _ | with_reducible refine Kp.drew ?_ | with_reducible refine Kp.alloc ?_ hBw _ | with_reducible refine Kp.setCell ?_ (by first | exact hBb | exact hBc) (by first | exact .inl rfl | exact .inr rfl) _)

/-- Who writes is alone. -/
def Rul.Excl (R : Rul) : Prop := ∀ i j, i < R.l.length → j < R.l.length → i ≠ j → (R.t i).hold = 2 → (R.t j).hold = 0
/-- What one note may turn. -/
def Step (R R' : Rul) : Prop := R'.kind = R.kind ∧ R'.l.length = R.l.length ∧ (R.Excl → R'.Excl)

theorem Step.refl (R : Rul) : Step R R := ⟨rfl, rfl, id⟩
theorem Step.trans {R S T : Rul} (h : Step R S) (g : Step S T) : Step R T := ⟨g.1.trans h.1, g.2.1.trans h.2.1, fun x => g.2.2 (h.2.2 x)⟩
theorem Rul.t_set_ne {R : Rul} {me j : Nat} (t : Tsk) (h : j ≠ me) : (R.set me t).t j = R.t j := by
  unfold Rul.set Rul.t
  simp only [List.getD_eq_getElem?_getD]
  rw [List.getElem?_set_ne (Ne.symm h)]

theorem others_no {R : Rul} {me : Nat} {f : Tsk → Bool} (h : R.others me f = false) : ∀ j, j < R.l.length → j ≠ me → f (R.t j) = false := by
  intro j hj hne
  unfold Rul.others othersB at h
  rw [List.any_eq_false] at h
  have := h j (List.mem_range.2 hj)
  simpa [hne] using this

theorem step_set {R : Rul} {me : Nat} (hme : me < R.l.length) (t : Tsk)
    (h : R.Excl → (t.hold = 2 → ∀ j, j < R.l.length → j ≠ me → (R.t j).hold = 0) ∧ (t.hold ≠ 0 → ∀ j, j < R.l.length → j ≠ me → (R.t j).hold ≠ 2)) : Step R (R.set me t) := by
  refine ⟨rfl, Rul.set_len t, fun hE i j hi hj hij h2 => ?_⟩
  rw [Rul.set_len] at hi hj
  by_cases h1 : i = me
  · subst h1
    rw [Rul.t_set t hme] at h2
    rw [Rul.t_set_ne t (Ne.symm hij)]
    exact (h hE).1 h2 j hj (Ne.symm hij)
  · rw [Rul.t_set_ne t h1] at h2
    by_cases hj1 : j = me
    · subst hj1
      rw [Rul.t_set t hme]
      rcases Classical.em (t.hold = 0) with h0 | h0
      · exact h0
      · exact absurd h2 ((h hE).2 h0 i hi h1)
    · rw [Rul.t_set_ne t hj1]
      exact hE i j hi hj hij h2

theorem step_same {R : Rul} {me : Nat} (hme : me < R.l.length) (t : Tsk) (h : t.hold = (R.t me).hold) : Step R (R.set me t) :=
  step_set hme t fun hE => ⟨fun h2 j hj hne => hE me j hme hj (Ne.symm hne) (h ▸ h2), fun h0 j hj hne h2 => h0 (h.trans (hE j me hj hme hne h2))⟩
theorem step_zero {R : Rul} {me : Nat} (hme : me < R.l.length) (t : Tsk) (h : t.hold = 0) : Step R (R.set me t) :=
  step_set hme t fun hE => ⟨fun h2 => by omega, fun h0 => absurd h h0⟩
theorem step_ranks {R : Rul} (x y : Int) : Step R { R with ranks := x, presences := y } := ⟨rfl, rfl, id⟩

theorem step_bif {R R' : Rul} {ok : Bool} (h : ok = true → Step R R') : Step R (bif ok then R' else R) := by
  cases ok
  · exact Step.refl R
  · exact h rfl

theorem step_reg {R : Rul} {me : Nat} (hme : me < R.l.length) (cls : Int) : Step R (R.reg me cls) := by
  have h0 : Step R (R.reg0 me cls) := (step_ranks (wrap64 (R.ranks + 1)) R.presences).trans (step_same (R := { R with ranks := wrap64 (R.ranks + 1) }) hme { R.t me with req := cls, rank := wrap64 (R.ranks + 1), bar := 0 } rfl)
  unfold Rul.reg
  split
  · refine h0.trans (step_same (by rw [Rul.reg0_len]; exact hme) _ rfl)
  · exact h0

theorem step_appear {R : Rul} {me : Nat} (hme : me < R.l.length) : Step R (R.appear me) :=
  (step_ranks R.ranks (wrap64 (R.presences + 1))).trans (step_same (R := { R with presences := wrap64 (R.presences + 1) }) hme { R.t me with presence := wrap64 (R.presences + 1), seen := R.ranks } rfl)

theorem step_admit {R : Rul} {me : Nat} (hme : me < R.l.length) (hok : R.admitB me = true) : Step R (R.set me { R.t me with hold := (R.t me).req, req := 0 }) := by
  unfold Rul.admitB at hok
  simp only [Bool.and_eq_true, Bool.or_eq_true, beq_iff_eq] at hok
  obtain ⟨_, hq⟩ := hok
  refine step_set hme _ fun _ => ?_
  rcases hq with ⟨h1, hr⟩ | ⟨h1, hr⟩
  · unfold Rul.readerB at hr
    split at hr
    · cases hr
    · rename_i ho
      have hn := others_no (Bool.eq_false_iff.2 ho)
      exact ⟨fun h2 => by dsimp only at h2; omega, fun _ j hj hne => by simpa using hn j hj hne⟩
  · unfold Rul.writerB at hr
    split at hr
    · cases hr
    · rename_i ho
      have hn := others_no (Bool.eq_false_iff.2 ho)
      exact ⟨fun _ j hj hne => by simpa using hn j hj hne, fun _ j hj hne => by have := hn j hj hne; simp at this; omega⟩

theorem step_up {R : Rul} {me : Nat} (hme : me < R.l.length) (hok : R.upB me = true) : Step R (R.set me { R.t me with hold := 2, req := 0 }) := by
  unfold Rul.upB at hok
  simp only [Bool.and_eq_true] at hok
  obtain ⟨_, hr⟩ := hok
  refine step_set hme _ fun _ => ?_
  unfold Rul.ascentB at hr
  split at hr
  · cases hr
  · split at hr
    · cases hr
    · rename_i ho
      have hn := others_no (Bool.eq_false_iff.2 ho)
      exact ⟨fun _ j hj hne => by simpa using hn j hj hne, fun _ j hj hne => by have := hn j hj hne; simp at this; omega⟩

theorem step_down {R : Rul} {me : Nat} (hme : me < R.l.length) (x : Bool) (hok : R.downB me = true) : Step R (R.set me { R.t me with hold := 1, presence := 0, leaving := x }) := by
  unfold Rul.downB at hok
  simp only [Bool.and_eq_true, beq_iff_eq] at hok
  refine step_set hme _ fun hE => ⟨fun h => by dsimp only at h; omega, fun _ j hj hne => ?_⟩
  have := hE me j hme hj (Ne.symm hne) hok.2
  omega

/-- A note was taken or refused. -/
def TakeAll (b c B : Nat) (w : World) (R : Rul) (e : Ending) (w' : World) : Prop := ∃ code R', TakeEnd b c B w code R' e w' ∧ Step R R'

theorem take_full (B b c : Nat) (tk what op arg : Int) (R : Rul) (w : World) (hR : RuleAt w b c R) (hBb : B ≤ b) (hBc : B ≤ c) (hk : IsKind R.kind) :
    Calls Try.prog 7 #[.pointer (some ⟨b, 0, none⟩), .agg #[.int .i64 tk, .int .i64 what, .int .i64 op, .int .i64 arg]] w (TakeAll b c B w R) := by
  have go : ∀ {code : Int} {R' : Rul} {args : Array Value}, Calls Try.prog 7 args w (TakeEnd b c B w code R') → Step R R' → Calls Try.prog 7 args w (TakeAll b c B w R) := fun h hs => h.mono fun e w' hT => ⟨_, _, hT, hs⟩
  cases hr : rightB tk what op arg
  · exact go (take_wrong B b c tk what op arg R w hR hBb hBc hr) (Step.refl R)
  · obtain ⟨h0, h64, hw1, hw2, ha2, ha11⟩ := rightB_split hr
    by_cases hf : (R.l.length : Int) ≤ tk
    · exact go (take_far B b c tk what op arg R w hR hBb hBc hr hf) (Step.refl R)
    · obtain ⟨me, rfl⟩ : ∃ me : Nat, tk = me := ⟨tk.toNat, by omega⟩
      have hme : me < R.l.length := by omega
      have h11 : what = 1 ∨ what = 2 ∨ what = 3 ∨ what = 4 ∨ what = 5 ∨ what = 6 ∨ what = 7 ∨ what = 8 ∨ what = 9 ∨ what = 10 ∨ what = 11 := by omega
      rcases h11 with rfl | rfl | rfl | rfl | rfl | rfl | rfl | rfl | rfl | rfl | rfl
      · exact go (take1 B b c me op arg R w hR hme hBb hBc hr) (step_bif fun _ => step_same hme _ rfl)
      · have := ha2 rfl
        have h12 : arg = 1 ∨ arg = 2 := by omega
        rcases h12 with rfl | rfl
        · exact go (take2r B b c me op R w hR hme hBb hBc hk hr) (step_bif fun _ => step_reg hme _)
        · exact go (take2w B b c me op R w hR hme hBb hBc hk hr) (step_bif fun _ => step_reg hme _)
      · exact go (take3 B b c me op arg R w hR hme hBb hBc hk hr) (step_bif fun _ => step_appear hme)
      · exact go (take4 B b c me op arg R w hR hme hBb hBc hk hr) (step_bif fun h => step_admit hme h)
      · exact go (take5 B b c me op arg R w hR hme hBb hBc hk hr) (step_bif fun _ => step_same hme _ rfl)
      · exact go (take6 B b c me op arg R w hR hme hBb hBc hk hr) (step_bif fun _ => step_zero hme _ rfl)
      · exact go (take7 B b c me op arg R w hR hme hBb hBc hk hr) (step_bif fun _ => step_zero hme _ rfl)
      · exact go (take8 B b c me op arg R w hR hme hBb hBc hk hr) (step_bif fun _ => step_same hme _ rfl)
      · exact go (take9 B b c me op arg R w hR hme hBb hBc hk hr) (step_bif fun h => step_up hme h)
      · exact go (take10 B b c me op arg R w hR hme hBb hBc hk hr) (step_bif fun h => step_down hme _ h)
      · have := ha11 rfl
        have h13 : arg = 1 ∨ arg = 2 ∨ arg = 3 := by omega
        rcases h13 with rfl | rfl | rfl
        · exact go (take11_1 B b c me op R w hR hme hBb hBc hk hr) (step_bif fun _ => step_same hme _ rfl)
        · exact go (take11_2 B b c me op R w hR hme hBb hBc hk hr) (step_bif fun _ => step_same hme _ rfl)
        · exact go (take11_3 B b c me op R w hR hme hBb hBc hk hr) (step_bif fun _ => step_same hme _ rfl)

end Go.Proofs.Yteifhbkhjkmhfaa
