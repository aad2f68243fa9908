/-
  The walks of 'other' at each question, of 'before' and 'early'; whether a reader, a writer may be admitted, a try refused, a reader go up.
-/
import Derived.Test.YteifhbkhjkmhfaaRuB
import Derived.Deep.RegionWith
namespace Go.Proofs.Yteifhbkhjkmhfaa
open Go.RowKit

def Rul.others (R : Rul) (me : Nat) (f : Tsk → Bool) : Bool := othersB R.l.length me fun j => f (R.t j)

theorem opens {f : FuncId} {fn : Func} {c : Code} (hf : Try.prog.funcs[f]? = some fn) (hname : (fn.name == "runtime.NumGoroutine") = false) (hb : fn.body = some c) : Opens f :=
  Go.Proofs.enters_of hf hname hb

abbrev IsOther (w : World) (b c me : Nat) (R : Rul) (g : FuncId) (caps : Array Value) (f : Tsk → Bool) : Prop :=
  Calls Try.prog 42 #[.pointer (some ⟨b, 0, none⟩), .pointer (some ⟨c, me * 9, none⟩), .func (.func g) #[] caps] w fun e w' => e = .returned (.bool (R.others me f)) ∧ ∃ n, w' = w.drewN n

theorem isOther {w : World} {b c me : Nat} {R : Rul} (hR : RuleAt w b c R) (hme : me < R.l.length) (g : FuncId) (caps : Array Value) (f : Tsk → Bool) (heg : Opens g)
    (hp : ∀ j, j < R.l.length → ∀ m, Calls Try.prog g (#[.pointer (some ⟨c, j * 9, none⟩)] ++ caps) (w.drewN m) fun e w'' => e = .returned (.bool (f (R.t j))) ∧ ∃ m', w'' = w.drewN m') : IsOther w b c me R g caps f :=
  other_any b c R.l.length me _ w g caps _ hR.heads.2.1 hR.len hme hR.body heg hp

section
variable {w : World} {b c me : Nat} {R : Rul} (hR : RuleAt w b c R) (hme : me < R.l.length)
include hR hme
theorem o_wants : IsOther w b c me R 33 #[] (fun t => t.req != 0) :=
  isOther hR hme 33 #[] _ (opens Try.func33 (by kernel_rfl) rfl) fun j hj m => (wants_any c _ _ _ ((hR.drewN m).task hj)).mono fun _ _ ⟨he, hw⟩ => ⟨he, m, hw.symm⟩
theorem o_present : IsOther w b c me R 36 #[] (fun t => decide (0 < t.presence)) :=
  isOther hR hme 36 #[] _ (opens Try.func36 (by kernel_rfl) rfl) fun j hj m => (present_any c _ _ _ ((hR.drewN m).task hj)).mono fun _ _ ⟨he, hw⟩ => ⟨he, m, hw.symm⟩
theorem o_wantsWrite : IsOther w b c me R 40 #[] (fun t => t.req == 2) :=
  isOther hR hme 40 #[] _ (opens Try.func40 (by kernel_rfl) rfl) fun j hj m => (wantsWrite_any c _ _ _ ((hR.drewN m).task hj)).mono fun _ _ ⟨he, hw⟩ => ⟨he, m, hw.symm⟩
theorem o_writes : IsOther w b c me R 41 #[] (fun t => t.hold == 2) :=
  isOther hR hme 41 #[] _ (opens Try.func41 (by kernel_rfl) rfl) fun j hj m => (writes_any c _ _ _ ((hR.drewN m).task hj)).mono fun _ _ ⟨he, hw⟩ => ⟨he, m, hw.symm⟩
theorem o_come : IsOther w b c me R 43 #[] busyB :=
  isOther hR hme 43 #[] _ (opens Try.func43 (by kernel_rfl) rfl) fun j hj m => (come1_any c _ _ _ ((hR.drewN m).task hj)).mono fun _ _ ⟨he, hw⟩ => ⟨he, m, hw.symm⟩
theorem o_wantsRead : IsOther w b c me R 46 #[] (fun t => t.req == 1) :=
  isOther hR hme 46 #[] _ (opens Try.func46 (by kernel_rfl) rfl) fun j hj m => (wantsRead_any c _ _ _ ((hR.drewN m).task hj)).mono fun _ _ ⟨he, hw⟩ => ⟨he, m, hw.symm⟩
theorem o_holds : IsOther w b c me R 58 #[] (fun t => t.hold != 0) :=
  isOther hR hme 58 #[] _ (opens Try.func58 (by kernel_rfl) rfl) fun j hj m => (holds_any c _ _ _ ((hR.drewN m).task hj)).mono fun _ _ ⟨he, hw⟩ => ⟨he, m, hw.symm⟩
theorem o_leaves : IsOther w b c me R 59 #[] (fun t => t.leaving) :=
  isOther hR hme 59 #[] _ (opens Try.func59 (by kernel_rfl) rfl) fun j hj m => (leaves_any c _ _ _ ((hR.drewN m).task hj)).mono fun _ _ ⟨he, hw⟩ => ⟨he, m, hw.symm⟩
theorem o_before (bc bm : Nat) (cl : Int) (hc : w.cell? ⟨bc, 0, none⟩ = some (.int .i64 cl)) (hb : w.cell? ⟨bm, 0, none⟩ = some (.pointer (some ⟨c, me * 9, none⟩))) :
    IsOther w b c me R 56 #[.pointer (some ⟨bc, 0, none⟩), .pointer (some ⟨bm, 0, none⟩)] (beforeB cl (R.t me)) :=
  isOther hR hme 56 _ _ (opens Try.func56 (by kernel_rfl) rfl) fun j hj m => (before1_any c (j * 9) (me * 9) bc bm cl _ _ (w.drewN m) ((hR.drewN m).task hj) ((hR.drewN m).task hme) hc hb).mono fun _ _ ⟨he, n, hw⟩ => ⟨he, m + n, by rw [hw, World.drewN_drewN]⟩
theorem o_reader (bm : Nat) (hb : w.cell? ⟨bm, 0, none⟩ = some (.pointer (some ⟨c, me * 9, none⟩))) :
    IsOther w b c me R 57 #[.pointer (some ⟨bm, 0, none⟩)] (fun t => t.presence == (R.t me).bar) :=
  isOther hR hme 57 _ _ (opens Try.func57 (by kernel_rfl) rfl) fun j hj m => (reader1_any c (j * 9) (me * 9) bm _ _ (w.drewN m) ((hR.drewN m).task hj) ((hR.drewN m).task hme) hb).mono fun _ _ ⟨he, n, hw⟩ => ⟨he, m + n, by rw [hw, World.drewN_drewN]⟩
theorem o_early (bm : Nat) (hb : w.cell? ⟨bm, 0, none⟩ = some (.pointer (some ⟨c, me * 9, none⟩))) :
    IsOther w b c me R 65 #[.pointer (some ⟨bm, 0, none⟩)] (earlyB (R.t me)) :=
  isOther hR hme 65 _ _ (opens Try.func65 (by kernel_rfl) rfl) fun j hj m => (early1_any c (j * 9) (me * 9) bm _ _ (w.drewN m) ((hR.drewN m).task hj) ((hR.drewN m).task hme) hb).mono fun _ _ ⟨he, n, hw⟩ => ⟨he, m + n, by rw [hw, World.drewN_drewN]⟩
end

set_option maxHeartbeats 400000 in
theorem before_any (p : Addr) (cl : Int) (w : World) :
    Calls Try.prog 44 #[.pointer (some p), .int .i64 cl] w fun e w' => e = .returned (.func (.func 56) #[] #[.pointer (some ⟨w.heap.size + 1, 0, none⟩), .pointer (some ⟨w.heap.size, 0, none⟩)]) ∧
      w' = (w.alloc (.cells #[.pointer (some p)] 45)).alloc (.cells #[.int .i64 cl] 3) := by
  go_enter Try.func44, Try.ntmps44
  go_wp2
  go_ret
  exact ⟨rfl, rfl⟩

/-- phases. -/
def Rul.phases (R : Rul) : Bool := (R.kind == 2) || (R.kind == 3)

set_option maxHeartbeats 400000 in
theorem phases_any (b : Nat) (k : Int) (w : World) (h : w.cell? ⟨b, 0, none⟩ = some (.int .i64 k)) :
    Calls Try.prog 37 #[.pointer (some ⟨b, 0, none⟩)] w fun e w' => e = .returned (.bool ((k == 2) || (k == 3))) ∧ w = w' := by
  cases h2 : (k == 2)
  all_goals
    go_enter Try.func37, Try.ntmps37
    go_wp2
    go_ret
    exact ⟨by simp, rfl⟩

set_option maxHeartbeats 400000 in
theorem early_any (b c me : Nat) (R : Rul) (w : World) (hR : RuleAt w b c R) (hme : me < R.l.length) :
    Calls Try.prog 60 #[.pointer (some ⟨b, 0, none⟩), .pointer (some ⟨c, me * 9, none⟩)] w fun e w' => e = .returned (.bool (R.others me (earlyB (R.t me)))) ∧ Below w.heap.size w w' := by
  have HR := Lib.hid hR; clear hR
  go_enter Try.func60, Try.ntmps60
  go_wp2_with fail
  refine (o_early (HR.out.alloc _) hme w.heap.size (by simp [go_sem])).mono ?_
  rintro e w' ⟨rfl, n, rfl⟩
  go_wp2
  go_ret
  exact ⟨rfl, below_drewN ((Below.refl _ _).alloc (Nat.le_refl _) _) _⟩

def Rul.readerB (R : Rul) (me : Nat) : Bool :=
  if R.others me (fun t => t.hold == 2) then false
  else if R.kind = 1 ∨ R.kind = 4 then !R.others me (beforeB 0 (R.t me))
  else if R.kind = 2 ∨ R.kind = 3 then ((R.t me).bar == 0) || !R.others me (fun t => t.presence == (R.t me).bar)
  else if R.kind = 6 then !R.others me (fun t => t.req == 2)
  else true

def IsKind (k : Int) : Prop := k = 1 ∨ k = 2 ∨ k = 3 ∨ k = 4 ∨ k = 5 ∨ k = 6

set_option maxHeartbeats 1000000 in
theorem reader_any (b c me : Nat) (R : Rul) (w : World) (hR : RuleAt w b c R) (hme : me < R.l.length) (hk : IsKind R.kind) :
    Calls Try.prog 47 #[.pointer (some ⟨b, 0, none⟩), .pointer (some ⟨c, me * 9, none⟩)] w fun e w' => e = .returned (.bool (R.readerB me)) ∧ Below w.heap.size w w' := by
  have hb := hR.head.lt
  have hc := hR.body.lt
  obtain ⟨k0, _, _, _⟩ := hR.heads
  obtain ⟨_, _, _, _, _, _, m6, _, _⟩ := hR.task hme
  have HR := Lib.hid hR; clear hR
  cases ho : R.others me (fun t => t.hold == 2)
  · have HO := Lib.hid ho; clear ho
    have k04 : R.kind = 1 ∨ R.kind = 4 ∨ R.kind = 2 ∨ R.kind = 3 ∨ R.kind = 5 ∨ R.kind = 6 := by unfold IsKind at hk; omega
    clear hk
    rcases k04 with hk | hk | hk | hk | hk | hk
    all_goals have HK := Lib.hid hk
    all_goals rw [hk] at k0; clear hk
    · go_enter Try.func47, Try.ntmps47
      go_wp2_with fail
      refine (o_writes (HR.out.alloc _) hme).mono ?_
      rintro e w' ⟨rfl, n, rfl⟩
      rw [HO.out]
      go_wp2_with fail
      go_region_with (first
        | (go_at_call 44; refine (before_any _ _ _).mono ?_; rintro e w' ⟨rfl, rfl⟩)
        | (go_at_call 42; refine (o_before (b := b) (c := c) (me := me) (R := R) ?_ hme _ _ 0 ?_ ?_).mono ?_; exact ((((HR.out.alloc _).drewN _).alloc _).alloc _); (simp [go_sem]); (simp [go_sem]); rintro e w' ⟨rfl, nn, rfl⟩))
      all_goals
        go_wp2
        go_ret
        refine ⟨by simp [Rul.readerB, HO.out, HK.out, Act.put], ?_⟩
        repeat (first | exact Below.refl _ _ | refine below_drewN ?_ _ | refine Below.drew ?_ | refine Below.alloc ?_ (by simp [go_sem] <;> omega) _)
    · go_enter Try.func47, Try.ntmps47
      go_wp2_with fail
      refine (o_writes (HR.out.alloc _) hme).mono ?_
      rintro e w' ⟨rfl, n, rfl⟩
      rw [HO.out]
      go_wp2_with fail
      go_region_with (first
        | (go_at_call 44; refine (before_any _ _ _).mono ?_; rintro e w' ⟨rfl, rfl⟩)
        | (go_at_call 42; refine (o_before (b := b) (c := c) (me := me) (R := R) ?_ hme _ _ 0 ?_ ?_).mono ?_; exact ((((HR.out.alloc _).drewN _).alloc _).alloc _); (simp [go_sem]); (simp [go_sem]); rintro e w' ⟨rfl, nn, rfl⟩))
      all_goals
        go_wp2
        go_ret
        refine ⟨by simp [Rul.readerB, HO.out, HK.out, Act.put], ?_⟩
        repeat (first | exact Below.refl _ _ | refine below_drewN ?_ _ | refine Below.drew ?_ | refine Below.alloc ?_ (by simp [go_sem] <;> omega) _)
    · cases hbar : ((R.t me).bar == 0)
      · have HBAR := Lib.hid hbar
        go_enter Try.func47, Try.ntmps47
        go_wp2_with fail
        refine (o_writes (HR.out.alloc _) hme).mono ?_
        rintro e w' ⟨rfl, n, rfl⟩
        rw [HO.out]
        go_wp2_with fail
        refine (o_reader ((HR.out.alloc _).drewN _) hme w.heap.size (by simp [go_sem])).mono ?_
        rintro e w' ⟨rfl, n2, rfl⟩
        go_wp2
        go_ret
        refine ⟨by simp [Rul.readerB, HO.out, HK.out, HBAR.out], ?_⟩
        repeat (first | exact Below.refl _ _ | refine below_drewN ?_ _ | refine Below.drew ?_ | refine Below.alloc ?_ (by simp [go_sem] <;> omega) _)
      · have HBAR := Lib.hid hbar
        go_enter Try.func47, Try.ntmps47
        go_wp2_with fail
        refine (o_writes (HR.out.alloc _) hme).mono ?_
        rintro e w' ⟨rfl, n, rfl⟩
        rw [HO.out]
        go_wp2
        go_ret
        refine ⟨by simp [Rul.readerB, HO.out, HK.out, HBAR.out], ?_⟩
        repeat (first | exact Below.refl _ _ | refine below_drewN ?_ _ | refine Below.drew ?_ | refine Below.alloc ?_ (by simp [go_sem] <;> omega) _)
    · cases hbar : ((R.t me).bar == 0)
      · have HBAR := Lib.hid hbar
        go_enter Try.func47, Try.ntmps47
        go_wp2_with fail
        refine (o_writes (HR.out.alloc _) hme).mono ?_
        rintro e w' ⟨rfl, n, rfl⟩
        rw [HO.out]
        go_wp2_with fail
        refine (o_reader ((HR.out.alloc _).drewN _) hme w.heap.size (by simp [go_sem])).mono ?_
        rintro e w' ⟨rfl, n2, rfl⟩
        go_wp2
        go_ret
        refine ⟨by simp [Rul.readerB, HO.out, HK.out, HBAR.out], ?_⟩
        repeat (first | exact Below.refl _ _ | refine below_drewN ?_ _ | refine Below.drew ?_ | refine Below.alloc ?_ (by simp [go_sem] <;> omega) _)
      · have HBAR := Lib.hid hbar
        go_enter Try.func47, Try.ntmps47
        go_wp2_with fail
        refine (o_writes (HR.out.alloc _) hme).mono ?_
        rintro e w' ⟨rfl, n, rfl⟩
        rw [HO.out]
        go_wp2
        go_ret
        refine ⟨by simp [Rul.readerB, HO.out, HK.out, HBAR.out], ?_⟩
        repeat (first | exact Below.refl _ _ | refine below_drewN ?_ _ | refine Below.drew ?_ | refine Below.alloc ?_ (by simp [go_sem] <;> omega) _)
    · go_enter Try.func47, Try.ntmps47
      go_wp2_with fail
      refine (o_writes (HR.out.alloc _) hme).mono ?_
      rintro e w' ⟨rfl, n, rfl⟩
      rw [HO.out]
      go_wp2
      go_ret
      refine ⟨by simp [Rul.readerB, HO.out, HK.out], ?_⟩
      repeat (first | exact Below.refl _ _ | refine below_drewN ?_ _ | refine Below.drew ?_ | refine Below.alloc ?_ (by simp [go_sem] <;> omega) _)
    · go_enter Try.func47, Try.ntmps47
      go_wp2_with fail
      refine (o_writes (HR.out.alloc _) hme).mono ?_
      rintro e w' ⟨rfl, n, rfl⟩
      rw [HO.out]
      go_wp2_with fail
      refine (o_wantsWrite ((HR.out.alloc _).drewN _) hme).mono ?_
      rintro e w' ⟨rfl, n2, rfl⟩
      go_wp2
      go_ret
      refine ⟨by simp [Rul.readerB, HO.out, HK.out], ?_⟩
      repeat (first | exact Below.refl _ _ | refine below_drewN ?_ _ | refine Below.drew ?_ | refine Below.alloc ?_ (by simp [go_sem] <;> omega) _)
  · have HO := Lib.hid ho; clear ho
    go_enter Try.func47, Try.ntmps47
    go_wp2_with fail
    refine (o_writes (HR.out.alloc _) hme).mono ?_
    rintro e w' ⟨rfl, n, rfl⟩
    rw [HO.out]
    go_wp2
    go_ret
    refine ⟨by simp [Rul.readerB, HO.out], ?_⟩
    repeat (first | exact Below.refl _ _ | refine below_drewN ?_ _ | refine Below.drew ?_ | refine Below.alloc ?_ (by simp [go_sem] <;> omega) _)

end Go.Proofs.Yteifhbkhjkmhfaa
