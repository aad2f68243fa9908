/-
  The walks of what is asked of one task, and of the others.
-/
import Derived.Test.YteifhbkhjkmhfaaRuA
namespace Go.Proofs.Yteifhbkhjkmhfaa
open Go.RowKit

set_option maxHeartbeats 400000 in
theorem wants_any (c o : Nat) (t : Tsk) (w : World) (h : TaskAt w c o t) :
    Calls Try.prog 33 #[.pointer (some ⟨c, o, none⟩)] w fun e w' => e = .returned (.bool (t.req != 0)) ∧ w = w' := by
  obtain ⟨h0, h1, h2, h3, h4, h5, h6, h7, h8⟩ := h
  go_enter Try.func33, Try.ntmps33
  go_wp2
  go_ret
  exact ⟨rfl, rfl⟩

set_option maxHeartbeats 400000 in
theorem present_any (c o : Nat) (t : Tsk) (w : World) (h : TaskAt w c o t) :
    Calls Try.prog 36 #[.pointer (some ⟨c, o, none⟩)] w fun e w' => e = .returned (.bool (decide (0 < t.presence))) ∧ w = w' := by
  obtain ⟨h0, h1, h2, h3, h4, h5, h6, h7, h8⟩ := h
  go_enter Try.func36, Try.ntmps36
  go_wp2
  go_ret
  exact ⟨rfl, rfl⟩

set_option maxHeartbeats 400000 in
theorem wantsWrite_any (c o : Nat) (t : Tsk) (w : World) (h : TaskAt w c o t) :
    Calls Try.prog 40 #[.pointer (some ⟨c, o, none⟩)] w fun e w' => e = .returned (.bool (t.req == 2)) ∧ w = w' := by
  obtain ⟨h0, h1, h2, h3, h4, h5, h6, h7, h8⟩ := h
  go_enter Try.func40, Try.ntmps40
  go_wp2
  go_ret
  exact ⟨rfl, rfl⟩

set_option maxHeartbeats 400000 in
theorem writes_any (c o : Nat) (t : Tsk) (w : World) (h : TaskAt w c o t) :
    Calls Try.prog 41 #[.pointer (some ⟨c, o, none⟩)] w fun e w' => e = .returned (.bool (t.hold == 2)) ∧ w = w' := by
  obtain ⟨h0, h1, h2, h3, h4, h5, h6, h7, h8⟩ := h
  go_enter Try.func41, Try.ntmps41
  go_wp2
  go_ret
  exact ⟨rfl, rfl⟩

set_option maxHeartbeats 400000 in
theorem wantsRead_any (c o : Nat) (t : Tsk) (w : World) (h : TaskAt w c o t) :
    Calls Try.prog 46 #[.pointer (some ⟨c, o, none⟩)] w fun e w' => e = .returned (.bool (t.req == 1)) ∧ w = w' := by
  obtain ⟨h0, h1, h2, h3, h4, h5, h6, h7, h8⟩ := h
  go_enter Try.func46, Try.ntmps46
  go_wp2
  go_ret
  exact ⟨rfl, rfl⟩

set_option maxHeartbeats 400000 in
theorem holds_any (c o : Nat) (t : Tsk) (w : World) (h : TaskAt w c o t) :
    Calls Try.prog 58 #[.pointer (some ⟨c, o, none⟩)] w fun e w' => e = .returned (.bool (t.hold != 0)) ∧ w = w' := by
  obtain ⟨h0, h1, h2, h3, h4, h5, h6, h7, h8⟩ := h
  go_enter Try.func58, Try.ntmps58
  go_wp2
  go_ret
  exact ⟨rfl, rfl⟩

set_option maxHeartbeats 400000 in
theorem leaves_any (c o : Nat) (t : Tsk) (w : World) (h : TaskAt w c o t) :
    Calls Try.prog 59 #[.pointer (some ⟨c, o, none⟩)] w fun e w' => e = .returned (.bool t.leaving) ∧ w = w' := by
  obtain ⟨h0, h1, h2, h3, h4, h5, h6, h7, h8⟩ := h
  go_enter Try.func59, Try.ntmps59
  go_wp2
  go_ret
  exact ⟨rfl, rfl⟩

/-- come$1: present, writes, or leaving. -/
def busyB (t : Tsk) : Bool := decide (0 < t.presence) || (t.hold == 2) || t.leaving

set_option maxHeartbeats 400000 in
theorem come1_any (c o : Nat) (t : Tsk) (w : World) (h : TaskAt w c o t) :
    Calls Try.prog 43 #[.pointer (some ⟨c, o, none⟩)] w fun e w' => e = .returned (.bool (busyB t)) ∧ w = w' := by
  have H := h
  obtain ⟨h0, h1, h2, h3, h4, h5, h6, h7, h8⟩ := h
  cases hp : decide (0 < t.presence) <;> cases hw : t.hold == 2
  all_goals
    have HP := Lib.hid hp
    have HW := Lib.hid hw
    go_enter Try.func43, Try.ntmps43
    go_wp2_with fail
    refine (present_any c o t w H).mono ?_
    rintro e w' ⟨rfl, rfl⟩
    go_wp2_with (go_at_call 41; refine (writes_any c o t _ H).mono ?_; rintro e w' ⟨rfl, rfl⟩)
    go_ret
    exact ⟨by simp [busyB, HP.out, HW.out], rfl⟩

theorem wants_is (v : Bool) (c o : Nat) (t : Tsk) (w : World) (h : TaskAt w c o t) (hv : (t.req != 0) = v) :
    Calls Try.prog 33 #[.pointer (some ⟨c, o, none⟩)] w fun e w' => e = .returned (.bool v) ∧ w = w' := by subst hv; exact wants_any c o t w h
theorem wantsRead_is (v : Bool) (c o : Nat) (t : Tsk) (w : World) (h : TaskAt w c o t) (hv : (t.req == 1) = v) :
    Calls Try.prog 46 #[.pointer (some ⟨c, o, none⟩)] w fun e w' => e = .returned (.bool v) ∧ w = w' := by subst hv; exact wantsRead_any c o t w h

/-- before$1: a request (of a class, 0: any) ahead of m's. -/
def beforeB (cl : Int) (m t : Tsk) : Bool := (t.req != 0) && ((cl == 0) || (t.req == cl)) && decide (t.rank < m.rank)

set_option maxRecDepth 100000 in
set_option maxHeartbeats 1000000 in
theorem before1_any (c o om bc bm : Nat) (cl : Int) (t m : Tsk) (w : World) (h : TaskAt w c o t) (hm : TaskAt w c om m)
    (hc : w.cell? ⟨bc, 0, none⟩ = some (.int .i64 cl)) (hb : w.cell? ⟨bm, 0, none⟩ = some (.pointer (some ⟨c, om, none⟩))) :
    Calls Try.prog 56 #[.pointer (some ⟨c, o, none⟩), .pointer (some ⟨bc, 0, none⟩), .pointer (some ⟨bm, 0, none⟩)] w fun e w' => e = .returned (.bool (beforeB cl m t)) ∧ ∃ n, w' = w.drewN n := by
  have H := Lib.hid h
  obtain ⟨_, _, h2, h3, _, _, _, _, _⟩ := h
  obtain ⟨_, _, _, m3, _, _, _, _, _⟩ := hm
  cases hp : (t.req != 0)
  · have HP := Lib.hid hp
    clear hp
    go_enter Try.func56, Try.ntmps56
    go_wp2
    go_quiet ((go_at_call 33; exact quiet_left (wants_is false c o t _ (H.out.drewN _) HP.out)))
    go_wp2
    go_ret
    exact ⟨by simp [beforeB, HP.out], _, rfl⟩
  · cases h0 : (cl == 0)
    · cases h1 : (t.req == cl)
      all_goals
        have HP := Lib.hid hp
        clear hp
        go_enter Try.func56, Try.ntmps56
        go_wp2
        go_quiet ((go_at_call 33; exact quiet_left (wants_is true c o t _ (H.out.drewN _) HP.out)))
        go_wp2
        go_ret
        exact ⟨by simp [beforeB, HP.out, h0, h1], _, rfl⟩
    · have HP := Lib.hid hp
      clear hp
      go_enter Try.func56, Try.ntmps56
      go_wp2
      go_quiet ((go_at_call 33; exact quiet_left (wants_is true c o t _ (H.out.drewN _) HP.out)))
      go_wp2
      go_ret
      exact ⟨by simp [beforeB, HP.out, h0], _, rfl⟩

set_option maxHeartbeats 1000000 in
theorem reader1_any (c o om bm : Nat) (t m : Tsk) (w : World) (h : TaskAt w c o t) (hm : TaskAt w c om m)
    (hb : w.cell? ⟨bm, 0, none⟩ = some (.pointer (some ⟨c, om, none⟩))) :
    Calls Try.prog 57 #[.pointer (some ⟨c, o, none⟩), .pointer (some ⟨bm, 0, none⟩)] w fun e w' => e = .returned (.bool (t.presence == m.bar)) ∧ ∃ n, w' = w.drewN n := by
  obtain ⟨_, _, _, _, h4, _, _, _, _⟩ := h
  obtain ⟨_, _, _, _, _, _, m6, _, _⟩ := hm
  go_enter Try.func57, Try.ntmps57
  go_wp2
  go_quiet (fail)
  go_wp2
  go_ret
  exact ⟨rfl, _, rfl⟩

/-- early$1: wants to read since before m was present. -/
def earlyB (m t : Tsk) : Bool := (t.req == 1) && decide (t.rank ≤ m.seen)

set_option maxHeartbeats 1000000 in
theorem early1_any (c o om bm : Nat) (t m : Tsk) (w : World) (h : TaskAt w c o t) (hm : TaskAt w c om m)
    (hb : w.cell? ⟨bm, 0, none⟩ = some (.pointer (some ⟨c, om, none⟩))) :
    Calls Try.prog 65 #[.pointer (some ⟨c, o, none⟩), .pointer (some ⟨bm, 0, none⟩)] w fun e w' => e = .returned (.bool (earlyB m t)) ∧ ∃ n, w' = w.drewN n := by
  have H := Lib.hid h
  obtain ⟨_, _, _, h3, _, _, _, _, _⟩ := h
  obtain ⟨_, _, _, _, _, m5, _, _, _⟩ := hm
  cases hp : (t.req == 1)
  · have HP := Lib.hid hp
    clear hp
    go_enter Try.func65, Try.ntmps65
    go_wp2
    go_quiet ((go_at_call 46; exact quiet_left (wantsRead_is false c o t _ (H.out.drewN _) HP.out)))
    go_wp2
    go_ret
    exact ⟨by simp [earlyB, HP.out], _, rfl⟩
  · have HP := Lib.hid hp
    clear hp
    go_enter Try.func65, Try.ntmps65
    go_wp2
    go_quiet ((go_at_call 46; exact quiet_left (wantsRead_is true c o t _ (H.out.drewN _) HP.out)))
    go_wp2
    go_ret
    exact ⟨by simp [earlyB, HP.out], _, rfl⟩

set_option maxRecDepth 100000 in
set_option maxHeartbeats 400000 in
theorem other_any (b c n me : Nat) (cs : Array Value) (w : World) (g : FuncId) (caps : Array Value) (f : Nat → Bool) (h1 : w.cell? ⟨b, 1, none⟩ = some (.slice (some ⟨c, 0, none⟩) n n))
   (hb : n ≤ 64) (hme : me < n) (hc : Blk w c 47 cs) (heg : ∀ (args : Array Value) (w : World), (callFunc g args).run Try.prog w = .ok (.enter g args) w) (hp : PredOk g caps w c n f) :
    Calls Try.prog 42 #[.pointer (some ⟨b, 0, none⟩), .pointer (some ⟨c, me * 9, none⟩), .func (.func g) #[] caps] w fun e w' => e = .returned (.bool (othersB n me f)) ∧ ∃ n, w' = w.drewN n := by
  have HC := Lib.hid hc; clear hc
  have HP := Lib.hid hp; clear hp
  go_enter Try.func42, Try.ntmps42
  go_wp2
  go_loopw [14] (fun i wr => ∃ k : Nat, k ≤ n ∧ i = .int .i64 k ∧ (∀ j, j < k → (decide (j ≠ me) && f j) = false) ∧ ∃ m, wr = w.drewN m) (fun i _ => n - (intOf i).toNat)
  case atStart => exact ⟨0, Nat.zero_le _, rfl, fun j h => by omega, 0, rfl⟩
  case round =>
    obtain ⟨k, hk, rfl, hno, m, rfl⟩ := hrel
    have Hno := Lib.hid hno; clear hno
    by_cases hlt : k < n
    · by_cases hkm : k = me
      · subst hkm
        obtain ⟨i0, hi, hz0, hz1, hz2⟩ := info_parts info47
        have he := Lib.run_neq_ptr_same (P := Try.prog) (w.drewN m) (tp := 45) (te := 47) ⟨c, k * 9, none⟩ Try.underlying45 hi
        go_wp2
        go_roundw
        case rel => exact ⟨k + 1, by omega, by go_num, fun j hj => by by_cases e : j = k; (subst e; simp); exact Hno.out j (by omega), m, rfl⟩
        case measure => simp [intOf]; omega
      · have hne := neq_tasks w c k me cs HC.out hkm m
        go_wp2_with fail
        refine (HP.out k hlt m).mono ?_
        rintro e w' ⟨rfl, m', rfl⟩
        cases hf : f k
        · go_wp2
          go_roundw
          case rel => exact ⟨k + 1, by omega, by go_num, fun j hj => by by_cases e : j = k; (subst e; simp [hf]); exact Hno.out j (by omega), m', rfl⟩
          case measure => simp [intOf]; omega
        · go_wp2
          go_ret
          exact ⟨by rw [show othersB n me f = true from by rw [othersB, List.any_eq_true]; exact ⟨k, by simpa using hlt, by simp [hkm, hf]⟩]; rfl, m', rfl⟩
    · go_wp2
      go_ret
      exact ⟨by rw [show othersB n me f = false from by rw [othersB, List.any_eq_false]; intro j hj; simpa using Hno.out j (by have := List.mem_range.1 hj; omega)]; rfl, m, rfl⟩

end Go.Proofs.Yteifhbkhjkmhfaa
