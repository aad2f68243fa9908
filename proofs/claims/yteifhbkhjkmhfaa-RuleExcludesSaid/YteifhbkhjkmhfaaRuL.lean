/-
  The walks of whether a note is right: a note of a call, of a request, of a return, of the rest.
-/
import Derived.Test.YteifhbkhjkmhfaaRuK
namespace Go.Proofs.Yteifhbkhjkmhfaa
open Go.RowKit
set_option linter.unusedSimpArgs false
set_option linter.unusedVariables false
attribute [local go_sem] undef

set_option maxRecDepth 100000 in
set_option maxHeartbeats 4000000 in
theorem right1_any (tk op arg : Int) (w : World) :
    Calls Try.prog 18 #[.agg #[.int .i64 tk, .int .i64 1, .int .i64 op, .int .i64 arg]] w fun e w' => e = .returned (.bool (rightB tk 1 op arg)) ∧ Below w.heap.size w w' := by
  cases hl : decide (tk < 0)
  · cases hg : decide (64 ≤ tk)
    · obtain ⟨ws, hws⟩ : ∃ s, whatS 1 = s := ⟨_, rfl⟩
      have HWS := Lib.hid hws; clear hws
      cases hwe : ws.toList.isEmpty
      · obtain ⟨os, hos⟩ : ∃ s, opS op = s := ⟨_, rfl⟩
        have HOS := Lib.hid hos; clear hos
        cases hoe : os.toList.isEmpty
        · have hsn := fun (w : World) (a : Option Addr) (n c : Nat) => Go.Lib.run_eql_slice_nil (P := Try.prog) w 57 9 a n c 0 0 Try.underlying57
          go_enter Try.func18, Try.ntmps18
          go_wp2_with fail
          refine (args_any 1 _ rfl rfl).mono ?_
          rintro e w' ⟨rfl, rfl⟩
          go_wp2_with fail
          go_region_held3 (fun w' => w'.cell? ⟨w.heap.size, 0, none⟩ = some (.int .i64 tk) ∧ w'.cell? ⟨w.heap.size, 1, none⟩ = some (.int .i64 (1)) ∧ w'.cell? ⟨w.heap.size, 2, none⟩ = some (.int .i64 op)) (simp [*, World.cell?_alloc_some, World.cell?_setCell_far])
            (first
             | (go_at_call 29; refine (whats_any _).mono ?_; rintro e w' ⟨rfl, rfl⟩)
             | (go_at_call 28; refine (atWhats_any _ _ _ ?_).mono ?_; (first | exact strCells _ _ whatsL (by simp) | exact strCellsD _ _ whatsL (by simp)); rintro e w' ⟨rfl, rfl⟩; rw [HWS.out]))
          go_wp2_with fail
          first | (go_region_with (first
             | (go_at_call 30; refine (hasOp_any _ _).mono ?_; rintro e w' ⟨rfl, rfl⟩)
             | (go_at_call 31; refine (Op_any _ _).mono ?_; rintro e w' ⟨rfl, rfl⟩; rw [HOS.out]))) | fail
          all_goals go_wp2_with (fail)
          all_goals
            go_ret
            refine ⟨?_, ?_⟩
            · simp [rightB, hasOpB, *, HWS.out, HOS.out]
            · repeat (first | with_reducible exact Below.refl _ _ | with_reducible refine below_drewN ?_ _ | with_reducible refine Below.drew ?_ | with_reducible refine Below.alloc ?_ (by simp [go_sem] <;> omega) _)
        · have hsn := fun (w : World) (a : Option Addr) (n c : Nat) => Go.Lib.run_eql_slice_nil (P := Try.prog) w 57 9 a n c 0 0 Try.underlying57
          go_enter Try.func18, Try.ntmps18
          go_wp2_with fail
          refine (args_any 1 _ rfl rfl).mono ?_
          rintro e w' ⟨rfl, rfl⟩
          go_wp2_with fail
          go_region_held3 (fun w' => w'.cell? ⟨w.heap.size, 0, none⟩ = some (.int .i64 tk) ∧ w'.cell? ⟨w.heap.size, 1, none⟩ = some (.int .i64 (1)) ∧ w'.cell? ⟨w.heap.size, 2, none⟩ = some (.int .i64 op)) (simp [*, World.cell?_alloc_some, World.cell?_setCell_far])
            (first
             | (go_at_call 29; refine (whats_any _).mono ?_; rintro e w' ⟨rfl, rfl⟩)
             | (go_at_call 28; refine (atWhats_any _ _ _ ?_).mono ?_; (first | exact strCells _ _ whatsL (by simp) | exact strCellsD _ _ whatsL (by simp)); rintro e w' ⟨rfl, rfl⟩; rw [HWS.out]))
          go_wp2_with fail
          first | (go_region_with (first
             | (go_at_call 30; refine (hasOp_any _ _).mono ?_; rintro e w' ⟨rfl, rfl⟩)
             | (go_at_call 31; refine (Op_any _ _).mono ?_; rintro e w' ⟨rfl, rfl⟩; rw [HOS.out]))) | fail
          all_goals go_wp2_with (fail)
          all_goals
            go_ret
            refine ⟨?_, ?_⟩
            · simp [rightB, hasOpB, *, HWS.out, HOS.out]
            · repeat (first | with_reducible exact Below.refl _ _ | with_reducible refine below_drewN ?_ _ | with_reducible refine Below.drew ?_ | with_reducible refine Below.alloc ?_ (by simp [go_sem] <;> omega) _)
      · have hsn := fun (w : World) (a : Option Addr) (n c : Nat) => Go.Lib.run_eql_slice_nil (P := Try.prog) w 57 9 a n c 0 0 Try.underlying57
        go_enter Try.func18, Try.ntmps18
        go_wp2_with fail
        refine (args_any 1 _ rfl rfl).mono ?_
        rintro e w' ⟨rfl, rfl⟩
        go_wp2_with fail
        go_region_held3 (fun w' => w'.cell? ⟨w.heap.size, 0, none⟩ = some (.int .i64 tk) ∧ w'.cell? ⟨w.heap.size, 1, none⟩ = some (.int .i64 (1)) ∧ w'.cell? ⟨w.heap.size, 2, none⟩ = some (.int .i64 op)) (simp [*, World.cell?_alloc_some, World.cell?_setCell_far])
          (first
           | (go_at_call 29; refine (whats_any _).mono ?_; rintro e w' ⟨rfl, rfl⟩)
           | (go_at_call 28; refine (atWhats_any _ _ _ ?_).mono ?_; (first | exact strCells _ _ whatsL (by simp) | exact strCellsD _ _ whatsL (by simp)); rintro e w' ⟨rfl, rfl⟩; rw [HWS.out]))
        go_wp2_with fail
        all_goals
          go_ret
          refine ⟨?_, ?_⟩
          · simp [rightB, hasOpB, *, HWS.out]
          · repeat (first | with_reducible exact Below.refl _ _ | with_reducible refine below_drewN ?_ _ | with_reducible refine Below.drew ?_ | with_reducible refine Below.alloc ?_ (by simp [go_sem] <;> omega) _)
    · have hsn := fun (w : World) (a : Option Addr) (n c : Nat) => Go.Lib.run_eql_slice_nil (P := Try.prog) w 57 9 a n c 0 0 Try.underlying57
      go_enter Try.func18, Try.ntmps18
      go_wp2_with fail
      refine (args_any 1 _ rfl rfl).mono ?_
      rintro e w' ⟨rfl, rfl⟩
      go_wp2_with fail
      go_quiet (fail)
      go_wp2_with fail
      all_goals
        go_ret
        refine ⟨?_, ?_⟩
        · simp [rightB, hasOpB, *]
        · repeat (first | with_reducible exact Below.refl _ _ | with_reducible refine below_drewN ?_ _ | with_reducible refine Below.drew ?_ | with_reducible refine Below.alloc ?_ (by simp [go_sem] <;> omega) _)
  · have hsn := fun (w : World) (a : Option Addr) (n c : Nat) => Go.Lib.run_eql_slice_nil (P := Try.prog) w 57 9 a n c 0 0 Try.underlying57
    go_enter Try.func18, Try.ntmps18
    go_wp2_with fail
    refine (args_any 1 _ rfl rfl).mono ?_
    rintro e w' ⟨rfl, rfl⟩
    go_wp2_with fail
    go_quiet (fail)
    go_wp2_with fail
    all_goals
      go_ret
      refine ⟨?_, ?_⟩
      · simp [rightB, hasOpB, *]
      · repeat (first | with_reducible exact Below.refl _ _ | with_reducible refine below_drewN ?_ _ | with_reducible refine Below.drew ?_ | with_reducible refine Below.alloc ?_ (by simp [go_sem] <;> omega) _)

set_option maxRecDepth 100000 in
set_option maxHeartbeats 4000000 in
theorem right2_any (tk op arg : Int) (w : World) :
    Calls Try.prog 18 #[.agg #[.int .i64 tk, .int .i64 2, .int .i64 op, .int .i64 arg]] w fun e w' => e = .returned (.bool (rightB tk 2 op arg)) ∧ Below w.heap.size w w' := by
  cases hl : decide (tk < 0)
  · cases hg : decide (64 ≤ tk)
    · obtain ⟨ws, hws⟩ : ∃ s, whatS 2 = s := ⟨_, rfl⟩
      have HWS := Lib.hid hws; clear hws
      cases hwe : ws.toList.isEmpty
      · obtain ⟨os, hos⟩ : ∃ s, opS op = s := ⟨_, rfl⟩
        have HOS := Lib.hid hos; clear hos
        cases hoe : os.toList.isEmpty
        · have hsn := fun (w : World) (a : Option Addr) (n c : Nat) => Go.Lib.run_eql_slice_nil (P := Try.prog) w 57 9 a n c 0 0 Try.underlying57
          go_enter Try.func18, Try.ntmps18
          go_wp2_with fail
          refine (args2_any _).mono ?_
          rintro e w' ⟨rfl, rfl⟩
          go_wp2_with fail
          go_region_held3 (fun w' => w'.cell? ⟨w.heap.size, 0, none⟩ = some (.int .i64 tk) ∧ w'.cell? ⟨w.heap.size, 1, none⟩ = some (.int .i64 (2)) ∧ w'.cell? ⟨w.heap.size, 2, none⟩ = some (.int .i64 op)) (simp [*, World.cell?_alloc_some, World.cell?_setCell_far])
            (first
             | (go_at_call 29; refine (whats_any _).mono ?_; rintro e w' ⟨rfl, rfl⟩)
             | (go_at_call 28; refine (atWhats_any _ _ _ ?_).mono ?_; (first | exact strCells _ _ whatsL (by simp) | exact strCellsD _ _ whatsL (by simp)); rintro e w' ⟨rfl, rfl⟩; rw [HWS.out]))
          go_wp2_with fail
          first | (go_region_with (first
             | (go_at_call 30; refine (hasOp_any _ _).mono ?_; rintro e w' ⟨rfl, rfl⟩)
             | (go_at_call 31; refine (Op_any _ _).mono ?_; rintro e w' ⟨rfl, rfl⟩; rw [HOS.out]))) | fail
          all_goals go_wp2_with (go_at_call 28; refine (atReg_any arg (w.heap.size + 1) _ (Blk.strs (ss := regL) ?_)).mono ?_; (focus ((repeat (first | with_reducible refine Blk.drewN ?_ _ | with_reducible refine Blk.drew ?_ | (with_reducible refine Blk.new' _ _ _ _ ?_; simp [go_sem]; done) | with_reducible refine Blk.alloc ?_ _)); done)); rintro e w' ⟨rfl, rfl⟩)
          all_goals
            go_ret
            refine ⟨?_, ?_⟩
            · simp [rightB, hasOpB, *, HWS.out, HOS.out]
            · repeat (first | with_reducible exact Below.refl _ _ | with_reducible refine below_drewN ?_ _ | with_reducible refine Below.drew ?_ | with_reducible refine Below.alloc ?_ (by simp [go_sem] <;> omega) _)
        · cases ho0 : (op != 0)
          · have hsn := fun (w : World) (a : Option Addr) (n c : Nat) => Go.Lib.run_eql_slice_nil (P := Try.prog) w 57 9 a n c 0 0 Try.underlying57
            go_enter Try.func18, Try.ntmps18
            go_wp2_with fail
            refine (args2_any _).mono ?_
            rintro e w' ⟨rfl, rfl⟩
            go_wp2_with fail
            go_region_held3 (fun w' => w'.cell? ⟨w.heap.size, 0, none⟩ = some (.int .i64 tk) ∧ w'.cell? ⟨w.heap.size, 1, none⟩ = some (.int .i64 (2)) ∧ w'.cell? ⟨w.heap.size, 2, none⟩ = some (.int .i64 op)) (simp [*, World.cell?_alloc_some, World.cell?_setCell_far])
              (first
               | (go_at_call 29; refine (whats_any _).mono ?_; rintro e w' ⟨rfl, rfl⟩)
               | (go_at_call 28; refine (atWhats_any _ _ _ ?_).mono ?_; (first | exact strCells _ _ whatsL (by simp) | exact strCellsD _ _ whatsL (by simp)); rintro e w' ⟨rfl, rfl⟩; rw [HWS.out]))
            go_wp2_with fail
            go_region_held3 (fun w' => w'.cell? ⟨w.heap.size, 0, none⟩ = some (.int .i64 tk) ∧ w'.cell? ⟨w.heap.size, 1, none⟩ = some (.int .i64 (2)) ∧ w'.cell? ⟨w.heap.size, 2, none⟩ = some (.int .i64 op)) (simp [*, World.cell?_alloc_some, World.cell?_setCell_far])
              (first
               | (go_at_call 30; refine (hasOp_any _ _).mono ?_; rintro e w' ⟨rfl, rfl⟩)
               | (go_at_call 31; refine (Op_any _ _).mono ?_; rintro e w' ⟨rfl, rfl⟩; rw [HOS.out]))
            go_wp2_with (go_at_call 28; refine (atReg_any arg (w.heap.size + 1) _ (Blk.strs (ss := regL) ?_)).mono ?_; (focus ((repeat (first | with_reducible refine Blk.drewN ?_ _ | with_reducible refine Blk.drew ?_ | (with_reducible refine Blk.new' _ _ _ _ ?_; simp [go_sem]; done) | with_reducible refine Blk.alloc ?_ _)); done)); rintro e w' ⟨rfl, rfl⟩)
            all_goals
              go_ret
              refine ⟨?_, ?_⟩
              · simp [rightB, hasOpB, *, HWS.out, HOS.out]
              · repeat (first | with_reducible exact Below.refl _ _ | with_reducible refine below_drewN ?_ _ | with_reducible refine Below.drew ?_ | with_reducible refine Below.alloc ?_ (by simp [go_sem] <;> omega) _)
          · have hsn := fun (w : World) (a : Option Addr) (n c : Nat) => Go.Lib.run_eql_slice_nil (P := Try.prog) w 57 9 a n c 0 0 Try.underlying57
            go_enter Try.func18, Try.ntmps18
            go_wp2_with fail
            refine (args2_any _).mono ?_
            rintro e w' ⟨rfl, rfl⟩
            go_wp2_with fail
            go_region_held3 (fun w' => w'.cell? ⟨w.heap.size, 0, none⟩ = some (.int .i64 tk) ∧ w'.cell? ⟨w.heap.size, 1, none⟩ = some (.int .i64 (2)) ∧ w'.cell? ⟨w.heap.size, 2, none⟩ = some (.int .i64 op)) (simp [*, World.cell?_alloc_some, World.cell?_setCell_far])
              (first
               | (go_at_call 29; refine (whats_any _).mono ?_; rintro e w' ⟨rfl, rfl⟩)
               | (go_at_call 28; refine (atWhats_any _ _ _ ?_).mono ?_; (first | exact strCells _ _ whatsL (by simp) | exact strCellsD _ _ whatsL (by simp)); rintro e w' ⟨rfl, rfl⟩; rw [HWS.out]))
            go_wp2_with fail
            go_region_held3 (fun w' => w'.cell? ⟨w.heap.size, 0, none⟩ = some (.int .i64 tk) ∧ w'.cell? ⟨w.heap.size, 1, none⟩ = some (.int .i64 (2)) ∧ w'.cell? ⟨w.heap.size, 2, none⟩ = some (.int .i64 op)) (simp [*, World.cell?_alloc_some, World.cell?_setCell_far])
              (first
               | (go_at_call 30; refine (hasOp_any _ _).mono ?_; rintro e w' ⟨rfl, rfl⟩)
               | (go_at_call 31; refine (Op_any _ _).mono ?_; rintro e w' ⟨rfl, rfl⟩; rw [HOS.out]))
            go_wp2_with (go_at_call 28; refine (atReg_any arg (w.heap.size + 1) _ (Blk.strs (ss := regL) ?_)).mono ?_; (focus ((repeat (first | with_reducible refine Blk.drewN ?_ _ | with_reducible refine Blk.drew ?_ | (with_reducible refine Blk.new' _ _ _ _ ?_; simp [go_sem]; done) | with_reducible refine Blk.alloc ?_ _)); done)); rintro e w' ⟨rfl, rfl⟩)
            all_goals
              go_ret
              refine ⟨?_, ?_⟩
              · simp [rightB, hasOpB, *, HWS.out, HOS.out]
              · repeat (first | with_reducible exact Below.refl _ _ | with_reducible refine below_drewN ?_ _ | with_reducible refine Below.drew ?_ | with_reducible refine Below.alloc ?_ (by simp [go_sem] <;> omega) _)
      · have hsn := fun (w : World) (a : Option Addr) (n c : Nat) => Go.Lib.run_eql_slice_nil (P := Try.prog) w 57 9 a n c 0 0 Try.underlying57
        go_enter Try.func18, Try.ntmps18
        go_wp2_with fail
        refine (args2_any _).mono ?_
        rintro e w' ⟨rfl, rfl⟩
        go_wp2_with fail
        go_region_held3 (fun w' => w'.cell? ⟨w.heap.size, 0, none⟩ = some (.int .i64 tk) ∧ w'.cell? ⟨w.heap.size, 1, none⟩ = some (.int .i64 (2)) ∧ w'.cell? ⟨w.heap.size, 2, none⟩ = some (.int .i64 op)) (simp [*, World.cell?_alloc_some, World.cell?_setCell_far])
          (first
           | (go_at_call 29; refine (whats_any _).mono ?_; rintro e w' ⟨rfl, rfl⟩)
           | (go_at_call 28; refine (atWhats_any _ _ _ ?_).mono ?_; (first | exact strCells _ _ whatsL (by simp) | exact strCellsD _ _ whatsL (by simp)); rintro e w' ⟨rfl, rfl⟩; rw [HWS.out]))
        go_wp2_with fail
        all_goals
          go_ret
          refine ⟨?_, ?_⟩
          · simp [rightB, hasOpB, *, HWS.out]
          · repeat (first | with_reducible exact Below.refl _ _ | with_reducible refine below_drewN ?_ _ | with_reducible refine Below.drew ?_ | with_reducible refine Below.alloc ?_ (by simp [go_sem] <;> omega) _)
    · have hsn := fun (w : World) (a : Option Addr) (n c : Nat) => Go.Lib.run_eql_slice_nil (P := Try.prog) w 57 9 a n c 0 0 Try.underlying57
      go_enter Try.func18, Try.ntmps18
      go_wp2_with fail
      refine (args2_any _).mono ?_
      rintro e w' ⟨rfl, rfl⟩
      go_wp2_with fail
      go_quiet (fail)
      go_wp2_with fail
      all_goals
        go_ret
        refine ⟨?_, ?_⟩
        · simp [rightB, hasOpB, *]
        · repeat (first | with_reducible exact Below.refl _ _ | with_reducible refine below_drewN ?_ _ | with_reducible refine Below.drew ?_ | with_reducible refine Below.alloc ?_ (by simp [go_sem] <;> omega) _)
  · have hsn := fun (w : World) (a : Option Addr) (n c : Nat) => Go.Lib.run_eql_slice_nil (P := Try.prog) w 57 9 a n c 0 0 Try.underlying57
    go_enter Try.func18, Try.ntmps18
    go_wp2_with fail
    refine (args2_any _).mono ?_
    rintro e w' ⟨rfl, rfl⟩
    go_wp2_with fail
    go_quiet (fail)
    go_wp2_with fail
    all_goals
      go_ret
      refine ⟨?_, ?_⟩
      · simp [rightB, hasOpB, *]
      · repeat (first | with_reducible exact Below.refl _ _ | with_reducible refine below_drewN ?_ _ | with_reducible refine Below.drew ?_ | with_reducible refine Below.alloc ?_ (by simp [go_sem] <;> omega) _)

set_option maxRecDepth 100000 in
set_option maxHeartbeats 4000000 in
theorem right11_any (tk op arg : Int) (w : World) :
    Calls Try.prog 18 #[.agg #[.int .i64 tk, .int .i64 11, .int .i64 op, .int .i64 arg]] w fun e w' => e = .returned (.bool (rightB tk 11 op arg)) ∧ Below w.heap.size w w' := by
  cases hl : decide (tk < 0)
  · cases hg : decide (64 ≤ tk)
    · obtain ⟨ws, hws⟩ : ∃ s, whatS 11 = s := ⟨_, rfl⟩
      have HWS := Lib.hid hws; clear hws
      cases hwe : ws.toList.isEmpty
      · obtain ⟨os, hos⟩ : ∃ s, opS op = s := ⟨_, rfl⟩
        have HOS := Lib.hid hos; clear hos
        cases hoe : os.toList.isEmpty
        · have hsn := fun (w : World) (a : Option Addr) (n c : Nat) => Go.Lib.run_eql_slice_nil (P := Try.prog) w 57 9 a n c 0 0 Try.underlying57
          go_enter Try.func18, Try.ntmps18
          go_wp2_with fail
          refine (args11_any _).mono ?_
          rintro e w' ⟨rfl, rfl⟩
          go_wp2_with fail
          go_region_held3 (fun w' => w'.cell? ⟨w.heap.size, 0, none⟩ = some (.int .i64 tk) ∧ w'.cell? ⟨w.heap.size, 1, none⟩ = some (.int .i64 (11)) ∧ w'.cell? ⟨w.heap.size, 2, none⟩ = some (.int .i64 op)) (simp [*, World.cell?_alloc_some, World.cell?_setCell_far])
            (first
             | (go_at_call 29; refine (whats_any _).mono ?_; rintro e w' ⟨rfl, rfl⟩)
             | (go_at_call 28; refine (atWhats_any _ _ _ ?_).mono ?_; (first | exact strCells _ _ whatsL (by simp) | exact strCellsD _ _ whatsL (by simp)); rintro e w' ⟨rfl, rfl⟩; rw [HWS.out]))
          go_wp2_with fail
          first | (go_region_with (first
             | (go_at_call 30; refine (hasOp_any _ _).mono ?_; rintro e w' ⟨rfl, rfl⟩)
             | (go_at_call 31; refine (Op_any _ _).mono ?_; rintro e w' ⟨rfl, rfl⟩; rw [HOS.out]))) | fail
          all_goals go_wp2_with (go_at_call 28; refine (atRet_any arg (w.heap.size + 1) _ (Blk.strs (ss := retL) ?_)).mono ?_; (focus ((repeat (first | with_reducible refine Blk.drewN ?_ _ | with_reducible refine Blk.drew ?_ | (with_reducible refine Blk.new' _ _ _ _ ?_; simp [go_sem]; done) | with_reducible refine Blk.alloc ?_ _)); done)); rintro e w' ⟨rfl, rfl⟩)
          all_goals
            go_ret
            refine ⟨?_, ?_⟩
            · simp [rightB, hasOpB, *, HWS.out, HOS.out]
            · repeat (first | with_reducible exact Below.refl _ _ | with_reducible refine below_drewN ?_ _ | with_reducible refine Below.drew ?_ | with_reducible refine Below.alloc ?_ (by simp [go_sem] <;> omega) _)
        · have hsn := fun (w : World) (a : Option Addr) (n c : Nat) => Go.Lib.run_eql_slice_nil (P := Try.prog) w 57 9 a n c 0 0 Try.underlying57
          go_enter Try.func18, Try.ntmps18
          go_wp2_with fail
          refine (args11_any _).mono ?_
          rintro e w' ⟨rfl, rfl⟩
          go_wp2_with fail
          go_region_held3 (fun w' => w'.cell? ⟨w.heap.size, 0, none⟩ = some (.int .i64 tk) ∧ w'.cell? ⟨w.heap.size, 1, none⟩ = some (.int .i64 (11)) ∧ w'.cell? ⟨w.heap.size, 2, none⟩ = some (.int .i64 op)) (simp [*, World.cell?_alloc_some, World.cell?_setCell_far])
            (first
             | (go_at_call 29; refine (whats_any _).mono ?_; rintro e w' ⟨rfl, rfl⟩)
             | (go_at_call 28; refine (atWhats_any _ _ _ ?_).mono ?_; (first | exact strCells _ _ whatsL (by simp) | exact strCellsD _ _ whatsL (by simp)); rintro e w' ⟨rfl, rfl⟩; rw [HWS.out]))
          go_wp2_with fail
          first | (go_region_with (first
             | (go_at_call 30; refine (hasOp_any _ _).mono ?_; rintro e w' ⟨rfl, rfl⟩)
             | (go_at_call 31; refine (Op_any _ _).mono ?_; rintro e w' ⟨rfl, rfl⟩; rw [HOS.out]))) | fail
          all_goals go_wp2_with (go_at_call 28; refine (atRet_any arg (w.heap.size + 1) _ (Blk.strs (ss := retL) ?_)).mono ?_; (focus ((repeat (first | with_reducible refine Blk.drewN ?_ _ | with_reducible refine Blk.drew ?_ | (with_reducible refine Blk.new' _ _ _ _ ?_; simp [go_sem]; done) | with_reducible refine Blk.alloc ?_ _)); done)); rintro e w' ⟨rfl, rfl⟩)
          all_goals
            go_ret
            refine ⟨?_, ?_⟩
            · simp [rightB, hasOpB, *, HWS.out, HOS.out]
            · repeat (first | with_reducible exact Below.refl _ _ | with_reducible refine below_drewN ?_ _ | with_reducible refine Below.drew ?_ | with_reducible refine Below.alloc ?_ (by simp [go_sem] <;> omega) _)
      · have hsn := fun (w : World) (a : Option Addr) (n c : Nat) => Go.Lib.run_eql_slice_nil (P := Try.prog) w 57 9 a n c 0 0 Try.underlying57
        go_enter Try.func18, Try.ntmps18
        go_wp2_with fail
        refine (args11_any _).mono ?_
        rintro e w' ⟨rfl, rfl⟩
        go_wp2_with fail
        go_region_held3 (fun w' => w'.cell? ⟨w.heap.size, 0, none⟩ = some (.int .i64 tk) ∧ w'.cell? ⟨w.heap.size, 1, none⟩ = some (.int .i64 (11)) ∧ w'.cell? ⟨w.heap.size, 2, none⟩ = some (.int .i64 op)) (simp [*, World.cell?_alloc_some, World.cell?_setCell_far])
          (first
           | (go_at_call 29; refine (whats_any _).mono ?_; rintro e w' ⟨rfl, rfl⟩)
           | (go_at_call 28; refine (atWhats_any _ _ _ ?_).mono ?_; (first | exact strCells _ _ whatsL (by simp) | exact strCellsD _ _ whatsL (by simp)); rintro e w' ⟨rfl, rfl⟩; rw [HWS.out]))
        go_wp2_with fail
        all_goals
          go_ret
          refine ⟨?_, ?_⟩
          · simp [rightB, hasOpB, *, HWS.out]
          · repeat (first | with_reducible exact Below.refl _ _ | with_reducible refine below_drewN ?_ _ | with_reducible refine Below.drew ?_ | with_reducible refine Below.alloc ?_ (by simp [go_sem] <;> omega) _)
    · have hsn := fun (w : World) (a : Option Addr) (n c : Nat) => Go.Lib.run_eql_slice_nil (P := Try.prog) w 57 9 a n c 0 0 Try.underlying57
      go_enter Try.func18, Try.ntmps18
      go_wp2_with fail
      refine (args11_any _).mono ?_
      rintro e w' ⟨rfl, rfl⟩
      go_wp2_with fail
      go_quiet (fail)
      go_wp2_with fail
      all_goals
        go_ret
        refine ⟨?_, ?_⟩
        · simp [rightB, hasOpB, *]
        · repeat (first | with_reducible exact Below.refl _ _ | with_reducible refine below_drewN ?_ _ | with_reducible refine Below.drew ?_ | with_reducible refine Below.alloc ?_ (by simp [go_sem] <;> omega) _)
  · have hsn := fun (w : World) (a : Option Addr) (n c : Nat) => Go.Lib.run_eql_slice_nil (P := Try.prog) w 57 9 a n c 0 0 Try.underlying57
    go_enter Try.func18, Try.ntmps18
    go_wp2_with fail
    refine (args11_any _).mono ?_
    rintro e w' ⟨rfl, rfl⟩
    go_wp2_with fail
    go_quiet (fail)
    go_wp2_with fail
    all_goals
      go_ret
      refine ⟨?_, ?_⟩
      · simp [rightB, hasOpB, *]
      · repeat (first | with_reducible exact Below.refl _ _ | with_reducible refine below_drewN ?_ _ | with_reducible refine Below.drew ?_ | with_reducible refine Below.alloc ?_ (by simp [go_sem] <;> omega) _)

theorem right_full (tk what op arg : Int) (w : World) :
    Calls Try.prog 18 #[.agg #[.int .i64 tk, .int .i64 what, .int .i64 op, .int .i64 arg]] w fun e w' => e = .returned (.bool (rightB tk what op arg)) ∧ Below w.heap.size w w' := by
  by_cases h1 : what = 1
  · subst h1; exact right1_any tk op arg w
  · by_cases h2 : what = 2
    · subst h2; exact right2_any tk op arg w
    · by_cases h3 : what = 11
      · subst h3; exact right11_any tk op arg w
      · exact right_any tk what op arg w (beq_eq_false_iff_ne.2 h1) (beq_eq_false_iff_ne.2 h2) (beq_eq_false_iff_ne.2 h3)

end Go.Proofs.Yteifhbkhjkmhfaa
