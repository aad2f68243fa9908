/-
  The walks of whether a note is right.
-/
import Derived.Test.YteifhbkhjkmhfaaRuJ
import Derived.Deep.RegionHeld3
import Derived.Deep.RegionWith
namespace Go.Proofs.Yteifhbkhjkmhfaa
open Go.RowKit
set_option linter.unusedSimpArgs false
set_option linter.unusedVariables false

def atS (ss : List ByteArray) (n : Int) : ByteArray := if n < 0 ∨ (ss.length : Int) ≤ n then ⟨#[]⟩ else ss.getD n.toNat ⟨#[]⟩

set_option maxHeartbeats 1000000 in
theorem at_any (g : Nat) (ss : List ByteArray) (n : Int) (w : World) (hz : ∀ j, j < ss.length → w.cell? ⟨g, j, none⟩ = some (.string (ss.getD j ⟨#[]⟩))) (hl : ss.length ≤ 64) :
    Calls Try.prog 28 #[.slice (some ⟨g, 0, none⟩) ss.length ss.length, .int .i64 n] w fun e w' => e = .returned (.string (atS ss n)) ∧ w = w' := by
  have HZ := Lib.hid hz; clear hz
  by_cases h0 : n < 0
  · go_enter Try.func28, Try.ntmps28
    go_wp2
    go_ret
    exact ⟨by simp [atS, h0], rfl⟩
  · by_cases h1 : (ss.length : Int) ≤ n
    · go_enter Try.func28, Try.ntmps28
      go_wp2
      go_ret
      exact ⟨by simp [atS, h1], rfl⟩
    · obtain ⟨k, rfl⟩ := Int.eq_ofNat_of_zero_le (by omega : 0 ≤ n)
      have hk : k < ss.length := by omega
      obtain ⟨v, hv⟩ : ∃ v, ss.getD k ⟨#[]⟩ = v := ⟨_, rfl⟩
      have hc := HZ.out k hk
      rw [hv] at hc
      have HV := Lib.hid hv; clear hv
      go_enter Try.func28, Try.ntmps28
      go_wp2
      go_ret
      refine ⟨?_, rfl⟩
      unfold atS
      rw [if_neg (by omega), Int.toNat_natCast, HV.out]
      rfl

theorem at_none (n : Int) (w : World) : Calls Try.prog 28 #[.slice none 0 0, .int .i64 n] w fun e w' => e = .returned (.string ⟨#[]⟩) ∧ w = w' := by
  by_cases h0 : n < 0
  all_goals
    go_enter Try.func28, Try.ntmps28
    go_wp2
    go_ret
    exact ⟨rfl, rfl⟩

def whatsL : List ByteArray := [⟨#[]⟩, ⟨#[99, 97, 108, 108]⟩, ⟨#[114, 101, 103]⟩, ⟨#[112, 114, 101, 115, 101, 110, 116]⟩, ⟨#[97, 100, 109, 105, 116]⟩, ⟨#[114, 101, 102, 117, 115, 101]⟩, ⟨#[114, 101, 108, 101, 97, 115, 101]⟩, ⟨#[108, 101, 97, 118, 101]⟩, ⟨#[112, 97, 115, 115]⟩, ⟨#[117, 112]⟩, ⟨#[100, 111, 119, 110]⟩, ⟨#[114, 101, 116, 117, 114, 110]⟩]
def strRow (ss : List ByteArray) : Array Value := (ss.map Value.string).toArray
theorem strRow_cell (w : World) (ss : List ByteArray) : ∀ j, j < ss.length → (w.alloc (.cells (strRow ss) 9)).cell? ⟨w.heap.size, j, none⟩ = some (.string (ss.getD j ⟨#[]⟩)) := fun j hj => by
  rw [World.cell?_alloc_at (w := w) _ _ _ _ rfl]
  unfold strRow
  simp [hj]
theorem strCells (X : World) (g : Nat) (ss : List ByteArray) (hg : g = X.heap.size) : ∀ j, j < ss.length → (X.alloc (.cells (strRow ss) 9)).cell? ⟨g, j, none⟩ = some (.string (ss.getD j ⟨#[]⟩)) := by
  subst hg; exact strRow_cell X ss
theorem strCellsD (X : World) (g : Nat) (ss : List ByteArray) (hg : g = X.heap.size) : ∀ j, j < ss.length → (X.alloc (.cells (strRow ss) 9)).drew.cell? ⟨g, j, none⟩ = some (.string (ss.getD j ⟨#[]⟩)) := by
  subst hg; exact strRow_cell X ss
theorem whats_any (w : World) : Calls Try.prog 29 #[] w fun e w' => e = .returned (.slice (some ⟨w.heap.size, 0, none⟩) 12 12) ∧ w' = w.alloc (.cells (strRow whatsL) 9) := by
  go_enter Try.func29, Try.ntmps29
  go_wp2
  go_ret
  exact ⟨rfl, rfl⟩
/-- at(whats(), x) -/
def whatS (x : Int) : ByteArray := atS whatsL x
theorem atWhats_any (x : Int) (g : Nat) (w : World) (h : ∀ j, j < 12 → w.cell? ⟨g, j, none⟩ = some (.string (whatsL.getD j ⟨#[]⟩))) :
    Calls Try.prog 28 #[.slice (some ⟨g, 0, none⟩) 12 12, .int .i64 x] w fun e w' => e = .returned (.string (whatS x)) ∧ w = w' :=
  at_any g whatsL x w h (by decide)

set_option maxHeartbeats 1000000 in
theorem hasOp_any (x : Int) (w : World) : Calls Try.prog 30 #[.int .i64 x] w fun e w' => e = .returned (.bool ((x == 1) || (x == 11))) ∧ w = w' := by
  cases h : (x == 1)
  all_goals
    go_enter Try.func30, Try.ntmps30
    go_wp2
    go_ret
    exact ⟨by simp [h], rfl⟩

def opsL : List ByteArray := [⟨#[]⟩, ⟨#[114, 108, 111, 99, 107]⟩, ⟨#[114, 117, 110, 108, 111, 99, 107]⟩, ⟨#[108, 111, 99, 107]⟩, ⟨#[117, 110, 108, 111, 99, 107]⟩, ⟨#[116, 114, 121, 114, 108, 111, 99, 107]⟩, ⟨#[116, 114, 121, 108, 111, 99, 107]⟩, ⟨#[117, 112, 103, 114, 97, 100, 101]⟩, ⟨#[100, 111, 119, 110, 103, 114, 97, 100, 101]⟩]
def regL : List ByteArray := [⟨#[]⟩, ⟨#[114, 101, 97, 100]⟩, ⟨#[119, 114, 105, 116, 101]⟩]
def retL : List ByteArray := [⟨#[]⟩, ⟨#[102, 97, 108, 115, 101]⟩, ⟨#[116, 114, 117, 101]⟩, ⟨#[109, 105, 115, 117, 115, 101]⟩]
def opS (x : Int) : ByteArray := atS opsL x
def regS (x : Int) : ByteArray := atS regL x
def retS (x : Int) : ByteArray := atS retL x
theorem ops_any (w : World) : Calls Try.prog 53 #[] w fun e w' => e = .returned (.slice (some ⟨w.heap.size, 0, none⟩) 9 9) ∧ w' = w.alloc (.cells (strRow opsL) 9) := by
  go_enter Try.func53, Try.ntmps53
  go_wp2
  go_ret
  exact ⟨rfl, rfl⟩
theorem Op_any (x : Int) (w : World) : Calls Try.prog 31 #[.int .i64 x] w fun e w' => e = .returned (.string (opS x)) ∧ w' = w.alloc (.cells (strRow opsL) 9) := by
  go_enter Try.func31, Try.ntmps31
  go_wp2_with fail
  refine (ops_any _).mono ?_
  rintro e w' ⟨rfl, rfl⟩
  go_wp2_with fail
  refine (at_any _ opsL x _ (strRow_cell _ opsL) (by decide)).mono ?_
  rintro e w' ⟨rfl, rfl⟩
  go_wp2
  go_ret
  exact ⟨rfl, rfl⟩
theorem args2_any (w : World) : Calls Try.prog 27 #[.int .i64 2] w fun e w' => e = .returned (.slice (some ⟨w.heap.size, 0, none⟩) 3 3) ∧ w' = w.alloc (.cells (strRow regL) 9) := by
  go_enter Try.func27, Try.ntmps27
  go_wp2
  go_ret
  exact ⟨rfl, rfl⟩
theorem args11_any (w : World) : Calls Try.prog 27 #[.int .i64 11] w fun e w' => e = .returned (.slice (some ⟨w.heap.size, 0, none⟩) 4 4) ∧ w' = w.alloc (.cells (strRow retL) 9) := by
  go_enter Try.func27, Try.ntmps27
  go_wp2
  go_ret
  exact ⟨rfl, rfl⟩
theorem args_any (what : Int) (w : World) (h1 : (what == 2) = false) (h2 : (what == 11) = false) :
    Calls Try.prog 27 #[.int .i64 what] w fun e w' => e = .returned (.slice none 0 0) ∧ w = w' := by
  go_enter Try.func27, Try.ntmps27
  go_wp2
  go_ret
  exact ⟨rfl, rfl⟩
theorem atReg_any (x : Int) (g : Nat) (w : World) (h : ∀ j, j < 3 → w.cell? ⟨g, j, none⟩ = some (.string (regL.getD j ⟨#[]⟩))) :
    Calls Try.prog 28 #[.slice (some ⟨g, 0, none⟩) 3 3, .int .i64 x] w fun e w' => e = .returned (.string (regS x)) ∧ w = w' :=
  at_any g regL x w h (by decide)
theorem atRet_any (x : Int) (g : Nat) (w : World) (h : ∀ j, j < 4 → w.cell? ⟨g, j, none⟩ = some (.string (retL.getD j ⟨#[]⟩))) :
    Calls Try.prog 28 #[.slice (some ⟨g, 0, none⟩) 4 4, .int .i64 x] w fun e w' => e = .returned (.string (retS x)) ∧ w = w' :=
  at_any g retL x w h (by decide)

theorem Blk.new' (w : World) (g : Nat) (t : TypeId) (cs : Array Value) (hg : g = w.heap.size) : Blk (w.alloc (.cells cs t)) g t cs := by subst hg; exact Blk.new w t cs
theorem Blk.strs {w : World} {g : Nat} {ss : List ByteArray} (h : Blk w g 9 (strRow ss)) : ∀ j, j < ss.length → w.cell? ⟨g, j, none⟩ = some (.string (ss.getD j ⟨#[]⟩)) := fun j hj => by
  rw [h.cell j]
  unfold strRow
  simp [hj]
def hasOpB (what : Int) : Bool := (what == 1) || (what == 11)
def rightB (tk what op arg : Int) : Bool :=
  if decide (tk < 0) || decide (64 ≤ tk) || (whatS what).toList.isEmpty then false
  else if (hasOpB what != !(opS op).toList.isEmpty) || (!hasOpB what && (op != 0)) then false
  else if what == 2 then !(regS arg).toList.isEmpty
  else if what == 11 then !(retS arg).toList.isEmpty
  else arg == 0

attribute [local go_sem] undef

set_option maxRecDepth 100000 in
set_option maxHeartbeats 4000000 in
theorem right_any (tk what op arg : Int) (w : World) (hw1 : (what == 1) = false) (hw2 : (what == 2) = false) (hw11 : (what == 11) = false) :
    Calls Try.prog 18 #[.agg #[.int .i64 tk, .int .i64 what, .int .i64 op, .int .i64 arg]] w fun e w' => e = .returned (.bool (rightB tk what op arg)) ∧ Below w.heap.size w w' := by
  cases hl : decide (tk < 0)
  · cases hg : decide (64 ≤ tk)
    · obtain ⟨ws, hws⟩ : ∃ s, whatS what = s := ⟨_, rfl⟩
      have HWS := Lib.hid hws; clear hws
      cases hwe : ws.toList.isEmpty
      · obtain ⟨os, hos⟩ : ∃ s, opS op = s := ⟨_, rfl⟩
        have HOS := Lib.hid hos; clear hos
        cases hoe : os.toList.isEmpty
        · have hsn := fun (w : World) (a : Option Addr) (n c : Nat) => Go.Lib.run_eql_slice_nil (P := Try.prog) w 57 9 a n c 0 0 Try.underlying57
          go_enter Try.func18, Try.ntmps18
          go_wp2_with fail
          refine (args_any what _ hw2 hw11).mono ?_
          rintro e w' ⟨rfl, rfl⟩
          go_wp2_with fail
          go_region_held3 (fun w' => w'.cell? ⟨w.heap.size, 0, none⟩ = some (.int .i64 tk) ∧ w'.cell? ⟨w.heap.size, 1, none⟩ = some (.int .i64 (what)) ∧ w'.cell? ⟨w.heap.size, 2, none⟩ = some (.int .i64 op)) (simp [*, World.cell?_alloc_some, World.cell?_setCell_far])
            (first
             | (go_at_call 29; refine (whats_any _).mono ?_; rintro e w' ⟨rfl, rfl⟩)
             | (go_at_call 28; refine (atWhats_any _ _ _ ?_).mono ?_; (first | exact strCells _ _ whatsL (by simp) | exact strCellsD _ _ whatsL (by simp)); rintro e w' ⟨rfl, rfl⟩; rw [HWS.out]))
          go_wp2_with fail
          first | (go_region_with (first
             | (go_at_call 30; refine (hasOp_any _ _).mono ?_; rintro e w' ⟨rfl, rfl⟩)
             | (go_at_call 31; refine (Op_any _ _).mono ?_; rintro e w' ⟨rfl, rfl⟩; rw [HOS.out]))) | fail
          all_goals go_wp2_with (fail)
          all_goals
            go_ret
            refine ⟨?_, ?_⟩
            · simp [rightB, hasOpB, *, HWS.out, HOS.out]
            · repeat (first | with_reducible exact Below.refl _ _ | with_reducible refine below_drewN ?_ _ | with_reducible refine Below.drew ?_ | with_reducible refine Below.alloc ?_ (by simp [go_sem] <;> omega) _)
        · cases ho0 : (op != 0)
          · have hsn := fun (w : World) (a : Option Addr) (n c : Nat) => Go.Lib.run_eql_slice_nil (P := Try.prog) w 57 9 a n c 0 0 Try.underlying57
            go_enter Try.func18, Try.ntmps18
            go_wp2_with fail
            refine (args_any what _ hw2 hw11).mono ?_
            rintro e w' ⟨rfl, rfl⟩
            go_wp2_with fail
            go_region_held3 (fun w' => w'.cell? ⟨w.heap.size, 0, none⟩ = some (.int .i64 tk) ∧ w'.cell? ⟨w.heap.size, 1, none⟩ = some (.int .i64 (what)) ∧ w'.cell? ⟨w.heap.size, 2, none⟩ = some (.int .i64 op)) (simp [*, World.cell?_alloc_some, World.cell?_setCell_far])
              (first
               | (go_at_call 29; refine (whats_any _).mono ?_; rintro e w' ⟨rfl, rfl⟩)
               | (go_at_call 28; refine (atWhats_any _ _ _ ?_).mono ?_; (first | exact strCells _ _ whatsL (by simp) | exact strCellsD _ _ whatsL (by simp)); rintro e w' ⟨rfl, rfl⟩; rw [HWS.out]))
            go_wp2_with fail
            go_region_held3 (fun w' => w'.cell? ⟨w.heap.size, 0, none⟩ = some (.int .i64 tk) ∧ w'.cell? ⟨w.heap.size, 1, none⟩ = some (.int .i64 (what)) ∧ w'.cell? ⟨w.heap.size, 2, none⟩ = some (.int .i64 op)) (simp [*, World.cell?_alloc_some, World.cell?_setCell_far])
              (first
               | (go_at_call 30; refine (hasOp_any _ _).mono ?_; rintro e w' ⟨rfl, rfl⟩)
               | (go_at_call 31; refine (Op_any _ _).mono ?_; rintro e w' ⟨rfl, rfl⟩; rw [HOS.out]))
            go_wp2_with (fail)
            all_goals
              go_ret
              refine ⟨?_, ?_⟩
              · simp [rightB, hasOpB, *, HWS.out, HOS.out]
              · repeat (first | with_reducible exact Below.refl _ _ | with_reducible refine below_drewN ?_ _ | with_reducible refine Below.drew ?_ | with_reducible refine Below.alloc ?_ (by simp [go_sem] <;> omega) _)
          · have hsn := fun (w : World) (a : Option Addr) (n c : Nat) => Go.Lib.run_eql_slice_nil (P := Try.prog) w 57 9 a n c 0 0 Try.underlying57
            go_enter Try.func18, Try.ntmps18
            go_wp2_with fail
            refine (args_any what _ hw2 hw11).mono ?_
            rintro e w' ⟨rfl, rfl⟩
            go_wp2_with fail
            go_region_held3 (fun w' => w'.cell? ⟨w.heap.size, 0, none⟩ = some (.int .i64 tk) ∧ w'.cell? ⟨w.heap.size, 1, none⟩ = some (.int .i64 (what)) ∧ w'.cell? ⟨w.heap.size, 2, none⟩ = some (.int .i64 op)) (simp [*, World.cell?_alloc_some, World.cell?_setCell_far])
              (first
               | (go_at_call 29; refine (whats_any _).mono ?_; rintro e w' ⟨rfl, rfl⟩)
               | (go_at_call 28; refine (atWhats_any _ _ _ ?_).mono ?_; (first | exact strCells _ _ whatsL (by simp) | exact strCellsD _ _ whatsL (by simp)); rintro e w' ⟨rfl, rfl⟩; rw [HWS.out]))
            go_wp2_with fail
            go_region_held3 (fun w' => w'.cell? ⟨w.heap.size, 0, none⟩ = some (.int .i64 tk) ∧ w'.cell? ⟨w.heap.size, 1, none⟩ = some (.int .i64 (what)) ∧ w'.cell? ⟨w.heap.size, 2, none⟩ = some (.int .i64 op)) (simp [*, World.cell?_alloc_some, World.cell?_setCell_far])
              (first
               | (go_at_call 30; refine (hasOp_any _ _).mono ?_; rintro e w' ⟨rfl, rfl⟩)
               | (go_at_call 31; refine (Op_any _ _).mono ?_; rintro e w' ⟨rfl, rfl⟩; rw [HOS.out]))
            go_wp2_with (fail)
            all_goals
              go_ret
              refine ⟨?_, ?_⟩
              · simp [rightB, hasOpB, *, HWS.out, HOS.out]
              · repeat (first | with_reducible exact Below.refl _ _ | with_reducible refine below_drewN ?_ _ | with_reducible refine Below.drew ?_ | with_reducible refine Below.alloc ?_ (by simp [go_sem] <;> omega) _)
      · have hsn := fun (w : World) (a : Option Addr) (n c : Nat) => Go.Lib.run_eql_slice_nil (P := Try.prog) w 57 9 a n c 0 0 Try.underlying57
        go_enter Try.func18, Try.ntmps18
        go_wp2_with fail
        refine (args_any what _ hw2 hw11).mono ?_
        rintro e w' ⟨rfl, rfl⟩
        go_wp2_with fail
        go_region_held3 (fun w' => w'.cell? ⟨w.heap.size, 0, none⟩ = some (.int .i64 tk) ∧ w'.cell? ⟨w.heap.size, 1, none⟩ = some (.int .i64 (what)) ∧ w'.cell? ⟨w.heap.size, 2, none⟩ = some (.int .i64 op)) (simp [*, World.cell?_alloc_some, World.cell?_setCell_far])
          (first
           | (go_at_call 29; refine (whats_any _).mono ?_; rintro e w' ⟨rfl, rfl⟩)
           | (go_at_call 28; refine (atWhats_any _ _ _ ?_).mono ?_; (first | exact strCells _ _ whatsL (by simp) | exact strCellsD _ _ whatsL (by simp)); rintro e w' ⟨rfl, rfl⟩; rw [HWS.out]))
        go_wp2_with fail
        all_goals
          go_ret
          refine ⟨?_, ?_⟩
          · simp [rightB, hasOpB, *, HWS.out]
          · repeat (first | with_reducible exact Below.refl _ _ | with_reducible refine below_drewN ?_ _ | with_reducible refine Below.drew ?_ | with_reducible refine Below.alloc ?_ (by simp [go_sem] <;> omega) _)
    · have hsn := fun (w : World) (a : Option Addr) (n c : Nat) => Go.Lib.run_eql_slice_nil (P := Try.prog) w 57 9 a n c 0 0 Try.underlying57
      go_enter Try.func18, Try.ntmps18
      go_wp2_with fail
      refine (args_any what _ hw2 hw11).mono ?_
      rintro e w' ⟨rfl, rfl⟩
      go_wp2_with fail
      go_quiet (fail)
      go_wp2_with fail
      all_goals
        go_ret
        refine ⟨?_, ?_⟩
        · simp [rightB, hasOpB, *]
        · repeat (first | with_reducible exact Below.refl _ _ | with_reducible refine below_drewN ?_ _ | with_reducible refine Below.drew ?_ | with_reducible refine Below.alloc ?_ (by simp [go_sem] <;> omega) _)
  · have hsn := fun (w : World) (a : Option Addr) (n c : Nat) => Go.Lib.run_eql_slice_nil (P := Try.prog) w 57 9 a n c 0 0 Try.underlying57
    go_enter Try.func18, Try.ntmps18
    go_wp2_with fail
    refine (args_any what _ hw2 hw11).mono ?_
    rintro e w' ⟨rfl, rfl⟩
    go_wp2_with fail
    go_quiet (fail)
    go_wp2_with fail
    all_goals
      go_ret
      refine ⟨?_, ?_⟩
      · simp [rightB, hasOpB, *]
      · repeat (first | with_reducible exact Below.refl _ _ | with_reducible refine below_drewN ?_ _ | with_reducible refine Below.drew ?_ | with_reducible refine Below.alloc ?_ (by simp [go_sem] <;> omega) _)

end Go.Proofs.Yteifhbkhjkmhfaa
