/-
  The row's condition gives what the walks ask; a world that fits; for every row of the seat.
-/
import Derived.Test.YteifhbkhjkmhfaaDoorScM
import Derived.Test.YteifhbkhjkmhfaaDoorCards
import Derived.Test.YteifhbkhjkmhfaaDoorTie
import Derived.WalkKit
import Derived.ProofKit
import Derived.OpenShut
import Derived.Lay
import Derived.Deep.DeepHandedRow
import Derived.Deep.DeepWitnessRowRef
import Derived.Lib.LaidTab
import Derived.Stop.LaidErr
namespace Go.Proofs.YteifhbkhjkmhfaaDoor
open Go.ChangeShapes Go.WideShapes Go.ChangeAt Go.RowKit
open Go.ChangeMaps (open_string shut_string)
set_option maxRecDepth 100000

theorem own : ownKnob Tryd.prog.godebug = none := by kernel_rfl
theorem star : "*" ++ "errors.errorString" = "*errors.errorString" := by decide
theorem row148 (u : TypeId) (h : Tryd.prog.typeName? 3 u = some "*errors.errorString") : u = 148 :=
  typeName_ptr_named (nm := "errors.errorString") (by rw [star]; kernel_rfl) (by kernel_rfl) (by decide) u (by rw [star]; exact h)

/-- What every row of the seat lists. -/
abbrev laidL : List (String × DataW Unit) := Rows.scriptParsesRow.laid

theorem gES : Tryd.prog.globalNamed "strconv.ErrSyntax" = some 0 := by kernel_rfl
theorem gER : Tryd.prog.globalNamed "strconv.ErrRange" = some 1 := by kernel_rfl
theorem gPow : Tryd.prog.globalNamed "internal/strconv.uint64pow10" = some 5 := by kernel_rfl
theorem und150 : Tryd.prog.underlying 150 = some (.struct #[{ name := "s", type := 9, offset := 0, embedded := false, tag := "", pkgPath := "errors", byteOffset := 0 }]) := by kernel_rfl

theorem glob_of_laid {W : World} (h0 : laidMetH Tryd.prog laidL W) : Glob W := by
  rw [MakeChecks.laidMetH_plain _ _ _ (by kernel_rfl)] at h0
  have h1 := h0.tail.tail
  have h2 := h1.tail.tail
  have h3 := h2.tail
  obtain ⟨a1, t1, hv1, _, _, _⟩ := laid_sentinel (g := 1) h2 gER (by kernel_rfl) Tryd.underlying73 row148 Tryd.underlying148 und150 rfl rfl Tryd.underlying9 (by kernel_rfl) (by kernel_rfl)
  obtain ⟨a0, t0, hv0, _, _, _⟩ := laid_sentinel (g := 0) h3 gES (by kernel_rfl) Tryd.underlying73 row148 Tryd.underlying148 und150 rfl rfl Tryd.underlying9 (by kernel_rfl) (by kernel_rfl)
  refine ⟨⟨148, .pointer (some a0), ?_⟩, ⟨148, .pointer (some a1), ?_⟩, ?_⟩
  · have := World.var?_cell gES hv0 0
    simpa using this
  · have := World.var?_cell gER hv1 0
    simpa using this
  · exact Lib.tabIs_of_head (zs := Lib.pow10Tab) gPow (by kernel_rfl) Tryd.underlying152 Tryd.underlying103 (by kernel_rfl) (by kernel_rfl) h1

/-- A world that fits. -/
noncomputable def laidWorld (os : Os) : World := World.laidAll Tryd.prog os laidL
theorem laid_met (os : Os) (args : Array Value) : laidMetH Tryd.prog laidL ((laidWorld os).forCall (fun _ _ => 0) ⟨#[], args, []⟩).memory := by
  rw [MakeChecks.laidMetH_plain _ _ _ (by kernel_rfl)]
  exact laidMet_laidAll _ (by kernel_rfl) (by kernel_rfl)

end Go.Proofs.YteifhbkhjkmhfaaDoor
