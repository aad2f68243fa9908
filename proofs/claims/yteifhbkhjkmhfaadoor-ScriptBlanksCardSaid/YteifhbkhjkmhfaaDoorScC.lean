/-
  The walk of a line's words: the line is split at blanks, and what is empty is dropped.
-/
import Derived.Test.YteifhbkhjkmhfaaDoorScA
import Derived.Test.YteifhbkhjkmhfaaDoorScB
import Derived.Test.YteifhbkhjkmhfaaDoorShelf
import Derived.WalkKit
import Derived.WalkSpells
import Derived.WalkLawsBesides
import Derived.Lib.Hide
import Derived.Outline
namespace Go.Proofs.YteifhbkhjkmhfaaDoor
open Go.RowKit Go.Shelf Go.Sort
set_option linter.unusedSimpArgs false
set_option linter.unusedVariables false

/-- A text as a value. -/
abbrev sv (l : List UInt8) : Value := .string (bs l)

/-- strings.Split at one byte. -/
theorem split1_any (s : ByteArray) (c : UInt8) (w : World) (hs : s.size < 4294967281) :
    Calls Tryd.prog 39 #[.string s, .string ⟨#[c]⟩] w fun e w' => e = .returned (.slice (some ⟨w.heap.size, 0, none⟩) (pcs c s.data.toList).length (pcs c s.data.toList).length) ∧
      w' = w.alloc (.cells ((pcs c s.data.toList).map sv).toArray 9) := by
  have hle := Lib.countB_le ⟨#[c]⟩ (Nat.le_refl _) s.size s (Nat.le_refl _)
  have hC : Calls Tryd.prog 88 #[.string s, .string ⟨#[c]⟩] w fun e w' => e = .returned (.int .i64 (Lib.countB s ⟨#[c]⟩)) ∧ w' = w :=
    (Tryd.strings_Count_one s c w).mono fun e w' ⟨he, hw⟩ => ⟨by
      rw [he]
      show _ = Ending.returned (Value.int .i64 ((Lib.count s.data.toList [c] : Nat) : Int))
      rw [Lib.count_one]
      rfl, hw⟩
  have hI : ∀ (x : ByteArray) (cc : Array Value), x.size ≤ s.size → Calls Tryd.prog 84 #[.string x, .string ⟨#[c]⟩] (w.alloc (.cells cc 9)) fun e w' => e = .returned (.int .i64 (Lib.indexB x ⟨#[c]⟩)) ∧ w' = w.alloc (.cells cc 9) := fun x cc _ =>
    (Tryd.strings_Index_one x c _).mono fun e w' ⟨he, hw⟩ => ⟨by rw [he, index_one'], hw⟩
  have h := Any.strings_genSplit_core Tryd.lays221 (by kernel_rfl) s ⟨#[c]⟩ 0 (-1) (Lib.countB s ⟨#[c]⟩ + 1) w hs (Nat.le_refl _) (Nat.zero_le _) hI hC (by decide) (by decide) (by rw [if_pos (by decide)]; omega)
  rw [Nat.add_sub_cancel, split_pcs c _ s rfl, List.length_map] at h
  have e2 : Lib.cellsOf ((pcs c s.data.toList).map bs) (Lib.countB s ⟨#[c]⟩ + 1) = ((pcs c s.data.toList).map sv).toArray := by
    rw [count_pcs, ← List.length_map (f := bs), Lib.cellsOf_full, List.map_map]
    rfl
  rw [e2, count_pcs] at h
  change Calls Tryd.prog 71 _ _ _ at h
  go_enter Tryd.func39, Tryd.ntmps39
  go_wp2_with (first | (go_at_call 71; refine h.mono ?_; rintro e w' ⟨rfl, rfl⟩) | go_in)
  go_ret
  exact ⟨rfl, rfl⟩

theorem emp_any (s : ByteArray) (w : World) : Calls Tryd.prog 67 #[.string s] w fun e w' => e = .returned (.bool s.data.toList.isEmpty) ∧ w = w' := by
  go_enter Tryd.func67, Tryd.ntmps67
  go_wp2
  go_ret
  exact ⟨by rw [← Lib.toList_data]; rfl, rfl⟩

theorem emp_gives (l : List UInt8) (W : World) : FnGives Tryd.prog 67 #[] #[sv l] (.bool l.isEmpty) W := by
  show Calls Tryd.prog 67 #[sv l] W _
  refine (emp_any (bs l) W).mono ?_
  rintro e w' ⟨rfl, rfl⟩
  exact ⟨rfl, 0, rfl⟩

theorem strs_block (w : World) (L : List (List UInt8)) : Holds sv (w.alloc (.cells (L.map sv).toArray 9)) w.heap.size 0 L.toArray := by
  intro j hj
  have hj' : j < L.length := by simpa using hj
  refine ⟨?_, ?_⟩
  · rw [World.cell?_alloc_at _ _ _ _ rfl]
    simp [hj']
  · have hb : (w.alloc (.cells (L.map sv).toArray 9)).heap[w.heap.size]? = some (.cells (L.map sv).toArray 9 (0, 0)) := heap_alloc_new w _
    unfold World.frozen?
    rw [hb]
    simp

/-- A row of texts. -/
def StrsAt (w : World) (g : Nat) (L : List (List UInt8)) : Prop := ∀ j, j < L.length → w.cell? ⟨g, j, none⟩ = some (sv (L.getD j []))
theorem StrsAt.below {w w' : World} {B g : Nat} {L : List (List UInt8)} (h : StrsAt w g L) (hb : Below B w w') (hg : g < B) : StrsAt w' g L := fun j hj => (hb.cell (p := ⟨g, j, none⟩) hg).trans (h j hj)

set_option maxHeartbeats 1000000 in
/-- A line's words. -/
theorem words_any (s : ByteArray) (w : World) (hs : s.size ≤ 100000) :
    Calls Tryd.prog 33 #[.string s] w fun e w' => ∃ cap, e = .returned (.slice (some ⟨w.heap.size, 0, none⟩) (wordsL s.data.toList).length cap) ∧ StrsAt w' w.heap.size (wordsL s.data.toList) ∧ w.heap.size < w'.heap.size ∧ Below w.heap.size w w' := by
  have hsp := split1_any s 32 w (by omega)
  have eg : ∀ args w, (callFunc 67 args).run Tryd.prog w = .ok (.enter 67 args) w := enters_of Tryd.func67 (by kernel_rfl) rfl
  have hlen := pcs_len 32 s.data.toList
  have hsz : s.data.toList.length = s.size := (Lib.size_eq s).symm
  have hcon := AnyE.slices_DeleteFunc Tryd.delF sv (fun _ => rfl) (fun l => l.isEmpty) 67 #[] eg [] Tryd.zeroValue9 w.heap.size 0 (pcs 32 s.data.toList).length (pcs 32 s.data.toList).toArray (w.alloc (.cells ((pcs 32 s.data.toList).map sv).toArray 9))
    (fun W x _ => emp_gives x W) (fun n os dk x _ => emp_gives x _) (strs_block w _) (by simp; omega) (by simp)
  change Calls Tryd.prog 66 _ _ _ at hcon
  simp only [List.size_toArray] at hcon
  have hW : ((pcs 32 s.data.toList).filter fun x => !x.isEmpty) = wordsL s.data.toList := rfl
  rw [hW] at hcon
  have hwl : (wordsL s.data.toList).length ≤ (pcs 32 s.data.toList).length := List.length_filter_le _ _
  clear hW
  generalize wordsL s.data.toList = R at *
  generalize pcs 32 s.data.toList = L at *
  go_enter Tryd.func33, Tryd.ntmps33
  go_wp2_with (first
    | (go_at_call 39; refine hsp.mono ?_; rintro e w' ⟨rfl, rfl⟩)
    | (go_at_call 66; refine hcon.mono ?_; rintro e w' ⟨rfl, q, rfl⟩)
    | go_in)
  go_ret
  have hd : (R ++ List.replicate (L.length - R.length) []).toArray.size = L.toArray.size := by simp; omega
  have hH := holds_putRow sv (Sort.ahead (w.alloc (.cells (L.map sv).toArray 9)) q) w.heap.size 0 L.toArray (R ++ List.replicate (L.length - R.length) []).toArray (strs_block w L) hd
  refine ⟨_, rfl, fun j hj => ?_, by simp [Sort.ahead], ?_⟩
  · have h := (hH j (by rw [hd]; simp; omega)).1
    rw [Nat.zero_add] at h
    rw [h]
    congr 2
    rw [getElem!_pos _ _ (by rw [hd]; simp; omega)]
    simp [hj, List.getD_eq_getElem?_getD]
  · refine ⟨rfl, rfl, rfl, by simp [Sort.ahead], fun k hk => ?_⟩
    have hne : w.heap.size ≠ k := by omega
    have h1 : (putRow sv (Sort.ahead (w.alloc (.cells (L.map sv).toArray 9)) q) w.heap.size 0 (R ++ List.replicate (L.length - R.length) []).toArray).heap[k]? = (w.alloc (.cells (L.map sv).toArray 9)).heap[k]? := by
      simp [putRow, mapBlock, Sort.ahead, Array.getElem?_modify, hne]
    rw [h1]
    exact Below.heap_alloc _ _ k hk

end Go.Proofs.YteifhbkhjkmhfaaDoor
