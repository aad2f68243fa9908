/-
  The walk of the law on histories' calls: its awake side; the law is true of any notes.
-/
import Derived.Test.YteifhbkhjkmhfaaRcJ
import Derived.Test.YteifhbkhjkmhfaaRcN
namespace Go.Proofs.Yteifhbkhjkmhfaa
open Go.RowKit
set_option linter.unusedSimpArgs false
set_option linter.unusedVariables false

def awNt : Nat → Nt
  | 0 => ⟨0, 1, 1, 0⟩
  | _ => ⟨0, 11, 1, 2⟩
theorem awCalls : callsN awNt 2 = [⟨0, 1, 0, 1, 2, []⟩] := by
  simp [callsN, stepL, stepC, awNt]

set_option maxRecDepth 100000 in
set_option maxHeartbeats 4000000 in
theorem awake20_any (w : World) : Calls Try.prog 9 #[] w fun e w' => e = .returned (.bool true) ∧ Below w.heap.size w w' := by
  go_enter Try.func9, Try.ntmps9
  go_wp2_with fail
  refine (calls_any _ 2 _ awNt _ (by omega) ?_).mono ?_
  · intro i hi
    have h2 : i = 0 ∨ i = 1 := by omega
    rcases h2 with rfl | rfl
    · refine ⟨_, rfl, ?_, ?_, ?_, ?_, rfl⟩ <;> (simp [go_sem, World.cell?_alloc_at, awNt]; try rfl)
    · refine ⟨_, rfl, ?_, ?_, ?_, ?_, rfl⟩ <;> (simp [go_sem, World.cell?_alloc_at, awNt]; try rfl)
  rintro e w2 ⟨v, rfl, hc, hb⟩
  rw [awCalls] at hc
  rcases hc with ⟨_, h⟩ | ⟨g, cap, rfl, hc⟩
  · cases h
  obtain ⟨d0, d1, d2, d3, d4, _⟩ := hc 0 (by simp)
  have d2' : w2.cell? ⟨g, 2, none⟩ = some (.int .i64 0) := d2
  have d3' : w2.cell? ⟨g, 3, none⟩ = some (.int .i64 1) := d3
  have d4' : w2.cell? ⟨g, 4, none⟩ = some (.int .i64 2) := d4
  have HB := Lib.hid hb
  clear hb d0 d1 d2 d3 d4 hc
  simp only [List.length_singleton]
  go_wp2_with fail
  go_ret
  exact ⟨rfl, ((Below.refl _ w).alloc (Nat.le_refl _) _).trans (HB.out.mono (by simp))⟩

theorem NotesAt.below {w w' : World} {oa : Option Addr} {N : Nat} {nt : Nat → Nt} (h : NotesAt w oa N nt) (hb : Below w.heap.size w w') : NotesAt w' oa N nt := by
  intro i hi
  obtain ⟨a, rfl, c0, c1, c2, c3, hwf⟩ := h i hi
  have ha : a.block < w.heap.size := by
    have := World.block_lt_of_cell? w _ c0
    rwa [add_block] at this
  have hcl : ∀ p : Addr, p.block < w.heap.size → w'.cell? p = w.cell? p := fun p hp => hb.cell hp
  exact ⟨a, rfl, (hcl _ (by rw [add_block]; exact ha)).trans c0, (hcl _ (by show (a.add (i * 4)).block < _; rw [add_block]; exact ha)).trans c1,
    (hcl _ (by show (a.add (i * 4)).block < _; rw [add_block]; exact ha)).trans c2, (hcl _ (by show (a.add (i * 4)).block < _; rw [add_block]; exact ha)).trans c3, hwf⟩
theorem CalsAt.below {w w' : World} {v : Value} {l : List Cal} (h : CalsAt w v l) (hb : Below w.heap.size w w') : CalsAt w' v l := by
  rcases h with h | ⟨g, cap, e, h⟩
  · exact .inl h
  · exact .inr ⟨g, cap, e, fun j hj => (h j hj).below hb⟩

theorem found_len {nt : Nat → Nt} {N : Nat} {l : List Int} (hs : l.Pairwise (· < ·)) (hm : ∀ x, x ∈ l ↔ lastN nt N x = 1) : l.length ≤ N := by
  have hnd : l.Nodup := hs.imp (fun {a b} h => by omega)
  have hsub : l ⊆ (List.range N).map fun i => (nt i).task := by
    intro x hx
    obtain ⟨i, hi, e⟩ := lastN_some nt N x (by rw [(hm x).1 hx]; decide)
    exact List.mem_map.2 ⟨i, List.mem_range.2 hi, e⟩
  have := hnd.length_le_of_subset hsub
  simpa using this

set_option maxRecDepth 100000 in
set_option maxHeartbeats 4000000 in
theorem recCalls_long (oa : Option Addr) (N cap : Nat) (w : World) (hN : 200 < N) : Calls Try.prog 4 #[.slice oa N cap] w fun e w' => e = .returned (.bool true) ∧ Below w.heap.size w w' := by
  go_enter Try.func4, Try.ntmps4
  go_wp2_with (first
    | (go_at_call 9; refine (awake20_any _).mono ?_; rintro e w1 ⟨rfl, hb⟩)
    | go_in)
  go_ret
  exact ⟨rfl, hb⟩

set_option maxRecDepth 100000 in
set_option maxHeartbeats 4000000 in
theorem recCalls_short (oa : Option Addr) (N cap : Nat) (nt : Nat → Nt) (w : World) (hN : N ≤ 200) (hnt : NotesAt w oa N nt) :
    Calls Try.prog 4 #[.slice oa N cap] w fun e w' => e = .returned (.bool true) ∧ Below w.heap.size w w' := by
  have HNT := Lib.hid hnt; clear hnt
  go_enter Try.func4, Try.ntmps4
  go_wp2_with fail
  refine (calls_any oa N cap nt w hN HNT.out).mono ?_
  rintro e w1 ⟨v1, rfl, hc1, hb1⟩
  have HC1 := Lib.hid hc1; clear hc1
  have HB1 := Lib.hid hb1; clear hb1
  have hs1 := HB1.out.size
  go_wp2_with fail
  refine (refcalls_any oa N cap nt w1 hN (HNT.out.below HB1.out)).mono ?_
  rintro e w2 ⟨v2, rfl, hc2, hb2⟩
  rw [← callsN_to] at hc2
  have HC2 := Lib.hid hc2; clear hc2
  have HB2 := Lib.hid (HB1.out.trans (hb2.mono hs1))
  have HC1' := Lib.hid (HC1.out.below hb2)
  clear hb2 hs1
  have hs2 := HB2.out.size
  have hl := callsN_len nt N
  have hp := callsN_pts nt N
  go_wp2_with fail
  refine (same_any v1 v2 (callsN nt N) (callsN nt N) w2 HC1'.out HC2.out (by omega) (by omega) (fun c hc => by have := hp c hc; omega) (fun c hc => by have := hp c hc; omega)).mono ?_
  rintro e w3 ⟨rfl, hb3⟩
  have HB3 := Lib.hid (HB2.out.trans (hb3.mono hs2))
  clear hb3 hs2 hl hp
  have hs3 := HB3.out.size
  simp only [decide_true]
  go_wp2_with fail
  refine (pending_any oa N cap nt w3 hN (HNT.out.below HB3.out)).mono ?_
  rintro e w4 ⟨v4, l4, rfl, hi4, hs4, hm4, hb4⟩
  have HI4 := Lib.hid hi4; clear hi4
  have HS4 := Lib.hid hs4; clear hs4
  have HM4 := Lib.hid hm4; clear hm4
  have HB4 := Lib.hid (HB3.out.trans (hb4.mono hs3))
  clear hb4 hs3
  have hs4 := HB4.out.size
  go_wp2_with fail
  refine (refpending_any oa N cap nt w4 hN (HNT.out.below HB4.out)).mono ?_
  rintro e w5 ⟨v5, l5, rfl, hi5, hf5, hb5⟩
  have hl5 : l4 = l5 := by
    refine sorted_eq HS4.out hf5.1 fun x => ?_
    rw [HM4.out, hf5.2]
    constructor
    · intro h
      obtain ⟨i, hi, e⟩ := lastN_some nt N x (by rw [h]; decide)
      exact ⟨i, hi, e, h⟩
    · rintro ⟨i, hi, e, h⟩; exact h
  subst hl5
  have HI5 := Lib.hid hi5; clear hi5 hf5
  have HI4' := Lib.hid (HI4.out.below hb5)
  have HB5 := Lib.hid (HB4.out.trans (hb5.mono hs4))
  clear hb5 hs4
  have hs5 := HB5.out.size
  have hlen := found_len HS4.out HM4.out
  go_wp2_with fail
  refine (ints_any v4 v5 l4 l4 w5 HI4'.out HI5.out (by omega) (by omega)).mono ?_
  rintro e w6 ⟨rfl, m, rfl⟩
  simp only [decide_true]
  go_wp2_with fail
  refine (awake20_any _).mono ?_
  rintro e w7 ⟨rfl, hb7⟩
  have HB7 := Lib.hid hb7; clear hb7
  go_wp2_with fail
  go_ret
  exact ⟨rfl, (below_drewN HB5.out m).trans (HB7.out.mono hs5)⟩

end Go.Proofs.Yteifhbkhjkmhfaa
