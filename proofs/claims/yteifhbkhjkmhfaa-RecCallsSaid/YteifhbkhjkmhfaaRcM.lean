/-
  The walk of the keys of a map of which something is so, rising; of the tasks that are within a call at the end, by the program.
-/
import Derived.Test.YteifhbkhjkmhfaaRcL
namespace Go.Proofs.Yteifhbkhjkmhfaa
open Go.RowKit
open Go.Maps (Keyed int_keyed keyOf_int_mk IsMap atKey_put_same atKey_put_other has)
set_option linter.unusedSimpArgs false
set_option linter.unusedVariables false

theorem map_below {w w' : World} {B b m : Nat} {D : DataW Value} (h : w.ownsMap Try.prog 3 hR b m D) (hb : Below B w w') (hlt : b < B) : w'.ownsMap Try.prog 3 hR b m D := by
  obtain ⟨es, clock, hk, Ft, hs, hD⟩ := h
  exact ⟨es, clock, (hb.block b hlt).trans hk, Ft, hs, hD⟩

theorem filter_snoc (l : List Int) (p : Int → Bool) {q : Nat} (hq : q < l.length) : (l.take (q + 1)).filter p = (l.take q).filter p ++ (if p (l.getD q 0) = true then [l.getD q 0] else []) := by
  rw [List.take_succ_eq_append_getElem hq, List.filter_append]
  have : l.getD q 0 = l[q] := by simp [List.getD_eq_getElem?_getD, hq]
  rw [this]
  congr 1
  by_cases h : p l[q] = true
  · rw [if_pos h]; simp [h]
  · rw [if_neg h]; simp [h]

set_option maxRecDepth 100000 in
set_option maxHeartbeats 4000000 in
theorem rising_any (b nn : Nat) (D : DataW Value) (M : Int → Int) (w : World) (hown : w.ownsMap Try.prog 3 hR b nn D) (hf : MapFnI D M) (hmax : Maps.size D ≤ 200) :
    Calls Try.prog 24 #[.map (some b), .func (.func 25) #[] #[]] w fun e w' => ∃ v l, e = .returned v ∧ IntsAt w' v l ∧ l.Pairwise (· < ·) ∧ (∀ x, x ∈ l ↔ M x = 1) ∧ Below w.heap.size w w' := by
  have hbl := hown.lt
  have hsz : (intKeys D).length ≤ 200 := by
    obtain ⟨es, rfl, _⟩ := hown.keysOf
    have : (intKeys (DataW.map es)).length = Maps.size (DataW.map es) := by simp [intKeys, Maps.size]
    omega
  have HF := Lib.hid hf; clear hf
  have HM := Lib.hid hown; clear hown
  go_enter Try.func24, Try.ntmps24
  go_wp2_with (first
    | (go_at_call 52; refine (keys_any _ _).mono ?_; rintro e w1 ⟨rfl, rfl⟩)
    | (go_at_call 51; refine (sorted_any b nn D hR w HM.out (by omega)).mono ?_; rintro e w1 ⟨v, ss, rfl, hperm, hrow, -, hb⟩; obtain ⟨so, sc, rfl, _, hso⟩ := own_form hrow
       have HSZ := Lib.hid (show ss.length ≤ 200 from hperm.length_eq ▸ hsz)
       have HFR := Lib.hid (filt_rises HM.out HF.out hperm)
       have HZL := Lib.hid (List.length_mergeSort (le := fun x y => decide (x ≤ y)) ss)
       have HWF := Lib.hid (show ∀ x ∈ ss.mergeSort (fun x y => decide (x ≤ y)), (Lit.int .i64 x).wf = true from fun x hx => intKeys_wf HM.out Try.underlying3 x (hperm.mem_iff.1 ((List.mergeSort_perm ss _).mem_iff.1 hx)))
       have HROW := Lib.hid hrow
       have HB := Lib.hid hb
       clear hrow hb hperm
       generalize ss.mergeSort (fun x y => decide (x ≤ y)) = zs at *
       generalize ss.length = n at *))
  have HM1 := Lib.hid (map_below (HM.out.alloc (.cells #[.map (some b)] 54)) HB.out (by omega))
  have hs1 := HB.out.size
  rw [World.size_alloc] at hs1
  have hn2 := HSZ.out
  go_loopw [5, 12] (fun x i wr => ∃ (q : Nat), q ≤ n ∧ i = .int .i64 q ∧ Hid (wr.ownsRow w1.heap.size 3 1 x ((zs.take q).filter fun t => M t == 1).length (intsV ((zs.take q).filter fun t => M t == 1))) ∧ Hid (Below w1.heap.size w1 wr)) (fun _ i _ => n - (Go.RowKit.intOf i).toNat)
  case atStart => exact ⟨0, Nat.zero_le _, rfl, World.ownsRow_nil _ _ _ _, Below.refl _ _⟩
  case round =>
    obtain ⟨q, hq, rfl, HX, HB2⟩ := hrel
    obtain ⟨xo, xc, rfl, _, _⟩ := own_form HX.out
    by_cases hlt : q < n
    · obtain ⟨g, rfl⟩ := hso (by omega)
      have hcell : wr.cell? ⟨g, q, none⟩ = some (.int .i64 (zs.getD q 0)) := by
        have h1 := HROW.out.cellAt q (by omega)
        have hg := (HROW.out.lt g rfl).2
        rw [HB2.out.cell (p := ⟨g, q, none⟩) hg, h1]
        have hzl : q < zs.length := by rw [HZL.out]; exact hlt
        simp [hzl]
      have hlk := look_int (map_below HM1.out HB2.out HM1.out.lt) HF.out (zs.getD q 0) (HWF.out _ (by
        have hzl : q < zs.length := by rw [HZL.out]; exact hlt
        rw [List.getD_eq_getElem?_getD, List.getElem?_eq_getElem hzl]; simp))
      have HSN := Lib.hid (filter_snoc zs (fun t => M t == 1) (q := q) (by rw [HZL.out]; exact hlt))
      have hle : ((zs.take q).filter fun t => M t == 1).length ≤ 200 := by
        have := List.length_filter_le (fun t => M t == 1) (zs.take q)
        have := List.length_take_le q zs
        have := HSZ.out
        omega
      obtain ⟨i0, hi0, hz0, hz1, hz2⟩ := info_parts info3
      have hws := HB2.out.size
      generalize zs.getD q 0 = z at *
      generalize hL : (zs.take q).filter (fun t => M t == 1) = L at *
      have HL := Lib.hid hL; clear hL
      generalize M z = mz at *
      by_cases hmz : mz = 1
      · subst hmz
        go_wp2_with (first
          | (go_at_call 25; refine (is25 _ _).mono ?_; rintro e w2 ⟨rfl, rfl⟩)
          | (at_builtin; refine wpList_append_lies _ (by rfl) _ _ _ (by rfl) w1.heap.size 3 i0 _ 1 8 Try.underlying37 hi0 hz0 hz1 hz2 rfl (by omega) (.slice xo L.length xc) L.length (intsV L) (by rfl)
              (HX.out.alloc _) ⟨wr.heap.size, 0, none⟩ 1 1 [.int .i64 z] (by rfl) (by rfl)
              (World.news_of_block (cs := #[.int .i64 z]) (t := 3) (fr := (0, 0)) (heap_alloc_new wr _)) (by simp [Value.oneCell']) (by omega) (by unfold maxLen; omega) (by omega) (by simp; omega) (wr.heap.size + 1) (by simp) ?_; intro g3 cp3 w3 hown4 hgrow3 hat3 hlt3)
          | go_in)
        have p1 := HB2.out.alloc hws (.cells #[.int .i64 z] 3)
        have p2 := p1.grown hgrow3 p1.size (fun j hj => (HX.out.lt j hj).1)
        refine ⟨⟨q + 1, by omega, by go_num, ?_, p2⟩, by simp [Go.RowKit.intOf]; omega⟩
        rw [HSN.out, if_pos (show ((1 : Int) == 1) = true from rfl)]
        have e1 : (L ++ [z]).length = L.length + 1 := by simp
        have e2 : intsV (L ++ [z]) = intsV L ++ [.int .i64 z] := by simp [intsV]
        show w3.ownsRow _ 3 1 _ _ _
        rw [e1, e2]
        exact hown4
      · have hmz' : (mz == 1) = false := by simpa using hmz
        go_wp2_with (first
          | (go_at_call 25; refine (is25 _ _).mono ?_; rintro e w2 ⟨rfl, rfl⟩)
          | go_in)
        refine ⟨⟨q + 1, by omega, by go_num, ?_, HB2.out⟩, by simp [Go.RowKit.intOf]; omega⟩
        rw [HSN.out, if_neg (by rw [hmz']; decide), List.append_nil]
        exact HX.out
    · obtain rfl : q = n := by omega
      go_wp2_with fail
      have hz : zs.take q = zs := List.take_of_length_le (by rw [HZL.out]; exact Nat.le_refl _)
      go_ret
      exact ⟨_, (zs.take q).filter (fun t => M t == 1), rfl, own_ints HX.out, by rw [hz]; exact HFR.out.1, by rw [hz]; exact HFR.out.2, (((Below.refl _ w).alloc (Nat.le_refl _) _).trans (HB.out.mono (by omega))).trans (HB2.out.mono (by omega))⟩

set_option maxRecDepth 100000 in
set_option maxHeartbeats 4000000 in
theorem pending_any (oa : Option Addr) (N cap : Nat) (nt : Nat → Nt) (w : World) (hN : N ≤ 200) (hnt : NotesAt w oa N nt) :
    Calls Try.prog 14 #[.slice oa N cap] w fun e w' => ∃ v l, e = .returned v ∧ IntsAt w' v l ∧ l.Pairwise (· < ·) ∧ (∀ x, x ∈ l ↔ lastN nt N x = 1) ∧ Below w.heap.size w w' := by
  have HNT := Lib.hid hnt; clear hnt
  have hmm := @run_makeMap Try.prog
  go_enter Try.func14, Try.ntmps14
  go_wp2
  go_loopw [9] (fun i wr => ∃ (k m : Nat) (D : DataW Value), k ≤ N ∧ m ≤ k ∧ i = .int .i64 k ∧ Hid (wr.ownsMap Try.prog 3 hR w.heap.size m D) ∧ Hid (MapFnI D (lastN nt k)) ∧ Hid (Below w.heap.size w wr)) (fun i _ => N - (Go.RowKit.intOf i).toNat)
  case atStart =>
    exact ⟨0, 0, .map [], Nat.zero_le _, Nat.zero_le _, rfl, World.ownsMap_made _ _ _ _, fun t => rfl, (Below.refl _ _).alloc (Nat.le_refl _) _⟩
  case round =>
    obtain ⟨k, m, D, hk, hm, rfl, HM, HF, HB⟩ := hrel
    have hBs := HB.out.size
    by_cases hlt : k < N
    · obtain ⟨a, rfl, c0, c1, c2, c3, hwf⟩ := HNT.out k hlt
      have ha : a.block < w.heap.size := by
        have := World.block_lt_of_cell? w _ c0
        rwa [add_block] at this
      have hcl : ∀ p : Addr, p.block < w.heap.size → wr.cell? p = w.cell? p := fun p hp => HB.out.cell hp
      rw [← hcl _ (by rw [add_block]; exact ha)] at c0
      rw [← hcl _ (by show (a.add (k * 4)).block < _; rw [add_block]; exact ha)] at c1 c2 c3
      clear hcl
      have hstep : ∀ t, lastN nt (k + 1) t = if (nt k).task = t ∧ turnsB (nt k) = true then (nt k).what else lastN nt k t := fun t => rfl
      have HST := Lib.hid hstep; clear hstep
      generalize hnk : nt k = n at *
      have HNK := Lib.hid hnk; clear hnk
      by_cases ht : n.what = 1 ∨ n.what = 11
      · have htb : turnsB n = true := by unfold turnsB; rcases ht with h | h <;> simp [h]
        have hnew : ∀ x, n.what = x → MapFnI (D.put (.int .i64 n.task) (.held (.int .i64 x))) (lastN nt (k + 1)) := fun x hx => by
          have h := HF.out.put HM.out.isMap n.task x
          have e : (fun t' => if t' = n.task then x else lastN nt k t') = lastN nt (k + 1) := by
            funext t'
            rw [HST.out t', hx]
            by_cases e : t' = n.task
            · subst e; simp [htb]
            · have e' : ¬ (n.task = t') := fun h => e h.symm
              simp [e, e']
          rw [← e]
          exact h
        have HNEW := Lib.hid hnew; clear hnew
        rcases ht with ht | ht
        all_goals
          have hne := HNEW.out _ ht
          have HN2 := Lib.hid hne; clear hne
          rw [ht] at c1
          go_wp2_with (first
            | (at_mapUpdate; refine wpList_mapUpdate_own _ (by rfl) _ _ _ 54 (by rfl) 3 3 keyed3 Try.underlying54 hR w.heap.size m D (by rfl) (HM.out.alloc _) (by unfold maxLen; omega) _ _ _ (by rfl) (by rfl) (keyOf_int_mk Try.underlying3 hwf) _ [] (by rfl) ?_; intro w4 hown4 hgrow4)
            | go_in)
          refine ⟨⟨k + 1, m + 1, _, by omega, by omega, by go_num, hown4, HN2.out, ?_⟩, by simp [Go.RowKit.intOf]; omega⟩
          have p1 := HB.out.alloc hBs (.cells #[.int .i64 n.task, .int .i64 n.what, .int .i64 n.op, .int .i64 n.arg] 30)
          rw [ht] at p1
          exact p1.grown hgrow4 p1.size (fun j hj => by cases hj; exact Nat.le_refl _)
      · have hw1 : (n.what == 1) = false := by simp; omega
        have hw11 : (n.what == 11) = false := by simp; omega
        go_wp2_with fail
        go_roundw
        case rel =>
          refine ⟨k + 1, m, D, by omega, by omega, by go_num, HM.out.alloc _, ?_, HB.out.alloc hBs _⟩
          have e : lastN nt (k + 1) = lastN nt k := by
            funext t
            rw [HST.out t, if_neg]
            rintro ⟨_, h⟩
            simp [turnsB, hw1, hw11] at h
          rw [e]
          exact HF.out
        case measure => simp [Go.RowKit.intOf]; omega
    · obtain rfl : k = N := by omega
      have hsz := HM.out.size_le
      go_wp2_with (first
        | (go_at_call 24; refine (rising_any w.heap.size m D (lastN nt k) _ HM.out HF.out (by omega)).mono ?_; rintro e w4 ⟨v, l, rfl, hi, hs, hmem, hb⟩)
        | go_in)
      go_ret
      exact ⟨v, l, rfl, hi, hs, hmem, HB.out.trans (hb.mono hBs)⟩

end Go.Proofs.Yteifhbkhjkmhfaa
