/-
  The walk of the tasks that are within a call at the end, by the document.
-/
import Derived.Test.YteifhbkhjkmhfaaRcM
namespace Go.Proofs.Yteifhbkhjkmhfaa
open Go.RowKit
set_option linter.unusedSimpArgs false
set_option linter.unusedVariables false

theorem mem_take_snoc (l : List Int) (t : Int) {q : Nat} (hq : q < l.length) : decide (t ∈ l.take (q + 1)) = (decide (t ∈ l.take q) || (l.getD q 0 == t)) := by
  rw [List.take_succ_eq_append_getElem hq]
  have : l.getD q 0 = l[q] := by simp [List.getD_eq_getElem?_getD, hq]
  rw [this, Bool.eq_iff_iff]
  simp only [List.mem_append, List.mem_singleton, Bool.or_eq_true, decide_eq_true_eq, beq_iff_eq]
  constructor
  · rintro (h | h)
    · exact .inl h
    · exact .inr h.symm
  · rintro (h | h)
    · exact .inl h
    · exact .inr h.symm

/-- The tasks found so far. -/
def FoundTo (nt : Nat → Nt) (N k : Nat) (l : List Int) : Prop := l.Pairwise (· < ·) ∧ ∀ x, x ∈ l ↔ ∃ i, i < k ∧ (nt i).task = x ∧ lastN nt N x = 1

theorem FoundTo.no {nt : Nat → Nt} {N k : Nat} {l : List Int} (h : FoundTo nt N k l) (hn : lastN nt N (nt k).task ≠ 1 ∨ (nt k).task ∈ l) : FoundTo nt N (k + 1) l := by
  refine ⟨h.1, fun x => ?_⟩
  rw [h.2]
  constructor
  · rintro ⟨i, hi, e, hl⟩
    exact ⟨i, by omega, e, hl⟩
  · rintro ⟨i, hi, e, hl⟩
    by_cases hik : i = k
    · subst hik
      rcases hn with hn | hn
      · rw [e] at hn; exact absurd hl hn
      · rw [e] at hn; exact (h.2 x).1 hn
    · exact ⟨i, by omega, e, hl⟩
theorem FoundTo.yes {nt : Nat → Nt} {N k q : Nat} {l : List Int} (h : FoundTo nt N k l) (hl : lastN nt N (nt k).task = 1) (hs : (insAt l (nt k).task q).Pairwise (· < ·)) : FoundTo nt N (k + 1) (insAt l (nt k).task q) := by
  refine ⟨hs, fun x => ?_⟩
  rw [insAt_mem, h.2]
  constructor
  · rintro (rfl | ⟨i, hi, e, hl'⟩)
    · exact ⟨k, by omega, rfl, hl⟩
    · exact ⟨i, by omega, e, hl'⟩
  · rintro ⟨i, hi, e, hl'⟩
    by_cases hik : i = k
    · subst hik; exact .inl e.symm
    · exact .inr ⟨i, by omega, e, hl'⟩

set_option maxRecDepth 100000 in
set_option maxHeartbeats 4000000 in
theorem refpending_any (oa : Option Addr) (N cap : Nat) (nt : Nat → Nt) (w : World) (hN : N ≤ 200) (hnt : NotesAt w oa N nt) :
    Calls Try.prog 15 #[.slice oa N cap] w fun e w' => ∃ v l, e = .returned v ∧ IntsAt w' v l ∧ FoundTo nt N N l ∧ Below w.heap.size w w' := by
  have HNT := Lib.hid hnt; clear hnt
  go_enter Try.func15, Try.ntmps15
  go_wp2
  go_loopw [3, 4] (fun x i wr => ∃ (k : Nat) (l : List Int), k ≤ N ∧ l.length ≤ k ∧ i = .int .i64 k ∧ Hid (FoundTo nt N k l) ∧ Hid (wr.ownsRow w.heap.size 3 1 x l.length (intsV l)) ∧ Hid (Below w.heap.size w wr)) (fun _ i _ => N - (Go.RowKit.intOf i).toNat)
  case atStart => exact ⟨0, [], Nat.zero_le _, Nat.zero_le _, rfl, ⟨List.Pairwise.nil, fun x => by simp⟩, World.ownsRow_nil _ _ _ _, Below.refl _ _⟩
  case round =>
    obtain ⟨k, l, hk, hlk, rfl, HFD, HX, HB⟩ := hrel
    obtain ⟨xo, xc, rfl, _, hxo⟩ := own_form HX.out
    have hBs := HB.out.size
    by_cases hlt : k < N
    · have hnw : ∀ i, i < N → ∃ a, oa = some a ∧ wr.cell? (a.add (i * 4)) = some (.int .i64 (nt i).task) ∧ wr.cell? { block := (a.add (i * 4)).block, off := (a.add (i * 4)).off + 1 } = some (.int .i64 (nt i).what) := fun i hi => by
        obtain ⟨a, rfl, c0, c1, c2, c3, hwf⟩ := HNT.out i hi
        have ha : a.block < w.heap.size := by
          have := World.block_lt_of_cell? w _ c0
          rwa [add_block] at this
        have hcl : ∀ p : Addr, p.block < w.heap.size → wr.cell? p = w.cell? p := fun p hp => HB.out.cell hp
        exact ⟨a, rfl, (hcl _ (by rw [add_block]; exact ha)).trans c0, (hcl _ (by show (a.add (i * 4)).block < _; rw [add_block]; exact ha)).trans c1⟩
      have HNW := Lib.hid hnw; clear hnw
      obtain ⟨a, rfl, c0, c1⟩ := HNW.out k hlt
      have HT0 : Hid ((nt k).task = (nt k).task) := rfl
      obtain ⟨t, ht⟩ : ∃ t, t = (nt k).task := ⟨_, rfl⟩
      rw [← ht] at c0
      have HTK := Lib.hid ht; clear ht HT0
      go_wp2_with fail
      clear c0 c1
      go_loop [6, 7] (fun la j => ∃ q : Nat, q ≤ N ∧ j = .int .i64 q ∧ la = .int .i64 (lastN nt q t)) (fun _ j => N - (Go.RowKit.intOf j).toNat)
      case atStart => exact ⟨0, Nat.zero_le _, rfl, rfl⟩
      case round =>
        obtain ⟨q, hq, rfl, rfl⟩ := hrel
        by_cases hql : q < N
        · obtain ⟨_, hh, c0, c1⟩ := HNW.out q hql
          injection hh with hh
          subst hh
          have hstep : lastN nt (q + 1) t = if (nt q).task = t ∧ turnsB (nt q) = true then (nt q).what else lastN nt q t := rfl
          have HST := Lib.hid hstep; clear hstep
          generalize hn : nt q = n at *
          have HN := Lib.hid hn; clear hn
          generalize lastN nt q t = la at *
          by_cases hta : n.task = t
          · rw [hta] at c0
            by_cases h1 : n.what = 1
            · rw [h1] at c1
              go_wp2_with fail
              go_round
              case rel => exact ⟨q + 1, by omega, by go_num, by rw [HST.out, if_pos ⟨hta, by simp [turnsB, h1]⟩, h1]⟩
              case measure => simp [Go.RowKit.intOf]; omega
            · have h1' : (n.what == 1) = false := by simpa using h1
              by_cases h11 : n.what = 11
              · rw [h11] at c1
                go_wp2_with fail
                go_round
                case rel => exact ⟨q + 1, by omega, by go_num, by rw [HST.out, if_pos ⟨hta, by simp [turnsB, h11]⟩, h11]⟩
                case measure => simp [Go.RowKit.intOf]; omega
              · have h11' : (n.what == 11) = false := by simpa using h11
                go_wp2_with fail
                go_round
                case rel => exact ⟨q + 1, by omega, by go_num, by rw [HST.out, if_neg (by rintro ⟨_, h⟩; simp [turnsB, h1', h11'] at h)]⟩
                case measure => simp [Go.RowKit.intOf]; omega
          · have hta' : (n.task == t) = false := by simpa using hta
            go_wp2_with fail
            go_round
            case rel => exact ⟨q + 1, by omega, by go_num, by rw [HST.out, if_neg (fun h => hta h.1)]⟩
            case measure => simp [Go.RowKit.intOf]; omega
        · obtain rfl : q = N := by omega
          by_cases hla : lastN nt q t = 1
          · rw [hla]
            have HLA := Lib.hid hla; clear hla
            go_wp2_with fail
            go_loop [8, 9] (fun th j => ∃ p : Nat, p ≤ l.length ∧ j = .int .i64 p ∧ th = .bool (decide (t ∈ l.take p))) (fun _ j => l.length - (Go.RowKit.intOf j).toNat)
            case atStart => exact ⟨0, Nat.zero_le _, rfl, rfl⟩
            case round =>
              obtain ⟨p, hp, rfl, rfl⟩ := hrel
              by_cases hpl : p < l.length
              · obtain ⟨g, rfl⟩ := hxo (by omega)
                have hc : wr.cell? ⟨g, p, none⟩ = some (.int .i64 (l.getD p 0)) := by
                  rw [HX.out.cellAt p (by omega)]
                  simp [intsV, hpl]
                have HMT := Lib.hid (mem_take_snoc l t hpl)
                generalize decide (t ∈ l.take p) = th at *
                generalize l.getD p 0 = z at *
                cases th with
                | true =>
                  go_wp2_with fail
                  go_round
                  case rel => exact ⟨p + 1, by omega, by go_num, by rw [HMT.out]; rfl⟩
                  case measure => simp [Go.RowKit.intOf]; omega
                | false =>
                  by_cases hzt : z = t
                  · subst hzt
                    go_wp2_with fail
                    go_round
                    case rel => exact ⟨p + 1, by omega, by go_num, by rw [HMT.out]; simp⟩
                    case measure => simp [Go.RowKit.intOf]; omega
                  · have hzt' : (z == t) = false := by simpa using hzt
                    go_wp2_with fail
                    go_round
                    case rel => exact ⟨p + 1, by omega, by go_num, by rw [HMT.out, hzt']; rfl⟩
                    case measure => simp [Go.RowKit.intOf]; omega
              · obtain rfl : p = l.length := by omega
                rw [List.take_length]
                by_cases hin : t ∈ l
                · have HIN := Lib.hid hin
                  simp only [hin, decide_true]
                  clear hin
                  go_wp2_with fail
                  refine ⟨⟨k + 1, l, by omega, by omega, by go_num, HFD.out.no (.inr (by rw [← HTK.out]; exact HIN.out)), HX.out, HB.out⟩, by simp [Go.RowKit.intOf]; omega⟩
                · have HIN := Lib.hid hin
                  simp only [hin, decide_false]
                  clear hin
                  obtain ⟨i0, hi0, hz0, hz1, hz2⟩ := info_parts info3
                  go_wp2_with (first
                    | (at_builtin; refine wpList_append_lies _ (by rfl) _ _ _ (by rfl) w.heap.size 3 i0 _ 1 8 Try.underlying37 hi0 hz0 hz1 hz2 rfl (by omega) (.slice xo l.length xc) l.length (intsV l) (by rfl)
                        (HX.out.alloc _) ⟨wr.heap.size, 0, none⟩ 1 1 [.int .i64 t] (by rfl) (by rfl)
                        (World.news_of_block (cs := #[.int .i64 t]) (t := 3) (fr := (0, 0)) (heap_alloc_new wr _)) (by simp [Value.oneCell']) (by omega) (by unfold maxLen; omega) (by omega) (by simp; omega) (wr.heap.size + 1) (by simp) ?_; intro g3 cp3 w3 hown4 hgrow3 hat3 hlt3)
                    | go_in)
                  have p1 := HB.out.alloc hBs (.cells #[.int .i64 t] 3)
                  have p2 := p1.grown hgrow3 p1.size (fun j hj => (HX.out.lt j hj).1)
                  have HP2 := Lib.hid p2
                  have HO4 := Lib.hid hown4
                  clear hown4 hgrow3 hat3 p1 p2
                  obtain ⟨wo, rfl⟩ : ∃ x, x = wr := ⟨wr, rfl⟩
                  go_loopw [10] (fun kk wr => ∃ p : Nat, p ≤ l.length ∧ kk = .int .i64 p ∧ Hid (wr.ownsRow w.heap.size 3 1 (.slice (some ⟨g3, 0, none⟩) (l.length + 1) cp3) (l.length + 1) (intsV (insAt l t p))) ∧ Hid (∀ x ∈ l.drop p, t < x) ∧ Hid (Below w.heap.size w wr)) (fun kk _ => (Go.RowKit.intOf kk).toNat)
                  case atStart => exact ⟨l.length, Nat.le_refl _, rfl, by show w3.ownsRow _ 3 1 _ _ _; rw [insAt_end]; simpa [intsV] using HO4.out, by show ∀ x ∈ l.drop l.length, t < x; simp, HP2.out⟩
                  case round =>
                    obtain ⟨p, hp, rfl, HR, HD, HB3⟩ := hrel
                    have hil := insAt_len l t p
                    have hcell : ∀ j, j < l.length + 1 → wr.cell? ⟨g3, j, none⟩ = some (.int .i64 ((insAt l t p).getD j 0)) := fun j hj => by
                      rw [HR.out.cellAt j (by omega)]
                      simp [intsV, List.getD_eq_getElem?_getD, hil, hj]
                    have e1 := hcell p (by omega)
                    rw [insAt_at l t p hp] at e1
                    have hfr := HR.out.frozenAt
                    by_cases hp0 : 0 < p
                    · have e2 := hcell (p - 1) (by omega)
                      rw [insAt_before l t p hp hp0] at e2
                      have HIL := Lib.hid hil
                      clear hil hcell
                      obtain ⟨y, hy⟩ : ∃ y, y = l.getD (p - 1) 0 := ⟨_, rfl⟩
                      rw [← hy] at e2
                      have HY := Lib.hid hy; clear hy
                      obtain ⟨p', rfl⟩ : ∃ p', p = p' + 1 := ⟨p - 1, by omega⟩
                      simp only [Nat.add_sub_cancel] at e2
                      by_cases hyt : t < y
                      · go_wp2_with fail
                        go_quiet (fail)
                        go_wp2_with fail
                        go_region
                        go_wp2_with fail
                        have hsw := insAt_swap l t (p' + 1) hp hp0
                        rw [← HY.out] at hsw
                        simp only [Nat.add_sub_cancel] at hsw
                        have hgb : w.heap.size ≤ g3 := (HR.out.lt g3 rfl).1
                        have hr1 : ((wr.drewN (nq + 1))).ownsRow w.heap.size 3 1 (.slice (some ⟨g3, 0, none⟩) (l.length + 1) cp3) (l.length + 1) (intsV (insAt l t (p' + 1))) := HR.out
                        have hr2 := (hr1.stored (p' + 1) (.int .i64 y)).1
                        have hr3 := (hr2.stored p' (.int .i64 t)).1
                        have hi : (((intsV (insAt l t (p' + 1))).set (p' + 1) (.int .i64 y)).set p' (.int .i64 t)) = intsV (insAt l t p') := by
                          rw [← hsw]
                          simp [intsV, List.map_set]
                        rw [hi] at hr3
                        have hdm := drop_more hp hp0 HD.out (by rw [← HY.out]; exact hyt)
                        exact ⟨⟨p', by omega, rfl, hr3, hdm, ((below_drewN HB3.out _).setCell (p := ⟨g3, p' + 1, none⟩) hgb _).setCell (p := ⟨g3, p', none⟩) hgb _⟩, by simp [Go.RowKit.intOf]⟩
                      · go_wp2_with fail
                        go_quiet (fail)
                        go_wp2_with fail
                        have hty : y < t := by
                          have h1 : y ≠ t := by
                            intro h
                            apply HIN.out
                            rw [← h, HY.out, Nat.add_sub_cancel, List.getD_eq_getElem?_getD, List.getElem?_eq_getElem (by omega : p' < l.length)]
                            simp
                          omega
                        refine ⟨⟨k + 1, insAt l t (p' + 1), by omega, by rw [insAt_len]; omega, by go_num, ?_, ?_, below_drewN HB3.out _⟩, by simp [Go.RowKit.intOf]; omega⟩
                        · rw [HTK.out]
                          refine HFD.out.yes (by rw [← HTK.out]; exact HLA.out) ?_
                          rw [← HTK.out]
                          exact insAt_sorted HFD.out.1 hp HD.out (.inr (by rw [← HY.out]; exact hty))
                        · rw [insAt_len]; exact HR.out
                    · obtain rfl : p = 0 := by omega
                      go_wp2_with fail
                      go_quiet (fail)
                      go_wp2_with fail
                      refine ⟨⟨k + 1, insAt l t 0, by omega, by rw [insAt_len]; omega, by go_num, ?_, ?_, below_drewN HB3.out _⟩, by simp [Go.RowKit.intOf]; omega⟩
                      · rw [HTK.out]
                        refine HFD.out.yes (by rw [← HTK.out]; exact HLA.out) ?_
                        rw [← HTK.out]
                        exact insAt_sorted HFD.out.1 hp HD.out (.inl rfl)
                      · rw [insAt_len]; exact HR.out
          · have hla' : (lastN nt q t == 1) = false := by simpa using hla
            go_wp2_with fail
            refine ⟨⟨k + 1, l, by omega, by omega, by go_num, HFD.out.no (.inl (by rw [← HTK.out]; exact hla)), HX.out, HB.out⟩, by simp [Go.RowKit.intOf]; omega⟩
    · obtain rfl : k = N := by omega
      go_wp2_with fail
      go_ret
      exact ⟨_, l, rfl, own_ints HX.out, HFD.out, HB.out⟩

end Go.Proofs.Yteifhbkhjkmhfaa
