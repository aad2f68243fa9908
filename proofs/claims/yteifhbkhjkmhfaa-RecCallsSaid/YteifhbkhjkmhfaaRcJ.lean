/-
  The walk of what a history's calls are, by the document: each call is scanned to the end.
-/
import Derived.Test.YteifhbkhjkmhfaaRcI
namespace Go.Proofs.Yteifhbkhjkmhfaa
open Go.RowKit
set_option linter.unusedSimpArgs false
set_option linter.unusedVariables false

set_option maxRecDepth 100000 in
set_option maxHeartbeats 4000000 in
theorem refcalls_any (oa : Option Addr) (N cap : Nat) (nt : Nat → Nt) (w : World) (hN : N ≤ 200) (hnt : NotesAt w oa N nt) :
    Calls Try.prog 12 #[.slice oa N cap] w fun e w' => ∃ v, e = .returned v ∧ CalsAt w' v (callsTo nt N N) ∧ Below w.heap.size w w' := by
  have HNT := Lib.hid hnt; clear hnt
  go_enter Try.func12, Try.ntmps12
  go_wp2
  go_loopw [3, 4] (fun x i wr => ∃ (k : Nat) (v : Ky → Value), k ≤ N ∧ i = .int .i64 k ∧ x = v .out ∧ v (.opn 0) = nilV ∧ Hid (RInv wr w.heap.size v (callsTo nt N k) (onlyO [])) ∧ Hid (Below w.heap.size w wr)) (fun _ i _ => N - (Go.RowKit.intOf i).toNat)
  case atStart =>
    refine ⟨0, fun _ => nilV, Nat.zero_le _, rfl, rfl, rfl, ?_, Below.refl _ _⟩
    refine ⟨⟨fun q => ?_, fun _ _ _ => .inl rfl⟩, fun _ _ => rfl⟩
    cases q with
    | out => exact World.ownsRow_nil _ _ _ _
    | pts j => exact World.ownsRow_nil _ _ _ _
    | opn t =>
      by_cases e : t = 0
      · subst e; exact World.ownsRow_nil _ _ _ _
      · simp [xsOf, nOf, onlyO, e, natsV]; exact World.ownsRow_nil _ _ _ _
  case round =>
    obtain ⟨k, v, hk, rfl, rfl, hnil, HI, HB⟩ := hrel
    have HNIL := Lib.hid hnil; clear hnil
    have hlen := callsTo_len nt N k
    have hBs := HB.out.size
    obtain ⟨oo, oc, hvo, hoo, hoo'⟩ := own_form (HI.out.rows.own .out)
    have hvo' : v .out = .slice oo (callsTo nt N k).length oc := hvo
    clear hvo
    by_cases hlt : k < N
    · obtain ⟨a, rfl, c0, c1, c2, c3, hwf⟩ := HNT.out k hlt
      have ha : a.block < w.heap.size := by
        have := World.block_lt_of_cell? w _ c0
        rwa [add_block] at this
      have hcl : ∀ p : Addr, p.block < w.heap.size → wr.cell? p = w.cell? p := fun p hp => HB.out.cell hp
      rw [← hcl _ (by rw [add_block]; exact ha)] at c0
      rw [← hcl _ (by show (a.add (k * 4)).block < _; rw [add_block]; exact ha)] at c1 c2 c3
      clear hcl
      by_cases hw1 : (nt k).what = 1
      · rw [hw1] at c1
        rw [hvo']
        have hal : a.block < wr.heap.size := by omega
        have d0 := (World.cell?_alloc_lt wr (.cells #[.int .i64 0, .int .i64 0, .int .i64 0, .int .i64 0, .int .i64 0, .slice none 0 0] 52) (a.add (k * 4)) (by rw [add_block]; exact hal)).trans c0
        have d2 := (World.cell?_alloc_lt wr (.cells #[.int .i64 0, .int .i64 0, .int .i64 0, .int .i64 0, .int .i64 0, .slice none 0 0] 52) { block := (a.add (k * 4)).block, off := (a.add (k * 4)).off + 2 } (by show (a.add (k * 4)).block < _; rw [add_block]; exact hal)).trans c2
        go_wp2_with fail
        go_region
        clear c0 c1 c2 c3 d0 d2
        go_wp2_with fail
        obtain ⟨wo, rfl⟩ : ∃ x, x = wr := ⟨wr, rfl⟩
        have hbo : ∀ q, (v q).ownBlock ≠ some wo.heap.size := fun q e => by have := ((HI.out.rows.own q).lt _ e).2; omega
        have hcN : callsTo nt N (k + 1) = callsTo nt N k ++ [scanD nt k (N - (k + 1))] := by
          show callsTo nt N k ++ _ = _
          rw [if_pos hw1]
        have HCN := Lib.hid hcN; clear hcN
        have HBO := Lib.hid hbo; clear hbo
        go_loopw [6] (fun i wr => ∃ (j d : Nat) (v' : Ky → Value) (ps : List Nat), j ≤ N ∧ Hid (j = k + 1 + d) ∧ i = .int .i64 j ∧ v' .out = v .out ∧ Hid (castL ps = (scanD nt k d).pts) ∧ Hid (∀ q, (v' q).ownBlock ≠ some wo.heap.size) ∧
            Hid (RInv wr w.heap.size v' (callsTo nt N k) (onlyO ps)) ∧ Hid (Blk wr wo.heap.size 52 (calCells (scanD nt k d) (v' (.opn 0))).toArray) ∧ Hid (Below w.heap.size w wr)) (fun i _ => N - (Go.RowKit.intOf i).toNat)
        case atStart =>
          refine ⟨k + 1, 0, v, [], by omega, rfl, by go_num, rfl, rfl, HBO.out, (HI.out.alloc _).drewN 1, ?_, (HB.out.alloc hBs _).drew⟩
          rw [HNIL.out]
          exact (Blk.new wo 52 _).drew
        case round =>
          obtain ⟨j, d, v', ps, hjN, HJ, rfl, hv'o, HPS, HBO', HI', HBk, HB'⟩ := hrel
          have b0 : wr.cell? ⟨wo.heap.size, 0, none⟩ = some (.int .i64 (scanD nt k d).task) := HBk.out.cell 0
          have b3 : wr.cell? ⟨wo.heap.size, 3, none⟩ = some (.int .i64 (scanD nt k d).to) := HBk.out.cell 3
          have bf := HBk.out.frozen
          by_cases hgo : j < N ∧ (scanD nt k d).to < 0
          · obtain ⟨hjlt, hto⟩ := hgo
            obtain ⟨_, hh, e0, e1, e2, e3, hwf'⟩ := HNT.out j hjlt
            injection hh with hh
            subst hh
            have hcl : ∀ p : Addr, p.block < w.heap.size → wr.cell? p = w.cell? p := fun p hp => HB'.out.cell hp
            rw [← hcl _ (by rw [add_block]; exact ha)] at e0
            rw [← hcl _ (by show (a.add (j * 4)).block < _; rw [add_block]; exact ha)] at e1 e2 e3
            clear hcl
            have hsc : scanD nt k (d + 1) = stepC j (nt j) (scanD nt k d) := by rw [HJ.out]; rfl
            have HSC := Lib.hid hsc; clear hsc
            generalize hc : scanD nt k d = c at *
            generalize hn : nt j = n at *
            have HC := Lib.hid hc; clear hc
            have HN := Lib.hid hn; clear hn
            by_cases hta : n.task = c.task
            · rw [hta] at e0
              by_cases hn1 : n.what = 1
              · rw [hn1] at e1
                clear hwf hwf' hlen HNT hBs
                go_wp2_with fail
                go_quiet (fail)
                go_wp2_with fail
                go_roundw
                case rel =>
                  have e : stepC j n c = c := stepC_call _ _ _ hn1
                  refine ⟨j + 1, d + 1, v', ps, by omega, by have := HJ.out; show j + 1 = k + 1 + (d + 1); omega, by go_num, hv'o, ?_, HBO'.out, HI'.out.drewN _, ?_, below_drewN HB'.out _⟩
                  · rw [HSC.out, e]; exact HPS.out
                  · rw [HSC.out, e]; exact HBk.out.drewN _
                case measure => simp [Go.RowKit.intOf]; omega
              · have hn1' : (n.what == 1) = false := by simpa using hn1
                by_cases hn11 : n.what = 11
                · rw [hn11] at e1
                  have hgne : a.block ≠ wo.heap.size := by omega
                  have b4 : wr.cell? ⟨wo.heap.size, 4, none⟩ = some (.int .i64 c.ret) := HBk.out.cell 4
                  have q3 : (a.add (j * 4)).block ≠ wo.heap.size := by rw [add_block]; exact hgne
                  clear hwf hwf' hlen HNT hBs
                  go_wp2_with fail
                  go_quiet (fail)
                  go_wp2_with fail
                  go_roundw
                  case rel =>
                    have e : stepC j n c = { c with to := j, ret := n.arg } := by unfold stepC; rw [if_pos ⟨hta.symm, hn1, hto⟩, if_pos hn11]
                    have hbw : w.heap.size ≤ wo.heap.size := HB.out.size
                    refine ⟨j + 1, d + 1, v', ps, by omega, by have := HJ.out; show j + 1 = k + 1 + (d + 1); omega, by go_num, hv'o, ?_, HBO'.out, ((HI'.out.drewN _).far _ 3 HBO'.out _).far _ 4 HBO'.out _, ?_, ((below_drewN HB'.out _).setCell (p := ⟨wo.heap.size, 3, none⟩) hbw _).setCell (p := ⟨wo.heap.size, 4, none⟩) hbw _⟩
                    · rw [HSC.out, e]; exact HPS.out
                    · rw [HSC.out, e]; exact ((HBk.out.drewN _).set_ 3 _).set_ 4 _
                  case measure => simp [Go.RowKit.intOf]; omega
                · have hn11' : (n.what == 11) = false := by simpa using hn11
                  have hpr : wr.ownsRow w.heap.size 3 1 (v' (.opn 0)) ps.length (natsV ps) := HI'.out.rows.own (.opn 0)
                  obtain ⟨qo, qc, hqv, _⟩ := own_form hpr
                  have hpl : ps.length ≤ d := by
                    have h1 := scanD_pts nt k d
                    rw [HC.out, ← HPS.out, castL_len] at h1
                    exact h1
                  have hdj := HJ.out
                  have hpl2 : ps.length ≤ 200 := by omega
                  clear hdj hpl
                  have b5 : wr.cell? ⟨wo.heap.size, 5, none⟩ = some (.slice qo ps.length qc) := by rw [← hqv]; exact HBk.out.cell 5
                  obtain ⟨i0, hi0, hz0, hz1, hz2⟩ := info_parts info3
                  have hws : w.heap.size ≤ wr.heap.size := HB'.out.size
                  have hbl : wo.heap.size < wr.heap.size := HBk.out.lt
                  have hbw : w.heap.size ≤ wo.heap.size := HB.out.size
                  rw [hqv] at hpr
                  have hgo6 : some wo.heap.size ≠ (Value.slice qo ps.length qc).ownBlock := by rw [← hqv]; exact fun e => HBO'.out _ e.symm
                  have hcs0 : ∀ m, ∀ x : World, ((wr.drewN m).alloc (.cells #[.int .i64 (j : Int)] 3)).grownBy x (Value.slice qo ps.length qc).ownBlock → x.cell? ⟨wo.heap.size, 5, none⟩ = some (.slice qo ps.length qc) := fun m x hg =>
                    (hg.cell_far ⟨wo.heap.size, 5, none⟩ (by simp; omega) hgo6).trans ((World.cell?_alloc_lt (wr.drewN m) _ ⟨wo.heap.size, 5, none⟩ hbl).trans b5)
                  have hfs0 : ∀ m, ∀ x : World, ((wr.drewN m).alloc (.cells #[.int .i64 (j : Int)] 3)).grownBy x (Value.slice qo ps.length qc).ownBlock → x.frozen? ⟨wo.heap.size, 5, none⟩ = false := fun m x hg =>
                    (hg.frozen_far ⟨wo.heap.size, 5, none⟩ (by simp; omega) hgo6).trans (((Below.refl wr.heap.size (wr.drewN m)).alloc (Nat.le_refl _) (.cells #[.int .i64 (j : Int)] 3)).frozen (p := ⟨wo.heap.size, 5, none⟩) hbl |>.trans (bf 5))
                  have HPR := Lib.hid hpr; clear hpr
                  have HQV := Lib.hid hqv; clear hqv
                  clear hwf hwf' hlen HNT hBs
                  go_wp2_with fail
                  go_quiet (fail)
                  rename_i nq
                  have HPQ : Hid ((wr.drewN nq).ownsRow w.heap.size 3 1 (.slice qo ps.length qc) ps.length (natsV ps)) := HPR.out
                  go_wp2_with (first
                    | (at_builtin; refine wpList_append_lies _ (by rfl) _ _ _ (by rfl) w.heap.size 3 i0 _ 1 8 Try.underlying37 hi0 hz0 hz1 hz2 rfl (by omega) (.slice qo ps.length qc) ps.length (natsV ps) (by rfl)
                        (HPQ.out.alloc _) ⟨wr.heap.size, 0, none⟩ 1 1 [.int .i64 (j : Int)] (by rfl) (by rfl)
                        (World.news_of_block (cs := #[.int .i64 (j : Int)]) (t := 3) (fr := (0, 0)) (heap_alloc_new (wr.drewN nq) _)) (by simp [Value.oneCell']) (by omega) (by unfold maxLen; omega) (by omega) (by simp; omega) (wr.heap.size + 1) (by simp) ?_; intro g3 cp3 w3 hown4 hgrow3 hat3 hlt3; have hcs := hcs0 nq w3 hgrow3; have hfs := hfs0 nq w3 hgrow3)
                    | go_in)
                  have e : stepC j n c = { c with pts := c.pts ++ [(j : Int)] } := by unfold stepC; rw [if_pos ⟨hta.symm, hn1, hto⟩, if_neg hn11]
                  have hg3 : g3 ≠ wo.heap.size := by
                    rcases hat3 with h | h
                    · intro h2; rw [h2] at h; exact hgo6 h.symm
                    · omega
                  have r1 := ((HI'.out.drewN nq).alloc (.cells #[.int .i64 (j : Int)] 3)).open 0 j (w' := w3) (v' := .slice (some ⟨g3, 0, none⟩) (ps.length + 1) cp3) (by rw [HQV.out]; exact hgrow3) hown4
                    (by rw [HQV.out]; rcases hat3 with h | h; exact .inl (by rw [h]; rfl); exact .inr ⟨g3, rfl, by rw [h]; simp⟩)
                  rw [updO_only] at r1
                  have hbo2 : ∀ q, (upd v' (.opn 0) (.slice (some ⟨g3, 0, none⟩) (ps.length + 1) cp3) q).ownBlock ≠ some wo.heap.size := fun q => by
                    unfold upd
                    split
                    · intro h; injection h with h; exact hg3 h
                    · exact HBO'.out q
                  have b1 := ((below_drewN HB'.out nq).alloc hws (.cells #[.int .i64 (j : Int)] 3))
                  have b2 := b1.grown hgrow3 b1.size (fun j hj => (HPR.out.lt j hj).1)
                  have k1 : Blk w3 wo.heap.size 52 (calCells c (v' (.opn 0))).toArray := (hgrow3.block wo.heap.size (by simp; omega) hgo6).trans ((HBk.out.drewN nq).alloc _)
                  refine ⟨⟨j + 1, d + 1, upd v' (.opn 0) (.slice (some ⟨g3, 0, none⟩) (ps.length + 1) cp3), ps ++ [j], by omega, by have := HJ.out; show j + 1 = k + 1 + (d + 1); omega, by go_num, (upd_other _ _ (by intro e; cases e)).trans hv'o, ?_, hbo2, r1.far _ 5 hbo2 _, ?_, b2.setCell (p := ⟨wo.heap.size, 5, none⟩) hbw _⟩, by simp [Go.RowKit.intOf]; omega⟩
                  · rw [HSC.out, e]
                    show castL (ps ++ [j]) = c.pts ++ [(j : Int)]
                    rw [← HPS.out]
                    simp [castL]
                  · rw [HSC.out, e, upd_same]
                    exact k1.set_ 5 _
            · have hta' : (n.task != c.task) = true := by simpa using hta
              clear hwf hwf' hlen HNT hBs
              go_wp2_with fail
              go_quiet (fail)
              go_wp2_with fail
              go_roundw
              case rel =>
                have e : stepC j n c = c := stepC_far _ _ _ (fun h => hta h.symm)
                refine ⟨j + 1, d + 1, v', ps, by omega, by have := HJ.out; show j + 1 = k + 1 + (d + 1); omega, by go_num, hv'o, ?_, HBO'.out, HI'.out.drewN _, ?_, below_drewN HB'.out _⟩
                · rw [HSC.out, e]; exact HPS.out
                · rw [HSC.out, e]; exact HBk.out.drewN _
              case measure => simp [Go.RowKit.intOf]; omega
          · have hpr : wr.ownsRow w.heap.size 3 1 (v' (.opn 0)) ps.length (natsV ps) := HI'.out.rows.own (.opn 0)
            obtain ⟨qo, qc, hqv, _⟩ := own_form hpr
            have hfin : callsTo nt N (k + 1) = callsTo nt N k ++ [scanD nt k d] := by
              rw [HCN.out]
              have hdj := HJ.out
              congr 2
              by_cases hto : (scanD nt k d).to < 0
              · congr 1; omega
              · have := scanD_over nt k d hto (N - (k + 1) - d)
                rw [← this]
                congr 1
                omega
            have hrow := HI'.out.rows.own .out
            rw [hv'o, hvo'] at hrow
            have HO3 : Hid (wr.ownsRow w.heap.size 52 6 (.slice oo (callsTo nt N k).length oc) (callsTo nt N k).length (outCells (callsTo nt N k) fun j => v' (.pts j))) := hrow
            clear hrow hpr
            have b1 : wr.cell? ⟨wo.heap.size, 1, none⟩ = some (.int .i64 (scanD nt k d).op) := HBk.out.cell 1
            have b2 : wr.cell? ⟨wo.heap.size, 2, none⟩ = some (.int .i64 (scanD nt k d).fr) := HBk.out.cell 2
            have b4 : wr.cell? ⟨wo.heap.size, 4, none⟩ = some (.int .i64 (scanD nt k d).ret) := HBk.out.cell 4
            have b5 : wr.cell? ⟨wo.heap.size, 5, none⟩ = some (.slice qo ps.length qc) := by rw [← hqv]; exact HBk.out.cell 5
            have hcase : (j < N ∧ ¬ (scanD nt k d).to < 0) ∨ j = N := by omega
            have hws : w.heap.size ≤ wr.heap.size := HB'.out.size
            obtain ⟨i5, hi5, hy0, hy1, hy2⟩ := info_parts info52
            have hll : (callsTo nt N k).length ≤ 200 := by omega
            have HFIN := Lib.hid hfin; clear hfin
            have HQV := Lib.hid hqv; clear hqv
            generalize scanD nt k d = c at *
            clear hwf hlen hBs hgo HBk
            rcases hcase with ⟨hjlt, hto⟩ | hjN'
            all_goals
              go_wp2_with (first
                | (at_builtin; refine wpList_append_lies _ (by rfl) _ _ _ (by rfl) w.heap.size 52 i5 _ 6 64 Try.underlying34 hi5 hy0 hy1 hy2 rfl (by omega) (.slice oo (callsTo nt N k).length oc) (callsTo nt N k).length (outCells (callsTo nt N k) fun j => v' (.pts j)) (by rfl)
                    (HO3.out.alloc _) ⟨wr.heap.size, 0, none⟩ 1 1 (calCells c (.slice qo ps.length qc)) (by rfl) (by rfl)
                    (World.news_of_block (cs := (calCells c (.slice qo ps.length qc)).toArray) (t := 52) (fr := (0, 0)) (heap_alloc_new wr _)) (by simp [Value.oneCell', calCells]) (by omega) (by unfold maxLen; omega) (by omega) (by simp; omega) (wr.heap.size + 1) (by simp) ?_; intro g3 cp3 w3 hown4 hgrow3 hat3 hlt3)
                | go_in)
              have hI5 := (HI'.out.alloc (.cells (calCells c (.slice qo ps.length qc)).toArray 52)).addMove c HPS.out.symm (w' := w3) (v' := .slice (some ⟨g3, 0, none⟩) ((callsTo nt N k).length + 1) cp3) (by rw [hv'o, hvo']; exact hgrow3) (by rw [HQV.out]; exact hown4)
                (by rw [hv'o, hvo']; rcases hat3 with h | h; exact .inl (by rw [h]; rfl); exact .inr ⟨g3, rfl, by rw [h]; simp⟩)
              rw [← HFIN.out] at hI5
              have p1 := (HB'.out.alloc hws (.cells (calCells c (.slice qo ps.length qc)).toArray 52))
              have p2 := p1.grown hgrow3 p1.size (fun j hj => (HO3.out.lt j hj).1)
              exact ⟨⟨k + 1, _, by omega, by go_num, ((upd_other _ _ (by intro e; cases e)).trans ((upd_other _ _ (by intro e; cases e)).trans (upd_same _ _ _))).symm, upd_same _ _ _, hI5, p2⟩, by simp [Go.RowKit.intOf]; omega⟩
      · have hw1' : ((nt k).what == 1) = false := by simpa using hw1
        go_wp2_with fail
        go_roundw
        case rel =>
          refine ⟨k + 1, v, by omega, by go_num, rfl, HNIL.out, ?_, HB.out⟩
          have e : callsTo nt N (k + 1) = callsTo nt N k := by
            show callsTo nt N k ++ _ = _
            rw [if_neg hw1, List.append_nil]
          rw [e]
          exact HI.out
        case measure => simp [Go.RowKit.intOf]; omega
    · obtain rfl : k = N := by omega
      go_wp2_with fail
      go_ret
      exact ⟨_, rfl, HI.out.cals, HB.out⟩

end Go.Proofs.Yteifhbkhjkmhfaa
