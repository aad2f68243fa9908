/-
  The walk of a script's picks, by the document.
-/
import Derived.Test.YteifhbkhjkmhfaaDoorScK
namespace Go.Proofs.YteifhbkhjkmhfaaDoor
open Go.RowKit Go.Shelf Go.Sort
set_option linter.unusedSimpArgs false
set_option linter.unusedVariables false

theorem lineL_task {v : List UInt8} {vs : List (List UInt8)} (h : taskL v = none) : lineL (v :: vs) = (Pk.zero, 4) := by simp only [lineL, h]
theorem taskI_some {v : List UInt8} {n : Nat} (h : taskL v = some n) : taskI v = n := by unfold taskI; rw [h]
theorem taskI_none {v : List UInt8} (h : taskL v = none) : taskI v = -1 := by unfold taskI; rw [h]
theorem linesL_len (l : List UInt8) : (linesL l).length ≤ l.length + 1 := by
  have := pcs_len 10 l
  unfold linesL
  split
  · rw [List.length_dropLast]; omega
  · exact this
theorem linesL_mem {l x : List UInt8} (h : x ∈ linesL l) : x.length ≤ l.length := by
  unfold linesL at h
  split at h
  · exact pcs_mem_len ((List.dropLast_subset _ h))
  · exact pcs_mem_len h

/-- The limit's test, of fewer. -/
theorem lim_step {ops : Array Oper} {rest : List Oper} {Q : Exit → Act → World → Prop} {a : Act} {w : World} {ty : TypeId} {pos : String} {after : Array Edge} (m : Nat) (hm : m < 1048576) (h59 : a.tmps[59]? = some (.int .i64 m))
    (h : wpList Tryd.prog ops Q rest (a.put (some 60) (.bool false)) w) :
    wpList Tryd.prog ops Q ({dst := some 60, op := .binOp .geq 3 (.tmp 59) (.const (.int .i64 1048576)) 3, type := ty, pos := pos, after := after, guard := none} :: rest) a w := by
  refine wpList_plain rfl ?_
  intro K hK
  have hd : decide ((1048576 : Int) ≤ (m : Int)) = false := by simp; omega
  go_simp
  exact hK _ _ h

/-- What the document's parse hands back. -/
def RefEnd (w : World) (r : List Pk × Nat × Int) (e : Ending) (w' : World) : Prop := ∃ v, e = .returned (.tuple #[v, .int .i64 r.2.1, .int .i64 r.2.2]) ∧ PicksAt w' v r.1 ∧ Below w.heap.size w w'

set_option maxRecDepth 100000 in
set_option maxHeartbeats 4000000 in
theorem refparse_any (s : ByteArray) (w : World) (hs : s.size ≤ 10000) : Calls Tryd.prog 12 #[.string s] w (RefEnd w (parseFrom 0 [] (linesL s.data.toList))) := by
  have hsz : s.data.toList.length = s.size := (Lib.size_eq s).symm
  have hll := linesL_len s.data.toList
  have hlm : ∀ x ∈ linesL s.data.toList, x.length ≤ 10000 := fun x hx => by have := linesL_mem hx; omega
  have hli := lines_any s w (by omega)
  obtain ⟨R, hR⟩ : ∃ R, R = parseFrom 0 [] (linesL s.data.toList) := ⟨_, rfl⟩
  rw [← hR]
  have HR := Lib.hid hR; clear hR
  have HLM := Lib.hid hlm; clear hlm
  have HLI := Lib.hid hli; clear hli
  generalize linesL s.data.toList = LS at *
  obtain ⟨i0, hi0, hy0, hy1, hy2⟩ := info_parts info47
  go_enter Tryd.func12, Tryd.ntmps12
  go_wp2_with (first
    | (go_at_call 14; refine (HLI.out).mono ?_; rintro e w1 ⟨v1, rfl, ht1, hb1⟩)
    | go_in)
  obtain ⟨lo, lc, rfl, ht⟩ := ht1
  have HT := Lib.hid ht
  have HB1 := Lib.hid hb1
  have hws1 := hb1.size
  clear ht hb1
  have hLS : LS.length ≤ 10001 := by omega
  go_loopw [5, 7] (fun x i wr => ∃ (k : Nat) (L : List Pk), k ≤ LS.length ∧ L.length ≤ k ∧ i = .int .i64 k ∧ Hid (Sofar (LS.take k) L) ∧ Hid (wr.ownsRow w1.heap.size 47 2 x L.length (pkCells L)) ∧ Hid (Below w1.heap.size w1 wr)) (fun _ i _ => LS.length - (Go.RowKit.intOf i).toNat)
  case atStart => exact ⟨0, [], Nat.zero_le _, Nat.zero_le _, rfl, Sofar.start, World.ownsRow_nil _ _ _ _, Below.refl _ _⟩
  case round =>
    obtain ⟨k, L, hk, hL, rfl, HS, HX, HB⟩ := hrel
    obtain ⟨xo, xc, rfl, _⟩ := row_form HX.out
    have hws := HB.out.size
    by_cases hlt : k < LS.length
    · obtain ⟨g, rfl, hc⟩ := HT.out k hlt
      have hgb := World.block_lt_of_cell? w1 _ hc
      have hc1 : wr.cell? ⟨g, k, none⟩ = some (sv (LS.getD k [])) := (HB.out.cell (p := ⟨g, k, none⟩) hgb).trans hc
      have htk : LS.take (k + 1) = LS.take k ++ [LS.getD k []] := by
        rw [List.take_succ_eq_append_getElem hlt]
        simp [List.getD_eq_getElem?_getD, hlt]
      have hxm : (LS.getD k []).length ≤ 10000 := HLM.out _ (by rw [List.getD_eq_getElem?_getD, List.getElem?_eq_getElem hlt]; simp)
      have htl : (LS.take k).length = k := by rw [List.length_take]; omega
      have HTK := Lib.hid htk
      have HTL := Lib.hid htl
      have hall : LS = LS.take (k + 1) ++ LS.drop (k + 1) := (List.take_append_drop _ _).symm
      have HALL := Lib.hid hall
      clear htk htl hc hall
      generalize LS.getD k [] = x at *
      have hw := refwords_any (bs x) wr (by rw [bs_size]; omega)
      rw [toList_bs] at hw
      cases hws' : wordsL x with
      | nil =>
        rw [hws'] at hw
        have HW := Lib.hid hw
        have hsk : skipB (wordsL x) = true := by rw [hws']; rfl
        have HSK := Lib.hid hsk
        clear hw hws' hsk
        go_wp2_with (first
          | (go_at_call 36; refine (HW.out).mono ?_; rintro e w2 ⟨v2, rfl, ⟨wo, wc, rfl, hwt⟩, hb2⟩; have HB2 := Lib.hid hb2; clear hb2 hwt; simp only [List.length_nil])
          | go_in)
        have ht := HS.out.skip HSK.out
        rw [← HTK.out] at ht
        exact ⟨⟨k + 1, L, by omega, by omega, by go_num, ht, HX.out.kept (grown_none HB2.out) (by cases e : (Value.slice xo L.length xc).ownBlock with | none => exact .inl rfl | some g => exact .inr (by simp)), HB.out.trans (HB2.out.mono hws)⟩, by simp [Go.RowKit.intOf]; omega⟩
      | cons v vs =>
        rw [hws'] at hw
        have HW := Lib.hid hw
        have hwrong : ∀ e, skipB (v :: vs) = false → (lineL (v :: vs)).2 = e → e ≠ 0 → R = ([], k + 1, e) := fun e h1 h2 h3 => by
          have h := HS.out.wrong (l := x) (by rw [hws']; exact h1) (by rw [hws', h2]; exact h3) (LS.drop (k + 1))
          rw [← HTK.out, ← HALL.out, HTL.out, hws', h2] at h
          rw [HR.out]
          exact h
        have htake : ∀ pk, skipB (v :: vs) = false → lineL (v :: vs) = (pk, 0) → Sofar (LS.take (k + 1)) (L ++ [pk]) := fun pk h1 h2 => by
          have h := HS.out.take (l := x) (by rw [hws']; exact h1) (by rw [hws', h2])
          rw [← HTK.out, hws', h2] at h
          exact h
        have hskip : skipB (v :: vs) = true → Sofar (LS.take (k + 1)) L := fun h1 => by
          have h := HS.out.skip (l := x) (by rw [hws']; exact h1)
          rw [← HTK.out] at h
          exact h
        have hvm : v ≠ [] ∧ v.length ≤ 10000 := by
          have := wordsL_mem (l := x) (p := v) (by rw [hws']; simp)
          exact ⟨this.1, by omega⟩
        obtain ⟨hv0, hvl⟩ := hvm
        have HWR := Lib.hid hwrong
        have HTA := Lib.hid htake
        have HSK := Lib.hid hskip
        clear hw hws' hwrong htake hskip
        obtain ⟨c, v', rfl⟩ : ∃ c v', v = c :: v' := by
          cases v with
          | nil => exact absurd rfl hv0
          | cons c v' => exact ⟨c, v', rfl⟩
        have hlen : 1 ≤ ((c :: v') :: vs).length := by simp
        have hm0 : ((((c :: v') :: vs).length : Int) == 0) = false := by simp; omega
        by_cases hc35 : c = 35
        · have hskp : skipB ((c :: v') :: vs) = true := by subst hc35; rfl
          have HSP := Lib.hid (HSK.out hskp)
          clear hskp
          have hcI : (((bs (c :: v'))[0]'(by show 0 < (c :: v').length; simp)).toNat : Int) = 35 := by
            show ((c.toNat : Nat) : Int) = 35
            rw [hc35]; rfl
          clear hc35
          generalize hm : ((c :: v') :: vs).length = m at *
          go_wp2_with (first
            | (go_at_call 36; refine (HW.out).mono ?_; rintro e w2 ⟨v2, rfl, ⟨wo, wc, rfl, hwt⟩, hb2⟩; have HB2 := Lib.hid hb2; clear hb2; obtain ⟨g2, rfl, cw⟩ := hwt 0 (by simp); simp only [List.getD_cons_zero] at cw; clear hwt; rw [hm])
            | go_in)
          refine ⟨⟨k + 1, L, by omega, by omega, by go_num, HSP.out, HX.out.kept (grown_none HB2.out) (by cases e : (Value.slice xo L.length xc).ownBlock with | none => exact .inl rfl | some g => exact .inr (by simp)), HB.out.trans (HB2.out.mono hws)⟩, by simp [Go.RowKit.intOf]; omega⟩
        · have hskp : skipB ((c :: v') :: vs) = false := by simp [skipB, hc35]
          have hcI : (((((bs (c :: v'))[0]'(by show 0 < (c :: v').length; simp)).toNat : Int)) == 35) = false := by
            show (((c.toNat : Nat) : Int) == 35) = false
            simp
            intro h
            apply hc35
            have : c.toNat = 35 := by omega
            exact UInt8.toNat_inj.1 this
          clear hc35
          have hT37 := fun W => reftask_any (bs (c :: v')) W (by rw [bs_size]; omega)
          simp only [toList_bs] at hT37
          cases ht : taskL (c :: v') with
          | none =>
            rw [taskI_none ht] at hT37
            have HTK37 := Lib.hid hT37
            have HEE := Lib.hid (HWR.out 4 hskp (by rw [lineL_task ht]) (by decide))
            clear hT37 hskp ht
            generalize hm : ((c :: v') :: vs).length = m at *
            go_wp2_with (first
              | (go_at_call 36; refine (HW.out).mono ?_; rintro e w2 ⟨v2, rfl, ⟨wo, wc, rfl, hwt⟩, hb2⟩; have HB2 := Lib.hid hb2; clear hb2; obtain ⟨g2, rfl, cw⟩ := hwt 0 (by simp); simp only [List.getD_cons_zero] at cw; have HWT := Lib.hid hwt; clear hwt; rw [hm])
              | (go_at_call 37; refine (HTK37.out _).mono ?_; rintro e w3 ⟨rfl, hb3⟩; have hz2 : w1.heap.size ≤ w2.heap.size := (by have := HB2.out.size; omega); have hz3 : w1.heap.size ≤ w3.heap.size := (by have := hb3.size; omega); have HB3 := Lib.hid hb3; clear hb3)
              | go_in)
            go_ret3
            exact ⟨.slice none 0 0, by rw [HEE.out]; rfl, by rw [HEE.out]; exact picks_nil _, HB1.out.trans (((HB.out.trans (HB2.out.mono hws)).trans (HB3.out.mono hz2)).mono hws1)⟩

          | some n =>
            rw [taskI_some ht] at hT37
            have hge : 0 ≤ (n : Int) := by omega
            have hll1 : lineL [c :: v'] = (⟨n, 0⟩, 0) := by simp only [lineL, ht]
            have hll0 : ∀ u us, opNum u = 0 → (lineL ((c :: v') :: u :: us)).2 = 5 := fun u us h => by simp only [lineL, ht, h, if_true]
            have hll2 : ∀ u, opNum u ≠ 0 → lineL [c :: v', u] = (⟨n, opNum u⟩, 0) := fun u h => by simp only [lineL, ht, h, if_false]
            have hll3 : ∀ u y ys, opNum u ≠ 0 → (lineL ((c :: v') :: u :: y :: ys)).2 = 4 := fun u y ys h => by simp only [lineL, ht, h, if_false]
            clear ht
            generalize (n : Int) = z at *
            have HTK37 := Lib.hid hT37
            have HL1 := Lib.hid hll1
            have HL0 := Lib.hid hll0
            have HL2 := Lib.hid hll2
            have HL3 := Lib.hid hll3
            clear hT37 hll1 hll0 hll2 hll3
            cases vs with
            | nil =>
              have HSO := Lib.hid (HTA.out ⟨z, 0⟩ hskp HL1.out)
              clear hskp hm0 hlen
              go_wp2_with (first
                | (go_at_call 36; refine (HW.out).mono ?_; rintro e w2 ⟨v2, rfl, ⟨wo, wc, rfl, hwt⟩, hb2⟩; have HB2 := Lib.hid hb2; clear hb2; obtain ⟨g2, rfl, cw⟩ := hwt 0 (by simp); simp only [List.getD_cons_zero] at cw; have HWT := Lib.hid hwt; clear hwt; rw [show [c :: v'].length = 1 from rfl])
                | (go_at_call 37; refine (HTK37.out _).mono ?_; rintro e w3 ⟨rfl, hb3⟩; have hz2 : w1.heap.size ≤ w2.heap.size := (by have := HB2.out.size; omega); have hz3 : w1.heap.size ≤ w3.heap.size := (by have := hb3.size; omega); have HB3 := Lib.hid hb3; clear hb3)
                | (with_reducible refine lim_step L.length ?_ ?_ ?_; omega; simp; simp only [Act.put, List.setIfInBounds_toArray, List.set_cons_succ, List.set_cons_zero])
                | (at_builtin; refine wpList_append_lies _ (by rfl) _ _ _ (by rfl) w1.heap.size 47 i0 _ 2 16 Tryd.underlying23 hi0 hy0 hy1 hy2 rfl (by omega) (.slice xo L.length xc) L.length (pkCells L) (by rfl)
                      (((HX.out.kept (grown_none HB2.out) (by cases e : (Value.slice xo L.length xc).ownBlock with | none => exact .inl rfl | some g => exact .inr (by simp))).kept (grown_none HB3.out) (by cases e : (Value.slice xo L.length xc).ownBlock with | none => exact .inl rfl | some g => exact .inr (by simp))).alloc _) ⟨w3.heap.size, 0, none⟩ 1 1 [.int .i64 z, .int .i64 0] (by rfl) (by rfl)
                      (World.news_of_block (cs := #[.int .i64 z, .int .i64 0]) (t := 47) (fr := (0, 0)) (heap_alloc_new w3 _)) (by simp [Value.oneCell']) (by omega) (by unfold maxLen; omega) (by omega) (by simp; omega) (w3.heap.size + 1) (by simp) ?_; intro g3 cp3 w5 hown5 hgrow5 hat5 hlt5)
                | go_in)
              have p0 : Below w1.heap.size w1 w3 := (HB.out.trans (HB2.out.mono hws)).trans (HB3.out.mono hz2)
              have p1 := p0.alloc p0.size (.cells #[.int .i64 z, .int .i64 0] 47)
              have p2 := p1.grown hgrow5 p1.size (fun j hj => (HX.out.lt j hj).1)
              refine ⟨⟨k + 1, L ++ [⟨z, 0⟩], by omega, by simp; omega, by go_num, HSO, ?_, p2⟩, by simp [Go.RowKit.intOf]; omega⟩
              show w5.ownsRow _ 47 2 _ _ _
              rw [pkCells_snoc, List.length_append]
              exact hown5

            | cons u us =>
              have HN19 := Lib.hid (fun W => refnumber_any u W)
              have hskp' := hskp
              have hl0 := HL0.out u
              have hl2 := HL2.out u
              have hl3 := HL3.out u
              clear HL0 HL1 HL2 HL3
              generalize opNum u = q at *
              by_cases hq : q = 0
              · have HEE := Lib.hid (HWR.out 5 hskp (hl0 us hq) (by decide))
                have hqz : ((q : Int) == 0) = true := by simp; omega
                have h2m : 2 ≤ ((c :: v') :: u :: us).length := by simp
                clear hl0 hl2 hl3 hskp hskp' hq
                generalize hm : ((c :: v') :: u :: us).length = m at *
                go_wp2_with (first
                  | (go_at_call 36; refine (HW.out).mono ?_; rintro e w2 ⟨v2, rfl, ⟨wo, wc, rfl, hwt⟩, hb2⟩; have HB2 := Lib.hid hb2; clear hb2; obtain ⟨g2, rfl, cw⟩ := hwt 0 (by simp); simp only [List.getD_cons_zero] at cw; obtain ⟨g3, hg3, cu⟩ := hwt 1 (by simp); cases hg3; simp only [List.getD_cons_succ, List.getD_cons_zero] at cu; clear hwt; rw [hm])
                  | (go_at_call 37; refine (HTK37.out _).mono ?_; rintro e w3 ⟨rfl, hb3⟩; have hz2 : w1.heap.size ≤ w2.heap.size := (by have := HB2.out.size; omega); have hz3 : w1.heap.size ≤ w3.heap.size := (by have := hb3.size; omega); have cu3 : w3.cell? ⟨g2, 1, none⟩ = some (sv u) := (hb3.cell (p := ⟨g2, 1, none⟩) (World.block_lt_of_cell? w2 _ cu)).trans cu; have HB3 := Lib.hid hb3; clear hb3)
                  | (go_at_call 19; refine (HN19.out _).mono ?_; rintro e w4 ⟨rfl, hb4⟩; have hz4 : w1.heap.size ≤ w4.heap.size := (by have := hb4.size; omega); have HB4 := Lib.hid hb4; clear hb4)
                  | go_in)
                go_ret3
                exact ⟨.slice none 0 0, by rw [HEE.out]; rfl, by rw [HEE.out]; exact picks_nil _, HB1.out.trans (((((HB.out.trans (HB2.out.mono hws)).trans (HB3.out.mono hz2)).trans (HB4.out.mono hz3))).mono hws1)⟩
              · have hqz : ((q : Int) == 0) = false := by simp; omega
                cases us with
                | nil =>
                  have HSO := Lib.hid (HTA.out ⟨z, q⟩ hskp (hl2 hq))
                  have h2m : 2 ≤ ((c :: v') :: [u]).length := by simp
                  have h2n : ((c :: v') :: [u]).length ≤ 2 := by simp
                  clear hl0 hl2 hl3 hskp hskp' hq
                  generalize hm : ((c :: v') :: [u]).length = m at *
                  go_wp2_with (first
                    | (go_at_call 36; refine (HW.out).mono ?_; rintro e w2 ⟨v2, rfl, ⟨wo, wc, rfl, hwt⟩, hb2⟩; have HB2 := Lib.hid hb2; clear hb2; obtain ⟨g2, rfl, cw⟩ := hwt 0 (by simp); simp only [List.getD_cons_zero] at cw; obtain ⟨g3, hg3, cu⟩ := hwt 1 (by simp); cases hg3; simp only [List.getD_cons_succ, List.getD_cons_zero] at cu; clear hwt; rw [hm])
                    | (go_at_call 37; refine (HTK37.out _).mono ?_; rintro e w3 ⟨rfl, hb3⟩; have hz2 : w1.heap.size ≤ w2.heap.size := (by have := HB2.out.size; omega); have hz3 : w1.heap.size ≤ w3.heap.size := (by have := hb3.size; omega); have cu3 : w3.cell? ⟨g2, 1, none⟩ = some (sv u) := (hb3.cell (p := ⟨g2, 1, none⟩) (World.block_lt_of_cell? w2 _ cu)).trans cu; have HB3 := Lib.hid hb3; clear hb3)
                    | (go_at_call 19; refine (HN19.out _).mono ?_; rintro e w4 ⟨rfl, hb4⟩; have hz4 : w1.heap.size ≤ w4.heap.size := (by have := hb4.size; omega); have HB4 := Lib.hid hb4; clear hb4)
                    | (with_reducible refine lim_step L.length ?_ ?_ ?_; omega; simp; simp only [Act.put, List.setIfInBounds_toArray, List.set_cons_succ, List.set_cons_zero])
                    | (at_builtin; refine wpList_append_lies _ (by rfl) _ _ _ (by rfl) w1.heap.size 47 i0 _ 2 16 Tryd.underlying23 hi0 hy0 hy1 hy2 rfl (by omega) (.slice xo L.length xc) L.length (pkCells L) (by rfl)
                          ((((HX.out.kept (grown_none HB2.out) (by cases e : (Value.slice xo L.length xc).ownBlock with | none => exact .inl rfl | some g => exact .inr (by simp))).kept (grown_none HB3.out) (by cases e : (Value.slice xo L.length xc).ownBlock with | none => exact .inl rfl | some g => exact .inr (by simp))).kept (grown_none HB4.out) (by cases e : (Value.slice xo L.length xc).ownBlock with | none => exact .inl rfl | some g => exact .inr (by simp))).alloc _) ⟨w4.heap.size, 0, none⟩ 1 1 [.int .i64 z, .int .i64 q] (by rfl) (by rfl)
                          (World.news_of_block (cs := #[.int .i64 z, .int .i64 q]) (t := 47) (fr := (0, 0)) (heap_alloc_new w4 _)) (by simp [Value.oneCell']) (by omega) (by unfold maxLen; omega) (by omega) (by simp; omega) (w4.heap.size + 1) (by simp) ?_; intro g3 cp3 w5 hown5 hgrow5 hat5 hlt5)
                    | go_in)
                  have p0 : Below w1.heap.size w1 w4 := ((((HB.out.trans (HB2.out.mono hws)).trans (HB3.out.mono hz2)).trans (HB4.out.mono hz3)))
                  have p1 := p0.alloc p0.size (.cells #[.int .i64 z, .int .i64 q] 47)
                  have p2 := p1.grown hgrow5 p1.size (fun j hj => (HX.out.lt j hj).1)
                  refine ⟨⟨k + 1, L ++ [⟨z, q⟩], by omega, by simp; omega, by go_num, HSO, ?_, p2⟩, by simp [Go.RowKit.intOf]; omega⟩
                  show w5.ownsRow _ 47 2 _ _ _
                  rw [pkCells_snoc, List.length_append]
                  exact hown5
                | cons y ys =>
                  have HEE := Lib.hid (HWR.out 4 hskp (hl3 y ys hq) (by decide))
                  have h3m : 3 ≤ ((c :: v') :: u :: y :: ys).length := by simp
                  clear hl0 hl2 hl3 hskp hskp' hq
                  generalize hm : ((c :: v') :: u :: y :: ys).length = m at *
                  go_wp2_with (first
                    | (go_at_call 36; refine (HW.out).mono ?_; rintro e w2 ⟨v2, rfl, ⟨wo, wc, rfl, hwt⟩, hb2⟩; have HB2 := Lib.hid hb2; clear hb2; obtain ⟨g2, rfl, cw⟩ := hwt 0 (by simp); simp only [List.getD_cons_zero] at cw; obtain ⟨g3, hg3, cu⟩ := hwt 1 (by simp); cases hg3; simp only [List.getD_cons_succ, List.getD_cons_zero] at cu; clear hwt; rw [hm])
                    | (go_at_call 37; refine (HTK37.out _).mono ?_; rintro e w3 ⟨rfl, hb3⟩; have hz2 : w1.heap.size ≤ w2.heap.size := (by have := HB2.out.size; omega); have hz3 : w1.heap.size ≤ w3.heap.size := (by have := hb3.size; omega); have cu3 : w3.cell? ⟨g2, 1, none⟩ = some (sv u) := (hb3.cell (p := ⟨g2, 1, none⟩) (World.block_lt_of_cell? w2 _ cu)).trans cu; have HB3 := Lib.hid hb3; clear hb3)
                    | (go_at_call 19; refine (HN19.out _).mono ?_; rintro e w4 ⟨rfl, hb4⟩; have hz4 : w1.heap.size ≤ w4.heap.size := (by have := hb4.size; omega); have HB4 := Lib.hid hb4; clear hb4)
                    | go_in)
                  go_ret3
                  exact ⟨.slice none 0 0, by rw [HEE.out]; rfl, by rw [HEE.out]; exact picks_nil _, HB1.out.trans (((((HB.out.trans (HB2.out.mono hws)).trans (HB3.out.mono hz2)).trans (HB4.out.mono hz3))).mono hws1)⟩

    · obtain rfl : k = LS.length := by omega
      have hend : R = (L, 0, 0) := by
        have h := HS.out []
        rw [List.append_nil, List.take_length] at h
        rw [HR.out]
        exact h
      have HE := Lib.hid hend
      clear hend
      go_wp2_with fail
      go_ret3
      exact ⟨.slice xo L.length xc, by rw [HE.out]; rfl, by rw [HE.out]; exact picks_of_row HX.out, HB1.out.trans (HB.out.mono hws1)⟩

end Go.Proofs.YteifhbkhjkmhfaaDoor
