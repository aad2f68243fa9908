/-
  The walk of what a history's calls are, by the program.
-/
import Derived.Test.YteifhbkhjkmhfaaRcE
import Derived.Deep.RegionHeld3
import Derived.Lib.SlKeysI
namespace Go.Proofs.Yteifhbkhjkmhfaa
open Go.RowKit
open Go.Maps (Keyed int_keyed keyOf_int_mk IsMap atKey_put_same atKey_put_other atKey_del_same atKey_del_other)
set_option linter.unusedSimpArgs false
set_option linter.unusedVariables false

/-- A map's element reads as itself. -/
def hR (v : Value) : Option (DataW Value × List MemPlace) := some (.held v, [])
/-- What a map tells of each key. -/
def MapFn (D : DataW Value) (M : Int → Value) : Prop := ∀ t, D.atKey (.int .i64 t) (.held nilV) = .held (M t)

theorem isKey (t : Int) : WideAt.IsKeyLit (.int .i64 t) := by first | trivial | exact True.intro | simp [WideAt.IsKeyLit] | decide

theorem MapFn.put {D : DataW Value} {M : Int → Value} (h : MapFn D M) (hD : IsMap D) (t : Int) (v : Value) : MapFn (D.put (.int .i64 t) (.held v)) (fun t' => if t' = t then v else M t') := by
  intro t'
  dsimp only
  by_cases e : t' = t
  · subst e; rw [if_pos rfl]; exact atKey_put_same hD (isKey _) _ _
  · rw [if_neg e, atKey_put_other (by intro h; injection h with _ h; exact e h)]; exact h t'
theorem MapFn.del {D : DataW Value} {M : Int → Value} (h : MapFn D M) (t : Int) : MapFn (D.del (.int .i64 t)) (fun t' => if t' = t then nilV else M t') := by
  intro t'
  dsimp only
  by_cases e : t' = t
  · subst e; rw [if_pos rfl]; exact atKey_del_same _
  · rw [if_neg e, atKey_del_other (by intro h; injection h with _ h; exact e h)]; exact h t'

theorem ne_map {w : World} {B : Nat} {e : TypeId} {s n : Nat} {v : Value} {xs : List Value} {b m : Nat} {D : DataW Value} (h : w.ownsRow B e s v n xs) (hm : w.ownsMap Try.prog 3 hR b m D) : some b ≠ v.ownBlock := by
  intro hb
  obtain ⟨_, ⟨rfl, _⟩ | ⟨g, cap, cur, rfl, _, hg, _⟩⟩ := h
  · cases hb
  · obtain ⟨es, cl, he, _⟩ := hm
    injection hb with hb
    subst hb
    rw [he] at hg
    cases hg

theorem zero37 (w : World) : (zeroValue 37).run Try.prog w = .ok nilV w := by kernel_rfl
theorem keyed3 : Keyed Try.prog 3 := int_keyed Try.underlying3

theorem look_eq {w : World} {b m : Nat} {D : DataW Value} {M : Int → Value} (hm : w.ownsMap Try.prog 3 hR b m D) (hf : MapFn D M) (t : Int) (ht : (Lit.int .i64 t).wf = true) :
    (Instr.lookup 53 (.map (some b)) (.int .i64 t) false).run Try.prog w = .ok (M t) w := by
  obtain ⟨v, ps, hr, hv⟩ := hm.lookup keyed3 Try.underlying53 (zero37 w) (zd := .held nilV) (zp := []) rfl (keyOf_int_mk Try.underlying3 ht)
  rw [hf t] at hv
  injection hv with hv
  injection hv with hv _
  injection hv with hv
  subst hv
  exact hr

theorem step_mapUpdate_own {w : World} {ops : Array Oper} {o : Oper} {a : Act} {K : Act → World → Prop} {Q : Exit → Act → World → Prop} {E : Prop} (hgd : o.guard = none) (m x v : Operand) (t : TypeId) (hop : o.op = Op.mapUpdate t m x v)
    (k e : TypeId) (Kd : Keyed Try.prog k) (ht : Try.prog.underlying t = some (.map k e)) (b n : Nat) (D : DataW Value)
    (hm : a.eval m = .map (some b)) (hown : w.ownsMap Try.prog k hR b n D) (hn : n < maxLen) (key val : Value) (kl : Lit) (hx : a.eval x = key) (hv : a.eval v = val) (hkey : keyOf Try.prog k key = some kl)
    (h : ∀ w', w'.ownsMap Try.prog k hR b (n + 1) (D.put kl (.held val)) → w.grownBy w' (some b) → K (a.put o.dst undef) w') :
    if Region.wanted o (yielded ops a.tmps) = true then Oper.wp Try.prog o a w K Q else E := by
  have hw : Region.wanted o (yielded ops a.tmps) = true := by simp [Region.wanted, hgd]
  rw [if_pos hw]
  obtain ⟨w', hrun, r1, r2⟩ := hown.update Kd ht hn hkey (d := .held val) (ps := []) rfl
  unfold Oper.wp
  simp [execOp, hop, hm, hx, hv, hrun, Result.andThen]
  exact h w' r1 r2

/-- The calls of the first notes. -/
def callsN (nt : Nat → Nt) : Nat → List Cal
  | 0 => []
  | k + 1 => stepL k (nt k) (callsN nt k)

theorem stepC_pts (k : Nat) (n : Nt) (c : Cal) : (stepC k n c).pts.length ≤ c.pts.length + 1 := by
  unfold stepC
  split
  · split <;> simp
  · omega
theorem callsN_len (nt : Nat → Nt) (k : Nat) : (callsN nt k).length ≤ k := by
  induction k with
  | zero => simp [callsN]
  | succ k ih => unfold callsN stepL; split <;> simp <;> omega
theorem callsN_pts (nt : Nat → Nt) (k : Nat) : ∀ c ∈ callsN nt k, c.pts.length ≤ k := by
  induction k with
  | zero => simp [callsN]
  | succ k ih =>
    unfold callsN stepL
    split
    · intro c hc
      rcases List.mem_append.1 hc with hc | hc
      · have := ih c hc; omega
      · simp at hc; subst hc; simp
    · intro c hc
      obtain ⟨c', hc', rfl⟩ := List.mem_map.1 hc
      have := ih c' hc'
      have := stepC_pts k (nt k) c'
      omega
theorem getD_pts {L : List Cal} {k : Nat} (h : ∀ c ∈ L, c.pts.length ≤ k) (i : Nat) : (L.getD i Cal.zero).pts.length ≤ k := by
  by_cases e : i < L.length
  · exact h _ (by simp [List.getD_eq_getElem?_getD, e])
  · simp [List.getD_eq_getElem?_getD, e, Cal.zero]

/-- A row's value. -/
theorem own_form {w : World} {B : Nat} {e : TypeId} {s n : Nat} {v : Value} {xs : List Value} (h : w.ownsRow B e s v n xs) : ∃ oo cap, v = .slice oo n cap ∧ (∀ a, oo = some a → a = ⟨a.block, 0, none⟩) ∧ (0 < n → ∃ g, oo = some ⟨g, 0, none⟩) := by
  obtain ⟨_, ⟨rfl, rfl⟩ | ⟨g, cap, cur, rfl, _⟩⟩ := h
  · exact ⟨none, 0, rfl, (fun a h => by cases h), fun h => by omega⟩
  · exact ⟨some ⟨g, 0, none⟩, cap, rfl, (fun a h => by cases h; rfl), fun _ => ⟨g, rfl⟩⟩

theorem info52 : (Try.prog.info? 52).map (fun i => (i.zero, i.size, i.bytes)) = some (some (.agg #[.int .i64 0, .int .i64 0, .int .i64 0, .int .i64 0, .int .i64 0, .slice none 0 0]), 6, 64) := by kernel_rfl
theorem info3 : (Try.prog.info? 3).map (fun i => (i.zero, i.size, i.bytes)) = some (some (.int .i64 0), 1, 8) := by kernel_rfl

theorem add_block (a : Addr) (n : Nat) : (a.add n).block = a.block := by
  unfold Addr.add
  split <;> rfl

theorem boxcell (w : World) (cs : Array Value) (t : TypeId) (i : Nat) : (w.alloc (.cells cs t)).cell? ⟨w.heap.size, i, none⟩ = cs[i]? := World.cell?_alloc_at _ _ _ _ rfl

theorem boxcell2 (w : World) (cs : Array Value) (t : TypeId) (o : Obj) (i : Nat) : ((w.alloc (.cells cs t)).alloc o).drew.cell? ⟨w.heap.size, i, none⟩ = cs[i]? :=
  (World.cell?_alloc_lt (w.alloc (.cells cs t)) o ⟨w.heap.size, i, none⟩ (by simp)).trans (boxcell w cs t i)

theorem litblock (w : World) (X Y : Obj) : ((w.alloc X).alloc Y).drew.heap[w.heap.size + 1]? = some Y := by
  have h := heap_alloc_new (w.alloc X) Y
  rw [World.size_alloc] at h
  exact h

theorem RInv.grown_map {w w' : World} {B b m : Nat} {v : Ky → Value} {L : List Cal} {O : Int → List Nat} {D : DataW Value} (h : RInv w B v L O) (hm : w.ownsMap Try.prog 3 hR b m D) (hg : w.grownBy w' (some b)) : RInv w' B v L O :=
  h.grown hg fun k => .inr (Ne.symm (ne_map (h.rows.own k) hm))

theorem notin_take {l : List Nat} (hd : l.Nodup) {q i : Nat} (hq : q < l.length) (hi : l.getD q 0 = i) : i ∉ l.take q := by
  intro h
  obtain ⟨j, hj, e⟩ := List.mem_iff_getElem.1 h
  rw [List.length_take] at hj
  rw [List.getElem_take] at e
  have hi' : l[q] = i := by rw [List.getD_eq_getElem?_getD, List.getElem?_eq_getElem hq] at hi; simpa using hi
  exact (List.pairwise_iff_getElem.1 hd j q (by omega) hq (by omega)) (e.trans hi'.symm)
theorem take_snocN (l : List Nat) {q i : Nat} (hq : q < l.length) (hi : l.getD q 0 = i) : l.take (q + 1) = l.take q ++ [i] := by
  rw [List.take_succ_eq_append_getElem hq]
  rw [List.getD_eq_getElem?_getD, List.getElem?_eq_getElem hq] at hi
  simp at hi
  rw [hi]

/-- The notes of a slice, in memory. -/
def NotesAt (w : World) (oa : Option Addr) (N : Nat) (nt : Nat → Nt) : Prop :=
  ∀ i, i < N → ∃ a, oa = some a ∧ w.cell? (a.add (i * 4)) = some (.int .i64 (nt i).task) ∧ w.cell? { block := (a.add (i * 4)).block, off := (a.add (i * 4)).off + 1 } = some (.int .i64 (nt i).what) ∧
    w.cell? { block := (a.add (i * 4)).block, off := (a.add (i * 4)).off + 2 } = some (.int .i64 (nt i).op) ∧ w.cell? { block := (a.add (i * 4)).block, off := (a.add (i * 4)).off + 3 } = some (.int .i64 (nt i).arg) ∧ (Lit.int .i64 (nt i).task).wf = true

set_option maxRecDepth 100000 in
set_option maxHeartbeats 4000000 in
theorem calls_any (oa : Option Addr) (N cap : Nat) (nt : Nat → Nt) (w : World) (hN : N ≤ 200) (hnt : NotesAt w oa N nt) :
    Calls Try.prog 11 #[.slice oa N cap] w fun e w' => ∃ v, e = .returned v ∧ CalsAt w' v (callsN nt N) ∧ Below w.heap.size w w' := by
  have HNT := Lib.hid hnt; clear hnt
  have hmm := @run_makeMap Try.prog
  go_enter Try.func11, Try.ntmps11
  go_wp2
  go_loopw [3, 14] (fun x i wr => ∃ (k : Nat) (v : Ky → Value) (D : DataW Value), k ≤ N ∧ i = .int .i64 k ∧ x = v .out ∧ Hid (RInv wr w.heap.size v (callsN nt k) (openOf (callsN nt k))) ∧
      Hid (wr.ownsMap Try.prog 3 hR w.heap.size k D) ∧ Hid (MapFn D fun t => v (.opn t)) ∧ Hid (Below w.heap.size w wr)) (fun _ i _ => N - (Go.RowKit.intOf i).toNat)
  case atStart =>
    refine ⟨0, fun _ => nilV, .map [], Nat.zero_le _, rfl, rfl, ?_, World.ownsMap_made _ _ _ _, ?_, (Below.refl _ _).alloc (Nat.le_refl _) _⟩
    · refine ⟨⟨fun q => ?_, fun _ _ _ => .inl rfl⟩, fun _ _ => rfl⟩
      cases q with
      | out => exact World.ownsRow_nil _ _ _ _
      | pts j => exact World.ownsRow_nil _ _ _ _
      | opn t => exact World.ownsRow_nil _ _ _ _
    · intro t; rfl
  case round =>
    obtain ⟨k, v, D, hk, rfl, rfl, HI, HM, HF, HB⟩ := hrel
    have hlen := callsN_len nt k
    have hBs := HB.out.size
    obtain ⟨oo, oc, hvo, hoo, hoo'⟩ := own_form (HI.out.rows.own .out)
    have hvo' : v .out = .slice oo (callsN nt k).length oc := hvo
    by_cases hlt : k < N
    · obtain ⟨a, rfl, c0, c1, c2, c3, hwf⟩ := HNT.out k hlt
      have ha : a.block < w.heap.size := by
        have := World.block_lt_of_cell? w _ c0
        rwa [add_block] at this
      have hcl : ∀ p : Addr, p.block < w.heap.size → wr.cell? p = w.cell? p := fun p hp => HB.out.cell hp
      rw [← hcl _ (by rw [add_block]; exact ha)] at c0
      rw [← hcl _ (by show (a.add (k * 4)).block < _; rw [add_block]; exact ha)] at c1 c2 c3
      clear hcl
      generalize hnk : nt k = n at *
      have HNK := Lib.hid hnk; clear hnk
      by_cases hw1 : n.what = 1
      · rw [hw1] at c1
        rw [hvo']
        have hlk := look_eq HM.out HF.out n.task hwf
        have hlt1 : w.heap.size < wr.heap.size := HM.out.lt
        have hnm := ne_map (HI.out.rows.own (.opn n.task)) HM.out
        obtain ⟨i0, hi0, hz0, hz1, hz2⟩ := info_parts info3
        have hol := openOf_len (callsN nt k) n.task
        go_wp2_with fail
        have hlk1 := look_eq (HM.out.alloc (.cells #[.int .i64 n.task, .int .i64 1, .int .i64 n.op, .int .i64 n.arg] 30)).drew HF.out n.task hwf
        have hlk2 := look_eq ((HM.out.alloc (.cells #[.int .i64 n.task, .int .i64 1, .int .i64 n.op, .int .i64 n.arg] 30)).alloc (.cells #[.int .i64 ((callsN nt k).length : Int)] 3)).drew HF.out n.task hwf
        have hno := ((HI.out.rows.own (.opn n.task)).lt)
        have hfar : some wr.heap.size ≠ (v (.opn n.task)).ownBlock := fun e => by have := (hno _ e.symm).2; omega
        have hne : wr.heap.size ≠ w.heap.size := by omega
        clear hno hlk
        go_region_held3 (fun w' => w'.cell? ⟨wr.heap.size, 0, none⟩ = some (.int .i64 n.task))
          (first
            | exact boxcell _ _ _ _
            | exact boxcell2 _ _ _ _ _
            | exact (hgrow.cell_far ⟨wr.heap.size, 0, none⟩ (by simp; omega) hfar).trans (boxcell2 _ _ _ _ _)
            | exact (hgrow2.cell_far ⟨wr.heap.size, 0, none⟩ (Nat.lt_of_lt_of_le (by simp; omega) hgrow.size) (by intro e; injection e with e; exact hne e)).trans ((hgrow.cell_far ⟨wr.heap.size, 0, none⟩ (by simp; omega) hfar).trans (boxcell2 _ _ _ _ _)))
          ((refine step_append_lies _ (by rfl) _ _ _ (by rfl) w.heap.size 3 i0 _ 1 8 Try.underlying37 hi0 hz0 hz1 hz2 rfl (by omega) (v (.opn n.task)) (openOf (callsN nt k) n.task).length (natsV (openOf (callsN nt k) n.task)) (by rfl)
                (((HI.out.rows.own (.opn n.task)).alloc (.cells #[.int .i64 n.task, .int .i64 1, .int .i64 n.op, .int .i64 n.arg] 30)).alloc (.cells #[.int .i64 ((callsN nt k).length : Int)] 3)).drew ⟨wr.heap.size + 1, 0, none⟩ 1 1 [.int .i64 ((callsN nt k).length : Int)] (by rfl) (by rfl)
                (World.news_of_block (cs := #[.int .i64 ((callsN nt k).length : Int)]) (t := 3) (fr := (0, 0)) (litblock wr (.cells #[.int .i64 n.task, .int .i64 1, .int .i64 n.op, .int .i64 n.arg] 30) (.cells #[.int .i64 ((callsN nt k).length : Int)] 3))) (by simp [Value.oneCell']) (by omega) (by unfold maxLen; omega) (by omega) (by simp; omega) (wr.heap.size + 1 + 1) (by simp) ?_; intro g cp w1 hown1 hgrow hat hlt1; obtain ⟨w2, hup, hown2, hgrow2⟩ := (((HM.out.alloc (.cells #[.int .i64 n.task, .int .i64 1, .int .i64 n.op, .int .i64 n.arg] 30)).alloc (.cells #[.int .i64 ((callsN nt k).length : Int)] 3)).drew.kept hgrow hnm).update keyed3 Try.underlying53 (by unfold maxLen; omega) (keyOf_int_mk Try.underlying3 hwf) (val := .slice (some ⟨g, 0, none⟩) ((openOf (callsN nt k) n.task).length + 1) cp) (d := .held (.slice (some ⟨g, 0, none⟩) ((openOf (callsN nt k) n.task).length + 1) cp)) (ps := []) rfl))
        all_goals
          have hb0 : ∀ o u, #[Value.int .i64 n.task, .int .i64 1, .int .i64 n.op, .int .i64 n.arg][o]? = some u → w2.cell? ⟨wr.heap.size, o, none⟩ = some u := fun o u hu =>
            (((hgrow2.cell_far ⟨wr.heap.size, o, none⟩ (Nat.lt_of_lt_of_le (by simp; omega) hgrow.size) (by intro e; injection e with e; exact hne e)).trans ((hgrow.cell_far ⟨wr.heap.size, o, none⟩ (by simp; omega) hfar).trans (boxcell2 _ _ _ _ _)))).trans hu
          have hb00 := hb0 0 _ rfl
          have hb02 := hb0 2 _ rfl
          clear hb0
          have HM1 := ((HM.out.alloc (.cells #[.int .i64 n.task, .int .i64 1, .int .i64 n.op, .int .i64 n.arg] 30)).alloc (.cells #[.int .i64 ((callsN nt k).length : Int)] 3)).drew.kept hgrow hnm
          have HI1 := RInv.open (((HI.out.alloc (.cells #[.int .i64 n.task, .int .i64 1, .int .i64 n.op, .int .i64 n.arg] 30)).alloc (.cells #[.int .i64 ((callsN nt k).length : Int)] 3)).drewN 1) n.task (callsN nt k).length hgrow hown1 (by rcases hat with h | h; exact .inl (by rw [h]; rfl); exact .inr ⟨g, rfl, by rw [h]; simp⟩)
          have HI2 := Lib.hid (HI1.grown_map HM1 hgrow2)
          clear HM1 HI1
          have HM2 := Lib.hid hown2; clear hown2
          have hs1 := hgrow.size
          have hs2 := hgrow2.size
          have HX := Lib.hid hgrow; clear hgrow
          have HX2 := Lib.hid hgrow2; clear hgrow2
          have HO1 := Lib.hid hown1; clear hown1
          clear hup hlk1 hlk2
          obtain ⟨v1, hv1o, hv1t, HI3⟩ : ∃ v1 : Ky → Value, v1 .out = .slice oo (callsN nt k).length oc ∧ (∀ t', v1 (.opn t') = if t' = n.task then .slice (some ⟨g, 0, none⟩) ((openOf (callsN nt k) n.task).length + 1) cp else v (.opn t')) ∧
              Hid (RInv w2 w.heap.size v1 (callsN nt k) (updO (openOf (callsN nt k)) n.task (openOf (callsN nt k) n.task ++ [(callsN nt k).length]))) :=
            ⟨_, (upd_other _ _ (by intro e; cases e)).trans hvo', fun t' => by unfold upd; simp, HI2⟩
          clear HI2
          have HT := Lib.hid hv1t; clear hv1t
          have hown3 := HI3.out.rows.own .out
          rw [hv1o] at hown3
          have HO3 := Lib.hid hown3; clear hown3
          obtain ⟨i5, hi5, hy0, hy1, hy2⟩ := info_parts info52
          have hbase : w.heap.size ≤ w2.heap.size + 1 := by simp at hs1; omega
          have hll : (callsN nt k).length ≤ 200 := by omega
          go_wp2_with (first
            | (at_builtin; refine wpList_append_lies _ (by rfl) _ _ _ (by rfl) w.heap.size 52 i5 _ 6 64 Try.underlying34 hi5 hy0 hy1 hy2 rfl (by omega) (.slice oo (callsN nt k).length oc) (callsN nt k).length (outCells (callsN nt k) fun j => v1 (.pts j)) (by rfl)
                (HO3.out.alloc _) ⟨w2.heap.size, 0, none⟩ 1 1 (calCells ⟨n.task, n.op, k, -1, 0, []⟩ nilV) (by rfl) (by rfl)
                (World.news_of_block (cs := (calCells ⟨n.task, n.op, k, -1, 0, []⟩ nilV).toArray) (t := 52) (fr := (0, 0)) (heap_alloc_new w2 _)) (by simp [Value.oneCell', calCells, nilV]) (by omega) (by unfold maxLen; omega) (by omega) (by simp; omega) (w2.heap.size + 1) (by simp) ?_; intro g3 cp3 w3 hown4 hgrow3 hat3 hlt3)
            | go_in)
          all_goals
            have hcn : callsN nt (k + 1) = callsN nt k ++ [⟨n.task, n.op, k, -1, 0, []⟩] := by
              show stepL k (nt k) (callsN nt k) = _
              rw [HNK.out]; unfold stepL; rw [if_pos hw1]
            have hop : openOf (callsN nt (k + 1)) = updO (openOf (callsN nt k)) n.task (openOf (callsN nt k) n.task ++ [(callsN nt k).length]) := by
              funext t
              rw [hcn, openOf_snoc]
              unfold updO
              by_cases e : t = n.task
              · subst e; simp
              · have e' : ¬ (n.task = t) := fun h => e h.symm
                simp [e, e']
            have hI5 := (HI3.out.alloc (.cells (calCells ⟨n.task, n.op, k, -1, 0, []⟩ nilV).toArray 52)).add ⟨n.task, n.op, k, -1, 0, []⟩ rfl (w' := w3) (v' := .slice (some ⟨g3, 0, none⟩) ((callsN nt k).length + 1) cp3) (by rw [hv1o]; exact hgrow3) hown4 (by rw [hv1o]; rcases hat3 with h | h; exact .inl (by rw [h]; rfl); exact .inr ⟨g3, rfl, by rw [h]; simp⟩)
            refine ⟨⟨k + 1, upd v1 .out (.slice (some ⟨g3, 0, none⟩) ((callsN nt k).length + 1) cp3), _, by omega, by go_num, (upd_same _ _ _).symm, ?_, (HM2.out.alloc _).kept hgrow3 (ne_map HO3.out HM2.out), ?_, ?_⟩, by simp [Go.RowKit.intOf]; omega⟩
            · rw [hcn, ← hcn, hop, hcn]
              exact hI5
            · have hf2 := HF.out.put HM.out.isMap n.task (.slice (some ⟨g, 0, none⟩) ((openOf (callsN nt k) n.task).length + 1) cp)
              have e : (fun t => upd v1 .out (.slice (some ⟨g3, 0, none⟩) ((callsN nt k).length + 1) cp3) (.opn t)) = fun t' => if t' = n.task then .slice (some ⟨g, 0, none⟩) ((openOf (callsN nt k) n.task).length + 1) cp else v (.opn t') := by
                funext t'
                rw [upd_other _ _ (by intro e; cases e)]
                exact HT.out t'
              rw [e]
              exact hf2
            · have b1 : Below w.heap.size w (((wr.alloc (.cells #[.int .i64 n.task, .int .i64 1, .int .i64 n.op, .int .i64 n.arg] 30)).alloc (.cells #[.int .i64 ((callsN nt k).length : Int)] 3)).drew) := (HB.out.alloc hBs _).alloc (by simp; omega) _ |>.drew
              have b2 := b1.grown HX.out b1.size (fun j hj => ((HI.out.rows.own (.opn n.task)).lt j hj).1)
              have b3 := b2.grown HX2.out b2.size (fun j hj => by cases hj; exact Nat.le_refl _)
              have b4 := b3.alloc b3.size (.cells (calCells ⟨n.task, n.op, k, -1, 0, []⟩ nilV).toArray 52)
              exact b4.grown hgrow3 b4.size (fun j hj => (HO3.out.lt j hj).1)
      · obtain ⟨po, pc, hpv, hpc⟩ := own_nats (HI.out.rows.own (.opn n.task))
        have hol := openOf_len (callsN nt k) n.task
        have hll : (callsN nt k).length ≤ 200 := by omega
        clear hpc
        rw [hvo']
        by_cases hw2 : n.what = 11
        · rw [hw2] at c1
          have hX : ∀ o u, #[Value.int .i64 n.task, .int .i64 11, .int .i64 n.op, .int .i64 n.arg][o]? = some u → (wr.alloc (.cells #[.int .i64 n.task, .int .i64 11, .int .i64 n.op, .int .i64 n.arg] 30)).cell? ⟨wr.heap.size, o, none⟩ = some u := fun o u hu => (boxcell _ _ _ _).trans hu
          have hlk := look_eq (HM.out.alloc (.cells #[.int .i64 n.task, .int .i64 11, .int .i64 n.op, .int .i64 n.arg] 30)) HF.out n.task hwf
          rw [hpv] at hlk
          have HX := Lib.hid hX; clear hX
          go_wp2_with fail
          clear hlk
          obtain ⟨wo, rfl⟩ : ∃ x, x = wr := ⟨wr, rfl⟩
          go_loopw [72] (fun i wr => ∃ q : Nat, q ≤ (openOf (callsN nt k) n.task).length ∧ i = .int .i64 q ∧ Hid (RInv wr w.heap.size v (setAll k n ((openOf (callsN nt k) n.task).take q) (callsN nt k)) (openOf (callsN nt k))) ∧
              Hid (wr.ownsMap Try.prog 3 hR w.heap.size k D) ∧ Hid (∀ o u, #[Value.int .i64 n.task, .int .i64 11, .int .i64 n.op, .int .i64 n.arg][o]? = some u → wr.cell? ⟨wo.heap.size, o, none⟩ = some u) ∧ Hid (Below w.heap.size w wr)) (fun i _ => (openOf (callsN nt k) n.task).length - (Go.RowKit.intOf i).toNat)
          case atStart => exact ⟨0, Nat.zero_le _, rfl, HI.out.alloc _, HM.out.alloc _, HX.out, HB.out.alloc hBs _⟩
          case round =>
            obtain ⟨q, hq, rfl, HIq, HMq, HXq, HBq⟩ := hrel
            by_cases hqlt : q < (openOf (callsN nt k) n.task).length
            · obtain ⟨i, hii, himem⟩ : ∃ i, (openOf (callsN nt k) n.task).getD q 0 = i ∧ i ∈ openOf (callsN nt k) n.task := ⟨_, rfl, by rw [List.getD_eq_getElem?_getD, List.getElem?_eq_getElem hqlt]; simp⟩
              obtain ⟨hil, hitask, hito⟩ := openOf_is.1 himem
              obtain ⟨go, rfl⟩ := hoo' (by show 0 < (callsN nt k).length; omega)
              have hgo := ((HI.out.rows.own .out).lt go (by rw [hvo']; rfl)).2
              obtain ⟨po', pc', e, hc⟩ := own_nats (HIq.out.rows.own (.opn n.task))
              rw [hpv] at e
              injection e with e1 e2 e3
              subst e1; subst e3; clear e2
              obtain ⟨gp, rfl, cq⟩ := hc q hqlt
              rw [hii] at cq
              clear hc
              have hLq := setAll_len k n ((openOf (callsN nt k) n.task).take q) (callsN nt k)
              have hrow := HIq.out.rows.own .out
              rw [hvo'] at hrow
              have hrow' : wr.ownsRow w.heap.size 52 6 (.slice (some ⟨go, 0, none⟩) (callsN nt k).length oc) (callsN nt k).length (outCells (setAll k n ((openOf (callsN nt k) n.task).take q) (callsN nt k)) fun j => v (.pts j)) := by
                have := hrow
                simp only [nOf, hLq] at this
                exact this
              have d3 := hrow'.cellAt (i * 6 + 3) (by omega)
              have d4 := hrow'.cellAt (i * 6 + 4) (by omega)
              rw [outCells_at _ _ i _ (by omega) (by omega)] at d3 d4
              have d3' : wr.cell? ⟨go, i * 6 + 3, none⟩ = some (.int .i64 ((setAll k n ((openOf (callsN nt k) n.task).take q) (callsN nt k)).getD i Cal.zero).to) := d3
              have d4' : wr.cell? ⟨go, i * 6 + 4, none⟩ = some (.int .i64 ((setAll k n ((openOf (callsN nt k) n.task).take q) (callsN nt k)).getD i Cal.zero).ret) := d4
              have hfro := hrow'.frozenAt
              clear hrow hrow' d3 d4
              have hx3 := HXq.out 3 _ rfl
              have hgne : go ≠ wo.heap.size := by omega
              have hgne' : wo.heap.size ≠ go := by omega
              have HII := Lib.hid hii; clear hii
              generalize ((setAll k n ((openOf (callsN nt k) n.task).take q) (callsN nt k)).getD i Cal.zero).to = z3 at d3'
              generalize ((setAll k n ((openOf (callsN nt k) n.task).take q) (callsN nt k)).getD i Cal.zero).ret = z4 at d4'
              have HH := Lib.hid (And.intro himem (And.intro hitask (And.intro hito (And.intro hLq hpv))))
              have hol2 : (openOf (callsN nt k) n.task).length ≤ 200 := by omega
              have hgob : w.heap.size ≤ go := ((HI.out.rows.own .out).lt go (by rw [hvo']; rfl)).1
              have hmgo : w.heap.size ≠ go := fun e => ne_map (HI.out.rows.own .out) HM.out (by rw [hvo', e]; rfl)
              clear hol hlen hitask hito hLq hwf himem hBs hpv
              go_wp2_with fail
              go_region
              obtain ⟨himem, hitask, hito, hLq, hpv⟩ := HH.out
              have hcur : (setAll k n ((openOf (callsN nt k) n.task).take q) (callsN nt k)).getD i Cal.zero = (callsN nt k).getD i Cal.zero := by
                rw [setAll_at k n _ _ ((openOf_nodup _ _).sublist (List.take_sublist _ _)) i hil, if_neg (notin_take (openOf_nodup _ _) hqlt HII.out)]
              have hst : setAll k n ((openOf (callsN nt k) n.task).take (q + 1)) (callsN nt k) = (setAll k n ((openOf (callsN nt k) n.task).take q) (callsN nt k)).set i { (callsN nt k).getD i Cal.zero with to := k, ret := n.arg } := by
                rw [take_snocN _ hqlt HII.out, setAll_snoc, hcur]
                congr 1
                unfold stepC
                rw [if_pos ⟨hitask, by omega, hito⟩, if_pos hw2]
              have r1 := HIq.out.cell (by rw [hvo', hLq]) i 3 (.int .i64 (k : Int)) { (callsN nt k).getD i Cal.zero with to := k } (by omega) (by omega) (by rw [hcur]; rfl) (by rw [hcur])
              have r2 := r1.cell (by rw [hvo', List.length_set, hLq]) i 4 (.int .i64 n.arg) { (callsN nt k).getD i Cal.zero with to := k, ret := n.arg } (by rw [List.length_set]; omega) (by omega) (by rw [getD_set_same (by omega)]; rfl) (by rw [getD_set_same (by omega)])
              rw [List.set_set, ← hst] at r2
              have R2 := Lib.hid r2; clear r1 r2
              clear hcur hst himem hitask hito hLq hpv
              go_wp2_with fail
              go_roundw
              case rel => exact ⟨q + 1, by omega, by go_num, R2.out.drewN 1, (HMq.out.setCell (a := ⟨go, i * 6 + 3, none⟩) hmgo _).setCell (a := ⟨go, i * 6 + 4, none⟩) hmgo _, fun o u hu => by have := HXq.out o u hu; simpa [World.cell?_setCell_far, hgne', hgne] using this, ((HBq.out.setCell (p := ⟨go, i * 6 + 3, none⟩) hgob _).setCell (p := ⟨go, i * 6 + 4, none⟩) hgob _).drew⟩
              case measure => simp [Go.RowKit.intOf]; omega
            · have hqe : q = (openOf (callsN nt k) n.task).length := by omega
              subst hqe
              have hx0 := HXq.out 0 _ rfl
              go_wp2_with (first
                | (at_delete; refine wpList_delete_own _ (by rfl) _ _ 53 3 (by rfl) 37 keyed3 Try.underlying53 hR w.heap.size k D (by rfl) HMq.out _ _ (by rfl) (keyOf_int_mk Try.underlying3 hwf) ?_; intro w4 hown4 hturn4)
                | go_in)
              have hcn : callsN nt (k + 1) = (callsN nt k).map (stepC k n) := by
                show stepL k (nt k) (callsN nt k) = _
                rw [HNK.out]; unfold stepL; rw [if_neg hw1]
              have hop : openOf (callsN nt (k + 1)) = updO (openOf (callsN nt k)) n.task [] := by
                funext t
                rw [hcn, openOf_ret hw2]
                rfl
              have hI4 := HIq.out
              rw [List.take_length, setAll_open k n _ hw1, ← hcn] at hI4
              have hI5 := (hI4.grown_map HMq.out hturn4.grown).close n.task
              rw [← hop] at hI5
              refine ⟨⟨k + 1, upd v (.opn n.task) nilV, _, by omega, by go_num, ?_, hI5, hown4.mono (by omega), ?_, HBq.out.grown hturn4.grown HBq.out.size (fun j hj => by cases hj; exact Nat.le_refl _)⟩, by simp [Go.RowKit.intOf]; omega⟩
              · rw [upd_other _ _ (by intro e; cases e), hvo']
              · have hf2 := HF.out.del n.task
                have e : (fun t => upd v (.opn n.task) nilV (.opn t)) = fun t' => if t' = n.task then nilV else v (.opn t') := by
                  funext t'
                  unfold upd
                  simp
                rw [e]
                exact hf2
        · have hw1' : (n.what == 1) = false := by simpa using hw1
          have hw2' : (n.what == 11) = false := by simpa using hw2
          have hX : ∀ o u, #[Value.int .i64 n.task, .int .i64 n.what, .int .i64 n.op, .int .i64 n.arg][o]? = some u → (wr.alloc (.cells #[.int .i64 n.task, .int .i64 n.what, .int .i64 n.op, .int .i64 n.arg] 30)).cell? ⟨wr.heap.size, o, none⟩ = some u := fun o u hu => (boxcell _ _ _ _).trans hu
          have hlk := look_eq (HM.out.alloc (.cells #[.int .i64 n.task, .int .i64 n.what, .int .i64 n.op, .int .i64 n.arg] 30)) HF.out n.task hwf
          rw [hpv] at hlk
          have HX := Lib.hid hX; clear hX
          go_wp2_with fail
          clear hlk
          obtain ⟨wo, rfl⟩ : ∃ x, x = wr := ⟨wr, rfl⟩
          go_loopw [26] (fun i wr => ∃ (q : Nat) (v' : Ky → Value), q ≤ (openOf (callsN nt k) n.task).length ∧ i = .int .i64 q ∧ v' .out = v .out ∧ Hid (∀ t, v' (.opn t) = v (.opn t)) ∧ Hid (RInv wr w.heap.size v' (setAll k n ((openOf (callsN nt k) n.task).take q) (callsN nt k)) (openOf (callsN nt k))) ∧
              Hid (wr.ownsMap Try.prog 3 hR w.heap.size k D) ∧ Hid (Below w.heap.size w wr)) (fun i _ => (openOf (callsN nt k) n.task).length - (Go.RowKit.intOf i).toNat)
          case atStart => exact ⟨0, v, Nat.zero_le _, rfl, rfl, fun _ => rfl, HI.out.alloc _, HM.out.alloc _, HB.out.alloc hBs _⟩
          case round =>
            obtain ⟨q, v', hq, rfl, hv'o, HVT, HIq, HMq, HBq⟩ := hrel
            by_cases hqlt : q < (openOf (callsN nt k) n.task).length
            · obtain ⟨i, hii, himem⟩ : ∃ i, (openOf (callsN nt k) n.task).getD q 0 = i ∧ i ∈ openOf (callsN nt k) n.task := ⟨_, rfl, by rw [List.getD_eq_getElem?_getD, List.getElem?_eq_getElem hqlt]; simp⟩
              obtain ⟨hil, hitask, hito⟩ := openOf_is.1 himem
              obtain ⟨go, rfl⟩ := hoo' (by show 0 < (callsN nt k).length; omega)
              have hgo := ((HI.out.rows.own .out).lt go (by rw [hvo']; rfl)).2
              obtain ⟨po', pc', e, hc⟩ := own_nats (HIq.out.rows.own (.opn n.task))
              rw [HVT.out n.task, hpv] at e
              injection e with e1 e2 e3
              subst e1; subst e3; clear e2
              obtain ⟨gp, rfl, cq⟩ := hc q hqlt
              rw [hii] at cq
              clear hc
              have hLq := setAll_len k n ((openOf (callsN nt k) n.task).take q) (callsN nt k)
              have hrow := HIq.out.rows.own .out
              rw [hv'o, hvo'] at hrow
              have hrow' : wr.ownsRow w.heap.size 52 6 (.slice (some ⟨go, 0, none⟩) (callsN nt k).length oc) (callsN nt k).length (outCells (setAll k n ((openOf (callsN nt k) n.task).take q) (callsN nt k)) fun j => v' (.pts j)) := by
                have := hrow
                simp only [nOf, hLq] at this
                exact this
              have d5 := hrow'.cellAt (i * 6 + 5) (by omega)
              rw [outCells_at _ _ i _ (by omega) (by omega)] at d5
              have hcur : (setAll k n ((openOf (callsN nt k) n.task).take q) (callsN nt k)).getD i Cal.zero = (callsN nt k).getD i Cal.zero := by
                rw [setAll_at k n _ _ ((openOf_nodup _ _).sublist (List.take_sublist _ _)) i hil, if_neg (notin_take (openOf_nodup _ _) hqlt hii)]
              have hpr : wr.ownsRow w.heap.size 3 1 (v' (.pts i)) ((callsN nt k).getD i Cal.zero).pts.length (intsV ((callsN nt k).getD i Cal.zero).pts) := by
                have := HIq.out.rows.own (.pts i)
                simp only [nOf, xsOf, hcur] at this
                exact this
              have hpl := getD_pts (callsN_pts nt k) i
              obtain ⟨qo, qc, hqv, _⟩ := own_form hpr
              have d5' : wr.cell? ⟨go, i * 6 + 5, none⟩ = some (.slice qo ((callsN nt k).getD i Cal.zero).pts.length qc) := by rw [← hqv]; exact d5
              have hfro := hrow'.frozenAt
              have hgb := (hrow'.lt go rfl)
              have HPR := Lib.hid hpr; clear hpr
              obtain ⟨i0, hi0, hz0, hz1, hz2⟩ := info_parts info3
              have hol2 : (openOf (callsN nt k) n.task).length ≤ 200 := by omega
              have HH := Lib.hid (And.intro himem (And.intro hitask (And.intro hito (And.intro hLq (And.intro hcur (And.intro hqv hii))))))
              have HPV := Lib.hid hpv
              clear hrow hrow' d5 hol hlen hitask hito hLq hwf himem hBs hpv hcur hqv hii
              generalize hpn : ((callsN nt k).getD i Cal.zero).pts.length = pn at *
              have HPQ : Hid (wr.ownsRow w.heap.size 3 1 (.slice qo pn qc) pn (intsV ((callsN nt k).getD i Cal.zero).pts)) := by
                have h := HPR.out
                rw [HH.out.2.2.2.2.2.1] at h
                exact h
              have hws : w.heap.size ≤ wr.heap.size := HBq.out.size
              have hgo5 : some go ≠ (v' (.pts i)).ownBlock := fun e => by
                rcases HIq.out.rows.apart (.pts i) .out (by intro h; cases h) with h | h
                · rw [h] at e; cases e
                · apply h; rw [← e, hv'o, hvo']; rfl
              have hgo6 : some go ≠ (Value.slice qo pn qc).ownBlock := by rw [HH.out.2.2.2.2.2.1] at hgo5; exact hgo5
              have hgbs : go < wr.heap.size := hgb.2
              have hcs0 : ∀ x : World, (wr.alloc (.cells #[.int .i64 (k : Int)] 3)).grownBy x (Value.slice qo pn qc).ownBlock → x.cell? ⟨go, i * 6 + 5, none⟩ = some (.slice qo pn qc) := fun x hg =>
                (hg.cell_far ⟨go, i * 6 + 5, none⟩ (by simp; omega) hgo6).trans ((World.cell?_alloc_lt wr _ ⟨go, i * 6 + 5, none⟩ hgbs).trans d5')
              have hfs0 : ∀ x : World, (wr.alloc (.cells #[.int .i64 (k : Int)] 3)).grownBy x (Value.slice qo pn qc).ownBlock → x.frozen? ⟨go, i * 6 + 5, none⟩ = false := fun x hg =>
                (hg.frozen_far ⟨go, i * 6 + 5, none⟩ (by simp; omega) hgo6).trans (((Below.refl wr.heap.size wr).alloc (Nat.le_refl _) (.cells #[.int .i64 (k : Int)] 3)).frozen (p := ⟨go, i * 6 + 5, none⟩) hgbs |>.trans (hfro _))
              go_wp2_with (first
                | (at_builtin; refine wpList_append_lies _ (by rfl) _ _ _ (by rfl) w.heap.size 3 i0 _ 1 8 Try.underlying37 hi0 hz0 hz1 hz2 rfl (by omega) (.slice qo pn qc) pn (intsV ((callsN nt k).getD i Cal.zero).pts) (by rfl)
                    (HPQ.out.alloc _) ⟨wr.heap.size, 0, none⟩ 1 1 [.int .i64 (k : Int)] (by rfl) (by rfl)
                    (World.news_of_block (cs := #[.int .i64 (k : Int)]) (t := 3) (fr := (0, 0)) (heap_alloc_new wr _)) (by simp [Value.oneCell']) (by omega) (by unfold maxLen; omega) (by omega) (by simp; omega) (wr.heap.size + 1) (by simp) ?_; intro g3 cp3 w3 hown4 hgrow3 hat3 hlt3; have hcs := hcs0 w3 hgrow3; have hfs := hfs0 w3 hgrow3)
                | go_in)
              obtain ⟨himem, hitask, hito, hLq, hcur, hqv, hii⟩ := HH.out
              have hst : setAll k n ((openOf (callsN nt k) n.task).take (q + 1)) (callsN nt k) = (setAll k n ((openOf (callsN nt k) n.task).take q) (callsN nt k)).set i { (callsN nt k).getD i Cal.zero with pts := ((callsN nt k).getD i Cal.zero).pts ++ [(k : Int)] } := by
                rw [take_snocN _ hqlt hii, setAll_snoc, hcur]
                congr 1
                unfold stepC
                rw [if_pos ⟨hitask, hw1, hito⟩, if_neg hw2]
              have r1 := (HIq.out.alloc (.cells #[.int .i64 (k : Int)] 3)).point (g := go) (cap := oc) (by rw [hv'o, hvo', hLq]) i k (by omega) (w' := w3) (v' := .slice (some ⟨g3, 0, none⟩) (pn + 1) cp3) (by rw [hqv]; exact hgrow3) (by rw [hcur, hpn]; exact hown4)
                (by rw [hqv]; rcases hat3 with h | h; exact .inl (by rw [h]; rfl); exact .inr ⟨g3, rfl, by rw [h]; simp⟩)
              rw [hcur, ← hst] at r1
              have hmgo : w.heap.size ≠ go := fun e => ne_map (HI.out.rows.own .out) HM.out (by rw [hvo', e]; rfl)
              have b1 := (HBq.out.alloc hws (.cells #[.int .i64 (k : Int)] 3))
              have b2 := b1.grown hgrow3 b1.size (fun j hj => (HPQ.out.lt j hj).1)
              refine ⟨⟨q + 1, upd v' (.pts i) (.slice (some ⟨g3, 0, none⟩) (pn + 1) cp3), by omega, by go_num, (upd_other _ _ (by intro e; cases e)).trans hv'o, fun t => (upd_other _ _ (by intro e; cases e)).trans (HVT.out t), r1, ((HMq.out.alloc _).kept hgrow3 (ne_map HPQ.out HMq.out)).setCell (a := ⟨go, i * 6 + 5, none⟩) hmgo _, b2.setCell (p := ⟨go, i * 6 + 5, none⟩) hgb.1 _⟩, by simp [Go.RowKit.intOf]; omega⟩
            · have hqe : q = (openOf (callsN nt k) n.task).length := by omega
              subst hqe
              have hcn : callsN nt (k + 1) = (callsN nt k).map (stepC k n) := by
                show stepL k (nt k) (callsN nt k) = _
                rw [HNK.out]; unfold stepL; rw [if_neg hw1]
              have hop : openOf (callsN nt (k + 1)) = openOf (callsN nt k) := by
                funext t
                rw [hcn, openOf_point hw2]
              have hI4 := HIq.out
              rw [List.take_length, setAll_open k n _ hw1, ← hcn, ← hop] at hI4
              have HI4 := Lib.hid hI4; clear hI4 hcn hop
              go_wp2_with fail
              go_roundw
              case rel =>
                refine ⟨k + 1, v', _, by omega, by go_num, by rw [hv'o, hvo'], HI4.out, HMq.out.mono (by omega), ?_, HBq.out⟩
                have e : (fun t => v' (.opn t)) = fun t => v (.opn t) := funext HVT.out
                rw [e]
                exact HF.out
              case measure => simp [Go.RowKit.intOf]; omega
    · obtain rfl : k = N := by omega
      go_wp2_with fail
      go_ret
      exact ⟨_, rfl, HI.out.cals, HB.out⟩

end Go.Proofs.Yteifhbkhjkmhfaa
