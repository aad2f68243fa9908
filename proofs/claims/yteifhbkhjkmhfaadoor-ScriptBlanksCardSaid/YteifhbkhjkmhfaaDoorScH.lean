/-
  The walk of a script's picks, by the program.
-/
import Derived.Test.YteifhbkhjkmhfaaDoorScG
import Derived.Maps.AppendAt
namespace Go.Proofs.YteifhbkhjkmhfaaDoor
open Go.RowKit Go.Shelf Go.Sort
attribute [local go_sem] Oper.semAt_some
set_option linter.unusedSimpArgs false
set_option linter.unusedVariables false

theorem info47 : (Tryd.prog.info? 47).map (fun i => (i.zero, i.size, i.bytes)) = some (some (.agg #[.int .i64 0, .int .i64 0]), 2, 16) := by kernel_rfl

/-- What the program's parse hands back. -/
def ParseEnd (w : World) (r : List Pk × Nat × Int) (e : Ending) (w' : World) : Prop := ∃ v, e = .returned (.tuple #[v, .int .i64 r.2.1, .int .i64 r.2.2]) ∧ w'.ownsRow w.heap.size 47 2 v r.1.length (pkCells r.1) ∧ Below w.heap.size w w'

theorem row_mono {W : World} {B B' e s n : Nat} {v : Value} {xs : List Value} (hB : B' ≤ B) (h : W.ownsRow B e s v n xs) : W.ownsRow B' e s v n xs := by
  obtain ⟨h1, h2⟩ := h
  refine ⟨h1, ?_⟩
  rcases h2 with h2 | ⟨g, cap, cur, hv, hb, rest⟩
  · exact .inl h2
  · exact .inr ⟨g, cap, cur, hv, by omega, rest⟩

/-- The lines that the program sees. -/
def seen (l : List UInt8) : List (List UInt8) := pcs 10 (Lib.trimSuffix l [10])

theorem alloc_at (w : World) (o : Obj) (k : Nat) (h : k = w.heap.size) : (w.alloc o).heap[k]? = some o := by subst h; exact World.alloc_heap_new w o
theorem two_new (w : World) (X Y : Obj) : ((w.alloc X).alloc Y).heap[w.heap.size + 1]? = some Y := alloc_at _ _ _ (by simp)
theorem eight (w : World) (o0 o1 o2 o3 o4 o5 o6 o7 : Obj) : ∃ W, W = ((((((((w.alloc o0).alloc o1).alloc o2).alloc o3).alloc o4).alloc o5).alloc o6).alloc o7) ∧ W.heap.size = w.heap.size + 8 ∧ Below w.heap.size w W ∧ W.heap[w.heap.size]? = some o0 ∧ W.heap[w.heap.size + 1]? = some o1 ∧
    W.heap[w.heap.size + 2]? = some o2 ∧ W.heap[w.heap.size + 3]? = some o3 ∧ W.heap[w.heap.size + 4]? = some o4 ∧ W.heap[w.heap.size + 5]? = some o5 ∧ W.heap[w.heap.size + 6]? = some o6 ∧ W.heap[w.heap.size + 7]? = some o7 := by
  refine ⟨_, rfl, by simp, ?_, ?_, ?_, ?_, ?_, ?_, ?_, ?_, ?_⟩
  · exact ((((((((Below.refl _ w).alloc (Nat.le_refl _) _).alloc (by simp) _).alloc (by simp; omega) _).alloc (by simp; omega) _).alloc (by simp; omega) _).alloc (by simp; omega) _).alloc (by simp; omega) _).alloc (by simp; omega) _
  · exact (Below.heap_alloc _ _ _ (by simp <;> omega)).trans ((Below.heap_alloc _ _ _ (by simp <;> omega)).trans ((Below.heap_alloc _ _ _ (by simp <;> omega)).trans ((Below.heap_alloc _ _ _ (by simp <;> omega)).trans ((Below.heap_alloc _ _ _ (by simp <;> omega)).trans ((Below.heap_alloc _ _ _ (by simp <;> omega)).trans ((Below.heap_alloc _ _ _ (by simp <;> omega)).trans (alloc_at _ _ _ (by simp))))))))
  · exact (Below.heap_alloc _ _ _ (by simp <;> omega)).trans ((Below.heap_alloc _ _ _ (by simp <;> omega)).trans ((Below.heap_alloc _ _ _ (by simp <;> omega)).trans ((Below.heap_alloc _ _ _ (by simp <;> omega)).trans ((Below.heap_alloc _ _ _ (by simp <;> omega)).trans ((Below.heap_alloc _ _ _ (by simp <;> omega)).trans (alloc_at _ _ _ (by simp)))))))
  · exact (Below.heap_alloc _ _ _ (by simp <;> omega)).trans ((Below.heap_alloc _ _ _ (by simp <;> omega)).trans ((Below.heap_alloc _ _ _ (by simp <;> omega)).trans ((Below.heap_alloc _ _ _ (by simp <;> omega)).trans ((Below.heap_alloc _ _ _ (by simp <;> omega)).trans (alloc_at _ _ _ (by simp))))))
  · exact (Below.heap_alloc _ _ _ (by simp <;> omega)).trans ((Below.heap_alloc _ _ _ (by simp <;> omega)).trans ((Below.heap_alloc _ _ _ (by simp <;> omega)).trans ((Below.heap_alloc _ _ _ (by simp <;> omega)).trans (alloc_at _ _ _ (by simp)))))
  · exact (Below.heap_alloc _ _ _ (by simp <;> omega)).trans ((Below.heap_alloc _ _ _ (by simp <;> omega)).trans ((Below.heap_alloc _ _ _ (by simp <;> omega)).trans (alloc_at _ _ _ (by simp))))
  · exact (Below.heap_alloc _ _ _ (by simp <;> omega)).trans ((Below.heap_alloc _ _ _ (by simp <;> omega)).trans (alloc_at _ _ _ (by simp)))
  · exact (Below.heap_alloc _ _ _ (by simp <;> omega)).trans (alloc_at _ _ _ (by simp))
  · exact alloc_at _ _ _ (by simp)

def nilV : Value := .slice none 0 0
/-- Between two lines. -/
def Between (w : World) (pre : List (List UInt8)) (W : World) : Prop := ∃ vo L, Sofar pre L ∧ L.length ≤ pre.length ∧ LoopAt w w.heap.size nilV (.int .i64 0) (.int .i64 0) vo pre.length L W
/-- Behind a wrong line. -/
def Wrong (w : World) (pre : List (List UInt8)) (W : World) : Prop := ∃ (k : Nat) (e : Int) (vo : Value) (a : Int) (L : List Pk), (∀ rest, parseFrom 0 [] (pre ++ rest) = ([], k, e)) ∧ LoopAt w w.heap.size nilV (.int .i64 k) (.int .i64 e) vo a L W

set_option maxRecDepth 100000 in
set_option maxHeartbeats 4000000 in
theorem parse_any (s : ByteArray) (w : World) (hs : s.size ≤ 10000) (hg : Glob w) : Calls Tryd.prog 11 #[.string s] w (ParseEnd w (parseFrom 0 [] (seen s.data.toList))) := by
  obtain ⟨R, hR⟩ : ∃ R, R = parseFrom 0 [] (seen s.data.toList) := ⟨_, rfl⟩
  rw [← hR]
  have HR := Lib.hid hR; clear hR
  have hT := Tryd.strings_TrimSuffix s ⟨#[10]⟩
  have HT := Lib.hid (fun W => hT W (by omega))
  clear hT
  have HG := Lib.hid hg; clear hg
  refine (callsIn_wide (n := 6)).1 ?_
  have hfT : Fence.wide.fn 32 := trivial
  have hfS : Fence.wide.fn 31 := trivial
  refine callsIn_of_wp_marks Tryd.func11 rfl trivial ?_ rfl
  simp only [Tryd.ntmps11, List.size_toArray, List.length_cons, List.length_nil, Nat.reduceAdd, Nat.reduceSub, Array.replicate_succ, Array.replicate_zero, List.push_toArray, List.append_toArray, List.nil_append, List.cons_append]
  gi_wp2_with (first
    | (gi_at_call 32; refine (callsIn_wide.2 (HT.out _)).mono ?_; rintro e w' ⟨rfl, rfl⟩)
    | (gi_at_call 31; refine (callsIn_wide.2 (seq_any _ 10 _)).mono ?_; rintro e w' ⟨rfl, rfl⟩)
    | gi_in)
  simp only [Nat.add_assoc, Nat.reduceAdd]
  obtain ⟨W0, hW0, hsz, hbel, k0, k1, k2, k3, k4, k5, k6, k7⟩ := eight w (.cells #[.slice none 0 0] 23) (.cells #[.int .i64 0] 3) (.cells #[.int .i64 0] 24) (.cells #[.slice none 0 0] 23) (.cells #[.int .i64 0] 3) (.cells #[.string (bs (Lib.trimSuffix s.data.toList [10]))] 9) (.cells #[.string ⟨#[10]⟩] 9) (.cells #[.int .i64 0] 3)
  rw [← hW0]
  have htl : (Lib.trimSuffix s.data.toList [10]).length ≤ 10000 := by
    have hl : s.data.toList.length = s.size := (Lib.size_eq s).symm
    unfold Lib.trimSuffix
    split
    · rw [List.length_take]; omega
    · omega
  refine loop_pieces rfl (by omega) (gf := 82) rfl trivial (enters_of Tryd.func82 (by kernel_rfl) rfl) (b := w.heap.size + 5) (split82 5 (by omega) (w.heap.size + 5) (bs (Lib.trimSuffix s.data.toList [10])) 10 W0 (by rw [bs_size]; omega) k5 k6 k7) (by omega)
    (Between w) (Wrong w) ?I ?Ix ?Is ?st (fun x => { tmps := #[.string s, undef, .pointer (some ⟨w.heap.size, 0, none⟩), .pointer (some ⟨w.heap.size + 1, 0, none⟩), .pointer (some ⟨w.heap.size + 2, 0, none⟩), .pointer (some ⟨w.heap.size + 3, 0, none⟩), .pointer (some ⟨w.heap.size + 4, 0, none⟩), sv x, undef, undef, undef, .string (bs s.data.toList), .string (bs (Lib.trimSuffix s.data.toList [10])), .func (.func 82) #[] #[.pointer (some ⟨w.heap.size + 6, 0, none⟩), .pointer (some ⟨w.heap.size + 5, 0, none⟩), .pointer (some ⟨w.heap.size + 7, 0, none⟩)], sv x, undef, undef, undef, undef, undef, undef, undef, undef, undef, undef, undef, undef, undef, undef, undef, undef, undef, undef, undef, undef, undef, undef, undef, undef, undef, undef, undef, undef, undef, undef, undef, undef, undef, undef], defers := [] }) ?assign ?body ?done ?stop
  case I => exact fun pre W W' row ⟨vo, L, h1, h2, h3⟩ hg hr => ⟨vo, L, h1, h2, h3.own rfl W0.heap.size (by omega) hg hr⟩
  case Ix => exact fun pre W W' row ⟨k, e, vo, a, L, h1, h2⟩ hg hr => ⟨k, e, vo, a, L, h1, h2.own rfl W0.heap.size (by omega) hg hr⟩
  case Is => exact fun pre W v ⟨vo, L, h1, h2, h3⟩ => ⟨vo, L, h1, h2, h3.cellB rfl v⟩
  case st => exact ⟨nilV, [], Sofar.start, Nat.le_refl _, ⟨k0, k1, k2, k3, k4, World.ownsRow_nil _ _ _ _, hbel, by omega⟩⟩
  case assign =>
    intro l x W K hK
    gi_wp2
    exact hK
  case body =>
    rintro l pre x W ⟨vo, L, hsf, hle, hL⟩ hpx
    have hplen : pre.length ≤ 10000 := by
      have h1 := hpx.length_le
      have h2 := pcs_len 10 (bs (Lib.trimSuffix s.data.toList [10])).data.toList
      have h3 : (bs (Lib.trimSuffix s.data.toList [10])).data.toList = Lib.trimSuffix s.data.toList [10] := rfl
      rw [List.length_append, List.length_singleton] at h1
      rw [h3] at h2 h1
      omega
    have hxl : x.length ≤ 10000 := by
      have h1 : x ∈ pcs 10 (bs (Lib.trimSuffix s.data.toList [10])).data.toList := hpx.subset (by simp)
      have h2 := pcs_mem_len h1
      have h3 : (bs (Lib.trimSuffix s.data.toList [10])).data.toList = Lib.trimSuffix s.data.toList [10] := rfl
      rw [h3] at h2
      omega
    have hbW := hL.big
    have c4 := hL.b4.cell
    have f4 := hL.b4.frozen
    have HL := Lib.hid hL
    have HS := Lib.hid hsf
    clear hL hsf k0 k1 k2 k3 k4 k5 k6 k7 hW0 hpx
    obtain ⟨W1, hW1⟩ : ∃ W1, W1 = W.setCell ⟨w.heap.size + 4, 0, none⟩ (.int .i64 ((pre.length : Int) + 1)) := ⟨_, rfl⟩
    have HL1 : Hid (LoopAt w w.heap.size nilV (.int .i64 0) (.int .i64 0) vo ((pre.length : Int) + 1) L W1) := by rw [hW1]; exact HL.out.at' rfl _
    have HWD := Lib.hid (words_any (bs x) W1 (by rw [bs_size]; omega))
    have h112 : 1 ≤ 6 - 1 - 1 := by omega
    have hs1 : W1.heap.size = W.heap.size := by rw [hW1]; simp
    have hfin : ∀ w2, Below W1.heap.size W1 w2 → (∀ C, Kf C W w2) ∧ Kb (w.heap.size + 5) W w2 ∧ LoopAt w w.heap.size nilV (.int .i64 0) (.int .i64 0) vo ((pre.length : Int) + 1) L w2 := fun w2 hb => by
      have h1 : ∀ C, Kf C W W1 := fun C => by rw [hW1]; exact Kf.setCell _ _ _ _
      have h2 : Kb (w.heap.size + 5) W W1 := by rw [hW1]; exact Kb.setCell W (w.heap.size + 4) _ (.inl (by omega))
      exact ⟨fun C => (h1 C).trans (Kf.below hb), h2.trans (Kb.below hb (by have := HL1.out.big; omega)), HL1.out.later rfl hb⟩
    have HF := Lib.hid hfin; clear hfin
    have hpl1 : ((pre ++ [x]).length : Int) = (pre.length : Int) + 1 := by simp
    have HPL := Lib.hid hpl1; clear hpl1
    cases hws : wordsL x with
    | nil =>
      have hsk : skipB (wordsL x) = true := by rw [hws]; rfl
      rw [toList_bs, hws] at HWD
      simp only [List.length_nil] at HWD
      have HSK := Lib.hid hsk
      clear hws hsk
      gi_wp2_with (first
        | (refine ⟨trivial, ?_⟩; gi_at_call 33; rw [← hW1]; refine (CallsIn.inRound l (callsIn_wide.2 HWD.out)).mono ?_; rintro e w2 ⟨cap, rfl, hst, hlt2, hb2⟩; have HB2 := Lib.hid hb2; have HST := Lib.hid hst; clear hb2; clear hst)
        | gi_in)
      refine ⟨trivial, ?_⟩
      gi_wp2
      obtain ⟨a1, a2, a3⟩ := HF.out w2 HB2.out
      exact ⟨a1 _, a2, vo, L, HS.out.skip HSK.out, by rw [List.length_append]; omega, by rw [HPL.out]; exact a3⟩
    | cons v vs =>
      rw [toList_bs, hws] at HWD
      have hvl : ∀ u ∈ v :: vs, u.length ≤ 100000 := fun u hu => by
        rw [← hws] at hu
        have := (wordsL_mem hu).2
        omega
      have hlen : 1 ≤ (v :: vs).length := by simp
      by_cases hh : (v.head? == some 35) = true
      · have hsk : skipB (wordsL x) = true := by rw [hws]; exact hh
        have HSK := Lib.hid hsk
        have HP := Lib.hid (fun W => Tryd.strings_HasPrefix (bs v) ⟨#[35]⟩ W)
        have h35 : (ByteArray.mk #[35]).data.toList = [35] := rfl
        simp only [toList_bs, h35, prefix_skip, hh] at HP
        generalize hm : (v :: vs).length = m at *
        have hm0 : ((m : Int) == 0) = false := by simp; omega
        clear hws hsk hvl hm
        gi_wp2_with (first
          | (refine ⟨trivial, ?_⟩; gi_at_call 33; rw [← hW1]; refine (CallsIn.inRound l (callsIn_wide.2 HWD.out)).mono ?_; rintro e w2 ⟨cap, rfl, hst, hlt2, hb2⟩; have HB2 := Lib.hid hb2; have HST := Lib.hid hst; clear hb2; have cs : w2.cell? ⟨W.heap.size, 0, none⟩ = some (sv v) := (by have h := hst 0 (by simp); rwa [hs1] at h); clear hst)
          | (refine ⟨trivial, ?_⟩; gi_at_call 34; refine (CallsIn.inRound l (callsIn_wide.2 (HP.out _))).mono ?_; rintro e w3 ⟨rfl, rfl⟩)
          | gi_in)
        obtain ⟨a1, a2, a3⟩ := HF.out _ HB2.out
        exact ⟨a1 _, a2, vo, L, HS.out.skip HSK.out, by rw [List.length_append]; omega, by rw [HPL.out]; exact a3⟩
      · have hh' : (v.head? == some 35) = false := by simpa using hh
        have hsk : skipB (wordsL x) = false := by rw [hws]; exact hh'
        have HSK := Lib.hid hsk
        have HP := Lib.hid (fun W => Tryd.strings_HasPrefix (bs v) ⟨#[35]⟩ W)
        have h35 : (ByteArray.mk #[35]).data.toList = [35] := rfl
        simp only [toList_bs, h35, prefix_skip, hh'] at HP
        have HLN := Lib.hid (fun g cap W hst hg => line_any g cap v vs W hst hvl hg)
        have hlw : lineL (wordsL x) = lineL (v :: vs) := by rw [hws]
        have HLW := Lib.hid hlw
        generalize hm : (v :: vs).length = m at *
        have hm0 : ((m : Int) == 0) = false := by simp; omega
        clear hws hsk hvl hm hlw
        generalize hr : lineL (v :: vs) = r at *
        obtain ⟨pk, er⟩ := r
        have HRR := Lib.hid hr; clear hr
        obtain ⟨oo, oc, hvo, _⟩ := row_form HL.out.row
        subst hvo
        by_cases her : er = 0
        · subst her
          have hLn : ((L.length : Int) == 1048576) = false := by simp; omega
          obtain ⟨i0, hi0, hy0, hy1, hy2⟩ := info_parts info47
          have hLm : L.length ≤ 10000 := by omega
          gi_wp2_with (first
            | (refine ⟨trivial, ?_⟩; gi_at_call 33; rw [← hW1]; refine (CallsIn.inRound l (callsIn_wide.2 HWD.out)).mono ?_; rintro e w2 ⟨cap, rfl, hst, hlt2, hb2⟩; have HB2 := Lib.hid hb2; have HST := Lib.hid hst; clear hb2; have cs : w2.cell? ⟨W.heap.size, 0, none⟩ = some (sv v) := (by have h := hst 0 (by simp); rwa [hs1] at h); clear hst)
            | (refine ⟨trivial, ?_⟩; gi_at_call 34; refine (CallsIn.inRound l (callsIn_wide.2 (HP.out _))).mono ?_; rintro e w3 ⟨rfl, rfl⟩)
            | (refine ⟨trivial, ?_⟩; gi_at_call 35; refine (CallsIn.inRound l (callsIn_wide.2 (HLN.out _ _ _ (by rw [← hs1]; exact HST.out) (HG.out.below (HF.out _ HB2.out).2.2.below)))).mono ?_; rintro e w4 ⟨rfl, hb4⟩; have HL4 := Lib.hid ((HF.out _ HB2.out).2.2.later rfl hb4); have e3 := (fun X => (HL4.out.b3.alloc X).cell); have e4 := (fun X => (HL4.out.b4.alloc X).cell); have e0 := (fun X => (HL4.out.b0.alloc X).cell); have e1 := (fun X => (HL4.out.b1.alloc X).cell); have e2 := (fun X => (HL4.out.b2.alloc X).cell); have g0 := (fun X => (HL4.out.b0.alloc X).frozen); have g1 := (fun X => (HL4.out.b1.alloc X).frozen); have g2 := (fun X => (HL4.out.b2.alloc X).frozen); have g3 := (fun X => (HL4.out.b3.alloc X).frozen); have hz4 := HL4.out.big; have hnb := (fun X Y => two_new w4 X Y); have HB4 := Lib.hid hb4; clear hb4)
            | (gi_at_builtin; refine wpListIn_append_own _ rfl _ _ 23 rfl (w.heap.size + 8) 47 i0 _ 2 16 Tryd.underlying23 hi0 hy0 hy1 hy2 rfl (by decide) (.slice oo L.length oc) L.length (pkCells L) (by rfl) ((HL4.out.row.alloc _).alloc _) ⟨w4.heap.size + 1, 0, none⟩ 1 1 [.int .i64 pk.task, .int .i64 pk.op] rfl rfl
                (World.news_of_block (cs := #[.int .i64 pk.task, .int .i64 pk.op]) (t := 47) (fr := (0, 0)) (hnb _ _)) (by simp [Value.oneCell']) (by unfold maxLen; omega) (by omega) (by simp; omega) ?_; intro v' w5 hown5 hgrow5 _; obtain ⟨g', cap', rfl⟩ := ownsRow_succ hown5
               have hpu := ((HL4.out.later rfl ((Below.refl _ w4).alloc (Nat.le_refl _) (.cells #[.int .i64 pk.task, .int .i64 pk.op] 47))).later rfl ((Below.refl _ _).alloc (Nat.le_refl _) (.cells #[.int .i64 pk.task, .int .i64 pk.op] 47))).pushed (L' := L ++ [pk]) rfl hgrow5 (by rw [pkCells_snoc, List.length_append]; exact hown5)
               have c5 := hpu.1.cell
               have g5 := hpu.1.frozen
               have HPU := Lib.hid hpu
               have HG5 := Lib.hid hgrow5
               clear hpu hgrow5 hown5)
            | gi_in)
          have hb24 : Below W1.heap.size W1 w4 := HB2.out.trans (HB4.out.mono (by have := HB2.out.size; omega))
          obtain ⟨a1, a2, _⟩ := HF.out _ hb24
          have hal : Below w4.heap.size w4 ((w4.alloc (.cells #[.int .i64 pk.task, .int .i64 pk.op] 47)).alloc (.cells #[.int .i64 pk.task, .int .i64 pk.op] 47)) := ((Below.refl _ w4).alloc (Nat.le_refl _) _).alloc (by simp) _
          have hrw := HL4.out.row.kept (grown_none hal) (by cases e : (Value.slice oo L.length oc).ownBlock with | none => exact .inl rfl | some g => exact .inr (by simp))
          have ht := HS.out.take HSK.out (by rw [HLW.out])
          rw [HLW.out] at ht
          refine ⟨((a1 _).trans (Kf.below hal)).trans ((Kf.grown hrw HG5.out).trans (Kf.setCell _ _ _ _)), ((a2.trans (Kb.below hal (by omega))).trans (Kb.grown hrw HG5.out (by omega) (by simp; omega))).trans (Kb.setCell w5 (w.heap.size + 3) _ (.inl (by omega))), .slice (some ⟨g', 0, none⟩) (L.length + 1) cap', L ++ [pk], ht, by rw [List.length_append, List.length_append, List.length_singleton, List.length_singleton]; omega, ?_⟩
          rw [HPL.out]
          exact HPU.out.2
        · have her1 : (er == 0) = false := by simpa using her
          have her2 : (er != 0) = true := by simpa using her
          gi_wp2_with (first
            | (refine ⟨trivial, ?_⟩; gi_at_call 33; rw [← hW1]; refine (CallsIn.inRound l (callsIn_wide.2 HWD.out)).mono ?_; rintro e w2 ⟨cap, rfl, hst, hlt2, hb2⟩; have HB2 := Lib.hid hb2; have HST := Lib.hid hst; clear hb2; have cs : w2.cell? ⟨W.heap.size, 0, none⟩ = some (sv v) := (by have h := hst 0 (by simp); rwa [hs1] at h); clear hst)
            | (refine ⟨trivial, ?_⟩; gi_at_call 34; refine (CallsIn.inRound l (callsIn_wide.2 (HP.out _))).mono ?_; rintro e w3 ⟨rfl, rfl⟩)
            | (refine ⟨trivial, ?_⟩; gi_at_call 35; refine (CallsIn.inRound l (callsIn_wide.2 (HLN.out _ _ _ (by rw [← hs1]; exact HST.out) (HG.out.below (HF.out _ HB2.out).2.2.below)))).mono ?_; rintro e w4 ⟨rfl, hb4⟩; have HL4 := Lib.hid ((HF.out _ HB2.out).2.2.later rfl hb4); have e3 := (fun X => (HL4.out.b3.alloc X).cell); have e4 := (fun X => (HL4.out.b4.alloc X).cell); have e0 := (fun X => (HL4.out.b0.alloc X).cell); have e1 := (fun X => (HL4.out.b1.alloc X).cell); have e2 := (fun X => (HL4.out.b2.alloc X).cell); have g0 := (fun X => (HL4.out.b0.alloc X).frozen); have g1 := (fun X => (HL4.out.b1.alloc X).frozen); have g2 := (fun X => (HL4.out.b2.alloc X).frozen); have g3 := (fun X => (HL4.out.b3.alloc X).frozen); have hz4 := HL4.out.big; have hnb := (fun X Y => two_new w4 X Y); have HB4 := Lib.hid hb4; clear hb4)
            | gi_in)
          have hwr := HS.out.wrong HSK.out (by rw [HLW.out]; exact her)
          rw [HLW.out] at hwr
          have HWR := Lib.hid hwr
          clear hwr
          gi_region
          all_goals
            gi_wp2
            have hb24 : Below W1.heap.size W1 w4 := HB2.out.trans (HB4.out.mono (by have := HB2.out.size; omega))
            obtain ⟨a1, a2, _⟩ := HF.out _ hb24
            have hal : Below w4.heap.size w4 (w4.alloc (.cells #[.int .i64 pk.task, .int .i64 pk.op] 47)) := (Below.refl _ w4).alloc (Nat.le_refl _) _
            have hk1 : (((pre.length + 1 : Nat)) : Int) = (pre.length : Int) + 1 := by omega
            have hfin := ((HL4.out.later rfl hal).res rfl (.slice none 0 0) (.int .i64 (((pre.length + 1 : Nat)) : Int)) (.int .i64 er)).later rfl ((Below.refl _ _).drew)
            refine ⟨((((a1 _).trans (Kf.below hal)).trans (Kf.setCell _ _ _ _)).trans (Kf.setCell _ _ _ _)).trans ((Kf.setCell _ _ _ _).trans (Kf.drew _ _)), pre.length + 1, er, .slice oo L.length oc, (pre.length : Int) + 1, L, HWR.out, ?_⟩
            rw [hk1] at hfin ⊢
            exact hfin
  case done =>
    rintro D W hD ⟨vo, L, hsf, hle, hL⟩ hK
    have hend : R = (L, 0, 0) := by
      have h := hsf []
      rw [List.append_nil] at h
      rw [HR.out]
      exact h
    obtain ⟨oo, cap, rfl, _⟩ := row_form hL.row
    have c3 := hL.b3.cell
    have c0 := hL.b0.cell
    have c1 := hL.b1.cell
    have c2 := hL.b2.cell
    have f0 := hL.b0.frozen
    have f1 := hL.b1.frozen
    have f2 := hL.b2.frozen
    have HL := Lib.hid hL
    have HK := Lib.hid hK
    have HE := Lib.hid hend
    clear hL hK hend hsf k0 k1 k2 k3 k4 k5 k6 k7 hW0
    gi_wp2
    have hDB : w.heap.size + 8 ≤ D := by omega
    have HL' := HL.out
    have q0 : Boxed (((W.setCell ⟨w.heap.size, 0, none⟩ (.slice oo L.length cap)).setCell ⟨w.heap.size + 1, 0, none⟩ (.int .i64 0)).setCell ⟨w.heap.size + 2, 0, none⟩ (.int .i64 0)) w.heap.size 23 (.slice oo L.length cap) := ((HL'.b0.set _).other (by omega) _).other (by omega) _
    have q1 : Boxed (((W.setCell ⟨w.heap.size, 0, none⟩ (.slice oo L.length cap)).setCell ⟨w.heap.size + 1, 0, none⟩ (.int .i64 0)).setCell ⟨w.heap.size + 2, 0, none⟩ (.int .i64 0)) (w.heap.size + 1) 3 (.int .i64 0) := ((HL'.b1.other (by omega) _).set _).other (by omega) _
    have q2 : Boxed (((W.setCell ⟨w.heap.size, 0, none⟩ (.slice oo L.length cap)).setCell ⟨w.heap.size + 1, 0, none⟩ (.int .i64 0)).setCell ⟨w.heap.size + 2, 0, none⟩ (.int .i64 0)) (w.heap.size + 2) 24 (.int .i64 0) := ((HL'.b2.other (by omega) _).other (by omega) _).set _
    have hK4 : (((W.setCell ⟨w.heap.size, 0, none⟩ (.slice oo L.length cap)).setCell ⟨w.heap.size + 1, 0, none⟩ (.int .i64 0)).setCell ⟨w.heap.size + 2, 0, none⟩ (.int .i64 0)).heap[D]? = some (.deferred (some [])) :=
      (Below.heap_setCell _ ⟨w.heap.size + 2, 0, none⟩ _ D (by show D ≠ w.heap.size + 2; omega)).trans ((Below.heap_setCell _ ⟨w.heap.size + 1, 0, none⟩ _ D (by show D ≠ w.heap.size + 1; omega)).trans ((Below.heap_setCell _ ⟨w.heap.size, 0, none⟩ _ D (by show D ≠ w.heap.size; omega)).trans HK.out))
    have hB4 : Below w.heap.size w (((W.setCell ⟨w.heap.size, 0, none⟩ (.slice oo L.length cap)).setCell ⟨w.heap.size + 1, 0, none⟩ (.int .i64 0)).setCell ⟨w.heap.size + 2, 0, none⟩ (.int .i64 0)) :=
      ((HL'.below.setCell (p := ⟨w.heap.size, 0, none⟩) (Nat.le_refl _) _).setCell (p := ⟨w.heap.size + 1, 0, none⟩) (by show w.heap.size ≤ w.heap.size + 1; omega) _).setCell (p := ⟨w.heap.size + 2, 0, none⟩) (by show w.heap.size ≤ w.heap.size + 2; omega) _
    have hrow : (((W.setCell ⟨w.heap.size, 0, none⟩ (.slice oo L.length cap)).setCell ⟨w.heap.size + 1, 0, none⟩ (.int .i64 0)).setCell ⟨w.heap.size + 2, 0, none⟩ (.int .i64 0)).ownsRow (w.heap.size + 8) 47 2 (.slice oo L.length cap) L.length (pkCells L) := by
      have hne : ∀ k, k < w.heap.size + 8 → (Value.slice oo L.length cap).ownBlock = none ∨ (Value.slice oo L.length cap).ownBlock ≠ some k := fun k hk => by
        cases e : (Value.slice oo L.length cap).ownBlock with
        | none => exact .inl rfl
        | some g => exact .inr (by have := (HL'.row.lt g e).1; simp; omega)
      exact ((HL'.row.kept (grownBy_setCell' W w.heap.size _) (hne _ (by omega))).kept (grownBy_setCell' _ (w.heap.size + 1) _) (hne _ (by omega))).kept (grownBy_setCell' _ (w.heap.size + 2) _) (hne _ (by omega))
    generalize (((W.setCell ⟨w.heap.size, 0, none⟩ (.slice oo L.length cap)).setCell ⟨w.heap.size + 1, 0, none⟩ (.int .i64 0)).setCell ⟨w.heap.size + 2, 0, none⟩ (.int .i64 0)) = W4 at *
    refine ⟨by simp, .inl ⟨_, _, rfl, run_takeDeferred hK4, ?_⟩⟩
    have p0 : (W4.putObj D (.deferred none)).cell? ⟨w.heap.size, 0, none⟩ = some (.slice oo L.length cap) := Boxed.cell (t := 23) ((World.putObj_heap_other (by omega)).trans q0)
    have p1 : (W4.putObj D (.deferred none)).cell? ⟨w.heap.size + 1, 0, none⟩ = some (.int .i64 0) := Boxed.cell (t := 3) ((World.putObj_heap_other (by omega)).trans q1)
    have p2 : (W4.putObj D (.deferred none)).cell? ⟨w.heap.size + 2, 0, none⟩ = some (.int .i64 0) := Boxed.cell (t := 24) ((World.putObj_heap_other (by omega)).trans q2)
    refine ⟨.tuple #[.slice oo L.length cap, .int .i64 0, .int .i64 0], ?_, ?_⟩
    · simp [results, Tryd.results11, go_sem, p0, p1, p2]
    · have hg5 : W4.grownBy (W4.putObj D (.deferred none)) (some D) := grownBy_putObj' W4 D _
      rw [HE.out]
      refine ⟨_, rfl, ?_, hB4.grown hg5 hB4.size (fun k e => by cases e; omega)⟩
      exact row_mono (by omega) (hrow.kept hg5 (row_cells hrow hK4 rfl))
  case stop =>
    rintro D pre W hD hpx ⟨k, e, vo, a, L, h1, h2⟩ hK
    have hend : R = ([], k, e) := by
      obtain ⟨rest, hrest⟩ := hpx
      rw [HR.out]
      have h := h1 rest
      rw [hrest] at h
      exact h
    have HL := Lib.hid h2
    have HK := Lib.hid hK
    have HE := Lib.hid hend
    clear h2 hK hend h1 k0 k1 k2 k3 k4 k5 k6 k7 hW0
    gi_wp2
    have hDB : w.heap.size + 8 ≤ D := by omega
    refine ⟨by simp, .inl ⟨_, _, rfl, run_takeDeferred HK.out, ?_⟩⟩
    have p0 : (W.putObj D (.deferred none)).cell? ⟨w.heap.size, 0, none⟩ = some (.slice none 0 0) := Boxed.cell (t := 23) ((World.putObj_heap_other (by omega)).trans HL.out.b0)
    have p1 : (W.putObj D (.deferred none)).cell? ⟨w.heap.size + 1, 0, none⟩ = some (.int .i64 k) := Boxed.cell (t := 3) ((World.putObj_heap_other (by omega)).trans HL.out.b1)
    have p2 : (W.putObj D (.deferred none)).cell? ⟨w.heap.size + 2, 0, none⟩ = some (.int .i64 e) := Boxed.cell (t := 24) ((World.putObj_heap_other (by omega)).trans HL.out.b2)
    refine ⟨.tuple #[.slice none 0 0, .int .i64 k, .int .i64 e], ?_, ?_⟩
    · simp [results, Tryd.results11, go_sem, p0, p1, p2]
    · have hg5 : W.grownBy (W.putObj D (.deferred none)) (some D) := grownBy_putObj' W D _
      rw [HE.out]
      exact ⟨_, rfl, World.ownsRow_nil _ _ _ _, HL.out.below.grown hg5 HL.out.below.size (fun k e => by cases e; omega)⟩

end Go.Proofs.YteifhbkhjkmhfaaDoor
