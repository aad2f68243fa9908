/-
  The walk of strings.SplitSeq at one byte: its pieces come one by one, whatever is done with each; a loop over them.
-/
import Derived.RangeFuncNested
import Derived.RangeFuncBound
import Derived.RangeFuncCalls
import Derived.RangeFuncLeaves
import Derived.Shelf.Abstract
import Derived.Shelf.RegionOpen
import Derived.WalkKit
import Derived.OwnWalkIn
import Derived.TacticsInMore
import Derived.LoopNIn
import Derived.LoopIn
import Derived.Test.YteifhbkhjkmhfaaDoorScE
namespace Go.Proofs.YteifhbkhjkmhfaaDoor
open Go.RowKit Go.Shelf Go.Sort
attribute [local go_sem] Oper.semAt_some
set_option linter.unusedSimpArgs false
set_option linter.unusedVariables false

theorem seq_any (s : ByteArray) (c : UInt8) (w : World) : Calls Tryd.prog 31 #[.string s, .string ⟨#[c]⟩] w fun e w' =>
    e = .returned (.func (.func 82) #[] #[.pointer (some ⟨w.heap.size + 1, 0, none⟩), .pointer (some ⟨w.heap.size, 0, none⟩), .pointer (some ⟨w.heap.size + 2, 0, none⟩)]) ∧
      w' = ((w.alloc (.cells #[.string s] 9)).alloc (.cells #[.string ⟨#[c]⟩] 9)).alloc (.cells #[.int .i64 0] 3) := by
  go_enter Tryd.func31, Tryd.ntmps31
  go_wp2
  go_ret
  exact ⟨rfl, rfl⟩

/-- The iterator's three boxes lie as they lay. -/
def Kb (b : Nat) (W W' : World) : Prop := ∀ i, b ≤ i → i < b + 3 → W'.heap[i]? = W.heap[i]?
theorem Kb.refl (b : Nat) (W : World) : Kb b W W := fun _ _ _ => rfl
theorem Kb.trans {b : Nat} {A B C : World} (h : Kb b A B) (k : Kb b B C) : Kb b A C := fun i h1 h2 => (k i h1 h2).trans (h i h1 h2)

/-- What a function over a yield does: the pieces come, in their order, until one is refused; between two of them its own box alone is written. -/
def SeqB (F : Fence) (n : Nat) (P : Program) (gf : Nat) (lb : Array Value) (b : Nat) (xs : List (List UInt8)) (w0 : World) : Prop :=
  ∀ (l : Nat) (J Jx : List (List UInt8) → World → Prop) (W : World), Kb b w0 W →
    (∀ s W v, J s W → J s (W.setCell ⟨b, 0, none⟩ v)) →
    (∀ pre x W1, J pre W1 → (pre ++ [x]) <+: xs → YieldAt F (n - 1) P l #[sv x] W1 fun e W' => (e = .returned (.bool true) ∧ J (pre ++ [x]) W' ∧ Kb b W1 W') ∨ (e = .returned (.bool false) ∧ Jx (pre ++ [x]) W')) →
    J [] W → CallsIn F n P gf (#[.func (.yield l) #[] #[]] ++ lb) W fun e W' => (∃ v, e = .returned v) ∧ (J xs W' ∨ ∃ pre, pre <+: xs ∧ Jx pre W')

/-- How much is left in the iterator's box. -/
def leftB (b : Nat) (w : World) : Nat := match w.cell? ⟨b, 0, none⟩ with
  | some (.string s) => s.size
  | _ => 0

set_option maxRecDepth 100000 in
set_option maxHeartbeats 2000000 in
theorem split82 (n : Nat) (hn : 1 ≤ n) (b : Nat) (s : ByteArray) (c : UInt8) (w0 : World) (hs : s.size ≤ 100000)
    (h0 : w0.heap[b]? = some (.cells #[.string s] 9 (0, 0))) (h1 : w0.heap[b + 1]? = some (.cells #[.string ⟨#[c]⟩] 9 (0, 0))) (h2 : w0.heap[b + 2]? = some (.cells #[.int .i64 0] 3 (0, 0))) :
    SeqB Fence.wide n Tryd.prog 82 #[.pointer (some ⟨b + 1, 0, none⟩), .pointer (some ⟨b, 0, none⟩), .pointer (some ⟨b + 2, 0, none⟩)] b (pcs c s.data.toList) w0 := by
  intro l J Jx W hK hJs hY hJ0
  have d0 : W.cell? ⟨b, 0, none⟩ = some (.string s) := cell_of_row W b 0 _ _ _ ((hK b (by omega) (by omega)).trans h0)
  have d1 : W.cell? ⟨b + 1, 0, none⟩ = some (.string ⟨#[c]⟩) := cell_of_row W (b + 1) 0 _ _ _ ((hK (b + 1) (by omega) (by omega)).trans h1)
  have d2 : W.cell? ⟨b + 2, 0, none⟩ = some (.int .i64 0) := cell_of_row W (b + 2) 0 _ _ _ ((hK (b + 2) (by omega) (by omega)).trans h2)
  have H1 := Lib.hid ((hK (b + 1) (by omega) (by omega)).trans h1)
  have H2 := Lib.hid ((hK (b + 2) (by omega) (by omega)).trans h2)
  have H0 := Lib.hid ((hK b (by omega) (by omega)).trans h0)
  have HY := Lib.hid hY; clear hY
  have HJs := Lib.hid hJs; clear hJs
  clear hK h0 h1 h2
  have hf84 : Fence.wide.fn 84 := trivial
  refine callsIn_of_wp Tryd.func82 rfl trivial ?_ rfl
  simp only [Tryd.ntmps82, List.size_toArray, List.length_cons, List.length_nil, Nat.reduceAdd, Nat.reduceSub, Array.replicate_succ, Array.replicate_zero, List.push_toArray, List.append_toArray, List.nil_append, List.cons_append]
  have hsz1 : (ByteArray.mk #[c]).size = 1 := rfl
  gi_wp2
  clear d0 d1 d2
  gi_loopw [7] (fun _ wr => ∃ (pre : List (List UInt8)) (r : ByteArray), Hid (pcs c s.data.toList = pre ++ pcs c r.data.toList) ∧ r.size ≤ 100000 ∧ Hid (J pre wr) ∧ Hid (wr.heap[b]? = some (.cells #[.string r] 9 (0, 0))) ∧ Hid (wr.heap[b + 1]? = some (.cells #[.string ⟨#[c]⟩] 9 (0, 0))) ∧ Hid (wr.heap[b + 2]? = some (.cells #[.int .i64 0] 3 (0, 0)))) (fun _ wr => leftB b wr)
  case atStart => exact ⟨[], s, rfl, hs, hJ0, H0.out, H1.out, H2.out⟩
  case round =>
    obtain ⟨pre, r, HP, hr, HJ, G0, G1, G2⟩ := hrel
    have d0 : wr.cell? ⟨b, 0, none⟩ = some (.string r) := cell_of_row wr b 0 _ _ _ G0.out
    have d1 : wr.cell? ⟨b + 1, 0, none⟩ = some (.string ⟨#[c]⟩) := cell_of_row wr (b + 1) 0 _ _ _ G1.out
    have d2 : wr.cell? ⟨b + 2, 0, none⟩ = some (.int .i64 0) := cell_of_row wr (b + 2) 0 _ _ _ G2.out
    have hge := Lib.indexByte_ge r.data.toList c
    have hI := fun W' => Tryd.strings_Index_one r c W'
    by_cases hi : Lib.indexByte r.data.toList c = -1
    · rw [hi] at hI
      have HI := Lib.hid hI; clear hI
      have hpc := HP.out
      rw [pcs_index_none hi] at hpc
      have hy0 := HY.out pre r.data.toList wr HJ.out (by rw [hpc]; exact List.prefix_refl _)
      have hr' : sv r.data.toList = .string r := rfl
      rw [hr', ← hpc] at hy0
      obtain ⟨fn, tmps, assign, body, hy, hR⟩ := hy0
      have HPC := Lib.hid hpc
      clear hi hge hpc hr'
      gi_wp2_with (first
        | (gi_at_call 84; refine (callsIn_wide.2 (HI.out _)).mono ?_; rintro e w' ⟨rfl, rfl⟩)
        | gi_in)
      refine hR.mono ?_
      rintro e W3 (⟨rfl, hJ3, hk3⟩ | ⟨rfl, hJx3⟩)
      · gi_wp2
        first | go_end0 | refine bodyPost_ret (results_none rfl _ _ _) rfl ?_
        exact ⟨⟨_, rfl⟩, .inl hJ3⟩
      · gi_wp2
        first | go_end0 | refine bodyPost_ret (results_none rfl _ _ _) rfl ?_
        exact ⟨⟨_, rfl⟩, .inr ⟨_, List.prefix_refl _, hJx3⟩⟩
    · obtain ⟨i, hi'⟩ : ∃ i : Nat, Lib.indexByte r.data.toList c = i := ⟨(Lib.indexByte r.data.toList c).toNat, by omega⟩
      rw [hi'] at hI
      have HI := Lib.hid hI; clear hI
      obtain ⟨hil, _, _⟩ := indexByte_some hi'
      have hir : i < r.size := by rw [Lib.size_eq]; exact hil
      have hpc := HP.out
      rw [pcs_index hi'] at hpc
      have hy0 := HY.out pre (r.data.toList.take i) wr HJ.out (by rw [hpc]; exact ⟨_, by rw [List.append_assoc]; rfl⟩)
      have HPX : Hid (pre ++ [r.data.toList.take i] <+: pcs c s.data.toList) := by rw [hpc]; exact ⟨_, by rw [List.append_assoc]; rfl⟩
      have hx : sv (r.data.toList.take i) = .string (r.extract 0 i) := congrArg Value.string (ba_ext (by rw [Lib.extract_from_zero]))
      rw [hx] at hy0
      obtain ⟨fn, tmps, assign, body, hy, hR⟩ := hy0
      have HPC := Lib.hid hpc
      clear hi hge hi' hpc hx hil
      gi_wp2_with (first
        | (gi_at_call 84; refine (callsIn_wide.2 (HI.out _)).mono ?_; rintro e w' ⟨rfl, rfl⟩)
        | gi_in)
      refine hR.mono ?_
      rintro e W3 (⟨rfl, hJ3, hk3⟩ | ⟨rfl, hJx3⟩)
      · have B0 : W3.heap[b]? = some (.cells #[.string r] 9 (0, 0)) := (hk3 b (by omega) (by omega)).trans G0.out
        have B1 : W3.heap[b + 1]? = some (.cells #[.string ⟨#[c]⟩] 9 (0, 0)) := (hk3 (b + 1) (by omega) (by omega)).trans G1.out
        have B2 : W3.heap[b + 2]? = some (.cells #[.int .i64 0] 3 (0, 0)) := (hk3 (b + 2) (by omega) (by omega)).trans G2.out
        have e0 : W3.cell? ⟨b, 0, none⟩ = some (.string r) := cell_of_row W3 b 0 _ _ _ B0
        have e1 : W3.cell? ⟨b + 1, 0, none⟩ = some (.string ⟨#[c]⟩) := cell_of_row W3 (b + 1) 0 _ _ _ B1
        have e2 : W3.frozen? ⟨b, 0, none⟩ = false := by
          unfold World.frozen?
          rw [B0]
          simp
        have K0 := Lib.hid B0
        have K1 := Lib.hid B1
        have K2 := Lib.hid B2
        have KJ := Lib.hid hJ3
        clear B0 B1 B2 hk3 hJ3 d0 d1 d2 hy hR
        gi_wp2
        have hL1 : ∀ (w : World) (x : ByteArray), w.heap[b]? = some (.cells #[.string x] 9 (0, 0)) → leftB b w = x.size := fun w x hx => by
          have := cell_of_row w b 0 _ _ _ hx
          unfold leftB
          rw [this]
          rfl
        have KS : Boxed (W3.setCell ⟨b, 0, none⟩ (.string (r.extract (i + 1) r.size))) b 9 (.string (r.extract (i + 1) r.size)) := Boxed.set _ (show Boxed W3 b 9 (.string r) from K0.out)
        have hsz : (r.extract (i + 1) r.size).size = r.size - (i + 1) := by rw [Lib.size_eq, Lib.extract_to_end, List.length_drop, Lib.size_eq]
        refine ⟨⟨pre ++ [r.data.toList.take i], r.extract (i + 1) r.size, ?_, by omega, HJs.out _ _ _ KJ.out, KS, ?_, ?_⟩, ?_⟩
        · rw [Lib.extract_to_end, List.append_assoc]
          exact HPC.out
        · exact (Below.heap_setCell W3 ⟨b, 0, none⟩ _ (b + 1) (by show b + 1 ≠ b; omega)).trans K1.out
        · exact (Below.heap_setCell W3 ⟨b, 0, none⟩ _ (b + 2) (by show b + 2 ≠ b; omega)).trans K2.out
        · rw [hL1 _ _ KS, hL1 _ _ G0.out]
          omega
      · gi_wp2
        first | go_end0 | refine bodyPost_ret (results_none rfl _ _ _) rfl ?_
        exact ⟨⟨_, rfl⟩, .inr ⟨_, HPX.out, hJx3⟩⟩

/-- What lies from a block on, and is no row of cells, lies as it lay. -/
def Kf (B : Nat) (W W' : World) : Prop := W.heap.size ≤ W'.heap.size ∧ ∀ k o, B ≤ k → W.heap[k]? = some o → o.isCells = false → W'.heap[k]? = some o
theorem Kf.refl (B : Nat) (W : World) : Kf B W W := ⟨Nat.le_refl _, fun _ _ _ h _ => h⟩
theorem Kf.trans {B : Nat} {X Y Z : World} (h : Kf B X Y) (k : Kf B Y Z) : Kf B X Z := ⟨Nat.le_trans h.1 k.1, fun i o hB hi ho => k.2 i o hB (h.2 i o hB hi ho) ho⟩
theorem Kf.setCell (B : Nat) (W : World) (a : Addr) (v : Value) : Kf B W (W.setCell a v) := ⟨(KeepsOthers.setCell W a v).size, fun k o _ hk ho => (KeepsOthers.setCell W a v).same k o hk ho⟩
theorem Kf.below {B : Nat} {W W' : World} (h : Below W.heap.size W W') : Kf B W W' := ⟨h.size, fun k o _ hk _ => (h.block k (Array.getElem?_eq_some_iff.1 hk).1).trans hk⟩

/-- What is left behind by one round: it goes on, or it hands back a result. -/
def RoundEnd (B b : Nat) (I Ix : List (List UInt8) → World → Prop) (xs : List (List UInt8)) (W : World) : Exit → Act → World → Prop
  | .normal, _, W' => Kf B W W' ∧ Kb b W W' ∧ I xs W'
  | .ret, _, W' => Kf B W W' ∧ Ix xs W'
  | _, _, _ => False

/-- A loop over pieces. -/
theorem loop_pieces {F : Fence} {n : Nat} {P : Program} {g : Operand} {p : Tmp} {assign body : Code} {Q : Exit → Act → World → Prop} {a : Act} {w : World} (hro : F.round = none) (h1 : 1 ≤ n) {gf : Nat} {lb : Array Value}
    (hg : a.eval g = .func (.func gf) #[] lb) (hF : F.fn gf) (eg : ∀ args w, (callFunc gf args).run P w = .ok (.enter gf args) w) {b : Nat} {xs : List (List UInt8)} (hseq : SeqB F (n - 1) P gf lb b xs w) (hb : b + 3 ≤ w.heap.size)
    (I Ix : List (List UInt8) → World → Prop) (hI : OwnFrom w.heap.size I) (hIx : OwnFrom w.heap.size Ix) (hIs : ∀ s W v, I s W → I s (W.setCell ⟨b, 0, none⟩ v)) (h0 : I [] w) (a1 : List UInt8 → Act)
    (hassign : ∀ (l : Nat) (x : List UInt8) (W : World) (K : Act → World → Prop), K (a1 x) W → assign.wpIn (F.inRound l) (n - 1 - 1) P (Exit.then K (fun _ _ _ => False)) { tmps := ((#[p] : Array Tmp).zip (#[sv x] : Array Value)).foldl (fun t (p, v) => t.setIfInBounds p v) a.tmps, defers := [] } W)
    (hbody : ∀ (l : Nat) (pre : List (List UInt8)) (x : List UInt8) (W : World), I pre W → pre ++ [x] <+: xs → body.wpIn (F.inRound l) (n - 1 - 1) P (RoundEnd w.heap.size b I Ix (pre ++ [x]) W) (a1 x) W)
    (hdone : ∀ (D : Nat) (W : World), w.heap.size ≤ D → I xs W → W.heap[D]? = some (.deferred (some [])) → Q .normal { a with defers := { target := .collected D, args := #[] } :: a.defers } W)
    (hstop : ∀ (D : Nat) (pre : List (List UInt8)) (W : World), w.heap.size ≤ D → pre <+: xs → Ix pre W → W.heap[D]? = some (.deferred (some [])) → Code.ret.wpIn F n P Q { a with defers := { target := .collected D, args := #[] } :: a.defers } W) :
    (Code.rangeFunc g #[p] assign body).wpIn F n P Q a w := by
  refine wpIn_rangeFunc ?_
  intro fn hfn
  rw [hro]
  -- the two blocks of book-keeping
  obtain ⟨D, hD⟩ : ∃ D, D = w.heap.size := ⟨_, rfl⟩
  obtain ⟨rec, hrec⟩ : ∃ rec : LoopState → Option Code → Loop, rec = fun st pe => { state := st, pending := pe, fn, tmps := a.tmps, params := #[p], assign, body, defers := D } := ⟨_, rfl⟩
  obtain ⟨W1, hW1⟩ : ∃ W1, W1 = (w.alloc (.deferred (some []))).alloc (.loop (rec .ready none)) := ⟨_, rfl⟩
  have hbig : ∀ k, k < w.heap.size → W1.heap[k]? = w.heap[k]? := fun k hk => by
    rw [hW1, Below.heap_alloc _ _ k (by simp; omega)]
    exact Below.heap_alloc _ _ k hk
  have hD1 : W1.heap[D]? = some (.deferred (some [])) := by
    rw [hW1, Below.heap_alloc _ _ D (by rw [hD]; simp), hD]
    exact World.alloc_heap_new w _
  have hL1 : W1.heap[D + 1]? = some (.loop (rec .ready none)) := by
    have h := World.alloc_heap_new (w.alloc (.deferred (some []))) (.loop (rec .ready none))
    rw [World.size_alloc] at h
    rw [hW1, hD]
    exact h
  have hI1 : I [] W1 := by rw [hW1]; exact hI.alloc _ (hI.alloc _ h0)
  have hKb1 : Kb b w W1 := fun k _ h3 => hbig k (by omega)
  have hDb : w.heap.size ≤ D := by omega
  refine ⟨D + 1, [{ target := .collected D, args := #[] }], W1, { target := .fn (.func gf) lb, args := #[.func (.yield (D + 1)) #[] #[]] }, W1, gf, #[.func (.yield (D + 1)) #[] #[]] ++ lb, W1, ?_, ?_, ?_, ?_, fun _ => h1, ?_⟩
  · rw [hW1, hrec, hD]; exact run_enterLoop_outer _ _ _ _ _
  · simp only [resolve, hg]
    simp [go_sem]
  · intro f' hf'
    simp [Target.leads] at hf'
    subst hf'
    exact hF
  · simp [invoke, go_sem, eg]
  have hreg : ∀ (st : LoopState) (pe : Option Code), (rec st pe).params = #[p] ∧ (rec st pe).state = st ∧ (rec st pe).pending = pe := fun st pe => by rw [hrec]; exact ⟨rfl, rfl, rfl⟩
  refine (hseq (D + 1) (fun pre W => I pre W ∧ W.heap[D + 1]? = some (.loop (rec .ready none)) ∧ W.heap[D]? = some (.deferred (some [])))
    (fun pre W => Ix pre W ∧ W.heap[D + 1]? = some (.loop (rec .done (some .ret))) ∧ W.heap[D]? = some (.deferred (some []))) W1 hKb1
    (fun s W v hs => And.intro (hIs s W v hs.1) (And.intro ((Below.heap_setCell W ⟨b, 0, none⟩ v (D + 1) (by show D + 1 ≠ b; omega)).trans hs.2.1) ((Below.heap_setCell W ⟨b, 0, none⟩ v D (by show D ≠ b; omega)).trans hs.2.2))) ?_ ⟨hI1, hL1, hD1⟩).mono ?_
  · rintro pre x W ⟨hi, hl, hd⟩ hpx
    have hlt : D + 1 < W.heap.size := (Array.getElem?_eq_some_iff.1 hl).1
    have hy := run_yield (P := P) (args := #[sv x]) hl (by rw [(hreg _ _).1]; rfl)
    rw [hrec] at hy
    refine ⟨fn, _, assign, body, hy, roundIn_of_wpIn hfn (hassign _ x W _ (Exists.intro _ (And.intro (run_beginRound hl (hreg _ _).2.1) ?_)))⟩
    obtain ⟨W2, hW2⟩ : ∃ W2, W2 = W.putObj (D + 1) (.loop { rec .ready none with state := .busy }) := ⟨_, rfl⟩
    rw [← hW2]
    have hl2 : W2.heap[D + 1]? = some (.loop { rec .ready none with state := .busy }) := by rw [hW2]; exact World.putObj_heap_same hlt
    have hd2 : W2.heap[D]? = some (.deferred (some [])) := by rw [hW2]; exact (World.putObj_heap_other (by omega)).trans hd
    have hk2 : Kb b W W2 := fun k h1 h3 => by rw [hW2]; exact World.putObj_heap_other (by omega)
    have hi2 : I pre W2 := by rw [hW2]; exact hI.putObj _ hi (by omega) hl rfl
    refine wpIn_mono (hbody _ pre x W2 hi2 hpx) ?_
    have back : ∀ (jump : Option Code) (W3 : World), Kf w.heap.size W2 W3 → ∃ W4, (Instr.endRound (D + 1) jump).run P W3 = .ok (.bool jump.isNone) W4 ∧ W4 = W3.putObj (D + 1) (.loop (rec (if jump.isNone then .ready else .done) jump)) ∧
        W3.heap[D + 1]? = some (.loop { rec .ready none with state := .busy }) ∧ W4.heap[D + 1]? = some (.loop (rec (if jump.isNone then .ready else .done) jump)) ∧ W4.heap[D]? = some (.deferred (some [])) := fun jump W3 hk => by
      have h3 := hk.2 (D + 1) _ (by omega) hl2 rfl
      have h4 := hk.2 D _ hDb hd2 rfl
      refine ⟨_, run_endRound jump h3, by rw [hrec], h3, ?_, (World.putObj_heap_other (by omega)).trans h4⟩
      rw [World.putObj_heap_same (Array.getElem?_eq_some_iff.1 h3).1, hrec]
    rintro e a3 W3 hp
    cases e with
    | normal =>
      obtain ⟨hk, hkb, hi3⟩ := hp
      obtain ⟨W4, hr, hW4, h3, hl4, hd4⟩ := back none W3 hk
      refine ⟨_, _, hr, .inl ⟨rfl, ⟨?_, hl4, hd4⟩, ?_⟩⟩
      · rw [hW4]; exact hI.putObj _ hi3 (by omega) h3 rfl
      · exact (hk2.trans hkb).trans fun k h1 h3' => by rw [hW4]; exact World.putObj_heap_other (by omega)
    | ret =>
      obtain ⟨hk, hi3⟩ := hp
      obtain ⟨W4, hr, hW4, h3, hl4, hd4⟩ := back (some .ret) W3 hk
      refine ⟨_, _, hr, .inr ⟨rfl, ?_, hl4, hd4⟩⟩
      rw [hW4]; exact hIx.putObj _ hi3 (by omega) h3 rfl
    | exit id => exact hp.elim
    | goto t => exact hp.elim
    | panic ch => exact hp.elim
    | outgrown => exact hp.elim
  · rintro e W2 ⟨⟨v, rfl⟩, (⟨hi, hl, hd⟩ | ⟨pre, hpx, hi, hl, hd⟩)⟩
    · refine ⟨none, _, ?_, hdone D _ hDb (hI.putObj (l := D + 1) (.loop { rec .ready none with state := .exhausted }) hi (by omega) hl rfl) ((World.putObj_heap_other (by omega)).trans hd)⟩
      have h := run_endLoop (P := P) hl (by rw [(hreg _ _).2.1]; simp)
      rw [hrec] at h ⊢
      exact h
    · refine ⟨some .ret, _, ?_, hstop D pre _ hDb hpx (hIx.putObj (l := D + 1) (.loop { rec .done (some .ret) with state := .exhausted }) hi (by omega) hl rfl) ((World.putObj_heap_other (by omega)).trans hd)⟩
      have h := run_endLoop (P := P) hl (by rw [(hreg _ _).2.1]; simp)
      rw [hrec] at h ⊢
      exact h

end Go.Proofs.YteifhbkhjkmhfaaDoor
