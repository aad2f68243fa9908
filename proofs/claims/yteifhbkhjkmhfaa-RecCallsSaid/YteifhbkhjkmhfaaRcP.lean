/-
  THE ROW 'RecCalls', PROVED: the law answers true whatever it is given, and what it was given reads as it did.
-/
import Derived.Test.YteifhbkhjkmhfaaRows
import Derived.Test.YteifhbkhjkmhfaaRcO
import Derived.ProofKit
import Derived.Deep.Slices
import Derived.Deep.Fields
import Derived.ChangeSame
namespace Go.Proofs.Yteifhbkhjkmhfaa
open Go.ChangeShapes Go.WideShapes Go.ChangeAt Go.RowKit Go.Deep

section
variable {H : Type} {enc : TypeId × Value → H} {P : Program} {w : World} {base : Nat} {spare : Nat → Bool} {held : Bool}
theorem open_slice_fieldsR {t e : TypeId} {fs : Array Field} {fuel : Nat} {cs : List Value} {x : DataW H × List MemPlace} (ht : P.underlying t = some (.slice e)) (he : P.underlying e = some (.struct fs))
    (hone : oneCellFields P fs = true) (hC : P.cellsOf e = fs.size) (h : DataW.trod enc P w base spare held fuel t cs = some x) :
    (cs = [.slice none 0 0] ∧ x = (.nil, [])) ∨
    ∃ (a : Addr) (len cap m : Nat) (D : Nat → DataW H) (Pl : Nat → List MemPlace), cs = [.slice (some a) len cap] ∧ base ≤ a.block ∧ len ≤ cap ∧ cap ≤ maxLen ∧ m = (if spare a.block then cap else len) ∧
      x = (.slice ((List.range len).map D) ((List.range (m - len)).map fun j => D (len + j)), MemPlace.row a (m * fs.size) ++ (List.range m).flatMap Pl) ∧
      ∀ i, i < m → ∃ (ys : List (DataW H × List MemPlace)) (n : Nat), D i = .agg (ys.map (·.1)) ∧ Pl i = ys.flatMap (·.2) ∧ ys.length = fs.size ∧
        ∀ (j : Nat) (f : Field), fs[j]? = some f → ∃ (v : Value) (y : DataW H × List MemPlace), w.cell? (a.add (i * fs.size + j)) = some v ∧ ys[j]? = some y ∧ DataW.trod enc P w base spare held n f.type [v] = some y := by
  rcases open_slice ht h with h0 | ⟨a, len, cap, m, n, D, Pl, hcs, hb, hl, hm, hmm, hx, hi⟩
  · exact .inl h0
  · refine .inr ⟨a, len, cap, m, D, Pl, hcs, hb, hl, hm, hmm, by rw [hC] at hx; exact hx, fun i him => ?_⟩
    obtain ⟨cs', hc, ht'⟩ := hi i him
    rw [hC] at hc
    obtain ⟨ys, n', hn', hy, hlen, hyl, hf⟩ := DataW.trod_struct he ht'
    obtain ⟨_, hcl, hat⟩ := World.cells?_some hc
    simp only [Prod.mk.injEq] at hy
    refine ⟨ys, n', hy.1, hy.2, hyl, fun j f hj => ?_⟩
    obtain ⟨ho, hk⟩ := hone_of hone j f hj
    have hjl : j < fs.size := (Array.getElem?_eq_some_iff.1 hj).1
    have hcell := hat j hjl
    have hv : cs'[j]? = some (cs'[j]'(by omega)) := List.getElem?_eq_getElem (by omega)
    have h1 := hf j f hj
    rw [ho, hk] at h1
    have hone' : (cs'.drop j).take 1 = [cs'[j]'(by omega)] := by
      rw [List.drop_eq_getElem_cons (by omega)]
      rfl
    rw [hone'] at h1
    have hys : ys[j]? = some (ys[j]'(by omega)) := List.getElem?_eq_getElem (by omega)
    refine ⟨_, _, ?_, hys, h1.trans hys⟩
    rw [← Go.Deep.add_add, hcell, hv]

theorem post_of_belowR {f : Func} {s : ChangeSpec} {apart fresh handsOn again : Bool} {W W' : World} {args : Array Value} {v : Value} {ds gs : List (DataW H)} {before pa pv : List MemPlace}
    (hW : DataW.Whole enc P f.params.toList s.vars apart W args.toList ds gs before)
    (hres : ∀ (b : Nat) (sp : Nat → Bool) (hd : Bool), DataW.TrodAll enc P W' b sp hd f.resultTypes.toList (v.resultList f.resultTypes.size) (s.fn H (ds ++ gs)).results [])
    (hargs : ∀ sp : Nat → Bool, (∀ p ∈ before, sp p.block = true) → DataW.TrodAll enc P W' 0 sp true f.params.toList args.toList (s.fn H (ds ++ gs)).args pa)
    (hvars : ∀ sp : Nat → Bool, (∀ p ∈ before, sp p.block = true) → DataW.TrodVars enc P W' sp s.vars (s.fn H (ds ++ gs)).vars pv)
    (hps : before = pa ++ pv) (hb : Below W.heap.size W W')
    (hok : ∀ (j : Nat) (t : TypeId) (r : Value), f.resultTypes[j]? = some t → (v.resultList f.resultTypes.size)[j]? = some r → Value.okWide P W' .any 0 t r) :
    s.post enc P f apart fresh handsOn again W args v W' := by
  have hlt : ∀ p ∈ before, p.block < W.heap.size := fun p hp => hW.lt p hp
  have hold : ∀ p ∈ before, (fun b => decide (b < W.heap.size)) p.block = true := fun p hp => by simpa using hlt p hp
  refine ⟨ds, gs, before, [], pa, pv, hW, hres _ _ _, hargs _ hold, hvars _ hold, World.keptBut_mono (fun p hp => ⟨hp, ?_⟩) (hb.frame (· ∈ before)), fun _ => ?_⟩
  · rw [hps, List.mem_append] at hp
    exact Or.inr hp
  · obtain ⟨_, _, _, _, _, hz, hn⟩ := hW
    refine ⟨hok, _, _, ([] ++ pa) ++ pv, ⟨[] ++ pa, pv, trodAll_append (hargs _ (fun _ _ => rfl)) (hres _ _ _), hvars _ (fun _ _ => rfl), rfl, ?_, ?_⟩, ?_⟩
    · intro b off hp
      have hin : MemPlace.cell b off ∈ before := by rw [hps]; simpa using hp
      rw [hb.frozen (hlt _ hin)]
      exact hz b off hin
    · intro ha
      have := hn ha
      rw [hps] at this
      simpa using this
    · intro p hp _
      rw [hps]
      simpa using hp
end

theorem Try.ownR : ownKnob Try.prog.godebug = none := by kernel_rfl
theorem Try.laidOutR : laidOutB Try.prog = true := by kernel_rfl

def noteCell (w : World) (a : Addr) (i j : Nat) : Int := match w.cell? (a.add (i * 4 + j)) with
  | some (.int _ n) => n
  | _ => 0

theorem Try.rec22R : Try.prog.readableRec 22 = true := by kernel_rfl
theorem Try.lt22R : 22 < Try.prog.types.size := of_decide_eq_true (by kernel_rfl)

theorem Try.one30R : oneCellFields Try.prog #[{ name := "Task", type := 3, offset := 0, embedded := false, tag := "", pkgPath := "", byteOffset := 0 }, { name := "What", type := 3, offset := 1, embedded := false, tag := "", pkgPath := "", byteOffset := 8 }, { name := "Op", type := 3, offset := 2, embedded := false, tag := "", pkgPath := "", byteOffset := 16 }, { name := "Arg", type := 3, offset := 3, embedded := false, tag := "", pkgPath := "", byteOffset := 24 }] = true := by kernel_rfl
theorem Try.cells30R : Try.prog.cellsOf 30 = 4 := by kernel_rfl

theorem Try.res4R : Try.f4.resultTypes = #[4] := by kernel_rfl

theorem add_more (a : Addr) (n j : Nat) : a.add (n + (j + 1)) = { block := (a.add n).block, off := (a.add n).off + (j + 1) } := by
  unfold Addr.add
  rw [if_neg (by omega)]
  by_cases h : n = 0
  · subst h; simp
  · rw [if_neg h]; simp; omega

theorem recCalls_any (oa : Option Addr) (len cap : Nat) (w : World)
    (hc : ∀ i, i < len → ∃ a, oa = some a ∧ ∀ j, j < 4 → ∃ x, w.cell? (a.add (i * 4 + j)) = some (.int .i64 x) ∧ (Lit.int .i64 x).wf = true) :
    Calls Try.prog 4 #[.slice oa len cap] w fun e w' => e = .returned (.bool true) ∧ Below w.heap.size w w' := by
  by_cases hl : 200 < len
  · exact recCalls_long oa len cap w hl
  · refine recCalls_short oa len cap (fun i => match oa with | some a => ⟨noteCell w a i 0, noteCell w a i 1, noteCell w a i 2, noteCell w a i 3⟩ | none => ⟨0, 0, 0, 0⟩) w (by omega) fun i hi => ?_
    obtain ⟨a, rfl, ha⟩ := hc i hi
    have hx : ∀ j, j < 4 → w.cell? (a.add (i * 4 + j)) = some (.int .i64 (noteCell w a i j)) ∧ (Lit.int .i64 (noteCell w a i j)).wf = true := fun j hj => by
      obtain ⟨x, hx, hw⟩ := ha j hj
      have : noteCell w a i j = x := by simp only [noteCell, hx]
      rw [this]
      exact ⟨hx, hw⟩
    have e : ∀ j, j + 1 < 4 → w.cell? { block := (a.add (i * 4)).block, off := (a.add (i * 4)).off + (j + 1) } = some (.int .i64 (noteCell w a i (j + 1))) := fun j hj => by
      rw [← add_more]
      exact (hx (j + 1) hj).1
    exact ⟨a, rfl, (hx 0 (by omega)).1, e 0 (by omega), e 1 (by omega), e 2 (by omega), (hx 0 (by omega)).2⟩

theorem recCalls_lifted (os : Os) (started : os.Started) (H : Type) (enc : TypeId × Value → H) :
    ReturnsInHanded {} Try.checked os 4 .any (Rows.recCallsSpec.pre6 enc Try.prog Try.f4 Rows.recCallsRow.domain false) (Rows.recCallsSpec.post enc Try.prog Try.f4 false true false false) := by
  refine returnsInHanded_of_change (C := Try.checked) Try.ownR started (by kernel_rfl) Try.func4
    (ChangeSpec.witness6 (enc := enc) (C := Try.checked) false ⟨#[], #[.slice none 0 0], []⟩ 8 (by kernel_rfl) (by kernel_rfl) (by kernel_rfl) (by kernel_rfl)) ?_
  intro W base args ds gs before hval0 hW hcnd _
  have hval : ∀ (j : Nat) t v, Try.f4.params[j]? = some t → args[j]? = some v → Value.okWide Try.prog W .any base t v := hval0
  have hW' := hW
  obtain ⟨p, q, hA0, hV, rfl, hfz, hnd⟩ := hW
  have hA : DataW.TrodAll enc Try.prog W 0 (fun _ => true) true Try.f4.params.toList args.toList ds p := hA0
  rw [Try.params4] at hA hval
  obtain ⟨v2, d2, rfl, rfl, h2⟩ := trodAll_one hA
  obtain ⟨rfl, rfl⟩ := trodVars_none hV
  obtain ⟨oa, len, cap, rfl⟩ := okWide_slice Try.underlying22 (hval 0 22 v2 rfl rfl)
  have hcl : ∀ i, i < len → ∃ a, oa = some a ∧ ∀ j, j < 4 → ∃ x, W.cell? (a.add (i * 4 + j)) = some (.int .i64 x) ∧ (Lit.int .i64 x).wf = true := by
    obtain ⟨fuel, hf⟩ := h2
    rcases open_slice_fieldsR Try.underlying22 Try.underlying30 Try.one30R Try.cells30R hf with ⟨hcs, _⟩ | ⟨a, len', cap', m, D, Pl, hcs, _, hlc, _, hm, _, hi⟩
    · intro i hi
      simp [Value.cells] at hcs
      omega
    · simp [Value.cells] at hcs
      obtain ⟨rfl, rfl, rfl⟩ := hcs
      intro i hil
      refine ⟨a, rfl, fun j hj => ?_⟩
      simp only [if_true] at hm
      obtain ⟨ys, n, _, _, _, hf'⟩ := hi i (by omega)
      have hg : ∀ (j : Nat) (f : Field), #[({ name := "Task", type := 3, offset := 0, embedded := false, tag := "", pkgPath := "", byteOffset := 0 } : Field), { name := "What", type := 3, offset := 1, embedded := false, tag := "", pkgPath := "", byteOffset := 8 }, { name := "Op", type := 3, offset := 2, embedded := false, tag := "", pkgPath := "", byteOffset := 16 }, { name := "Arg", type := 3, offset := 3, embedded := false, tag := "", pkgPath := "", byteOffset := 24 }][j]? = some f → f.type = 3 → ∃ x, W.cell? (a.add (i * 4 + j)) = some (.int .i64 x) ∧ (Lit.int .i64 x).wf = true := fun j f hj h3 => by
        obtain ⟨v, y, hc, _, ht⟩ := hf' j f hj
        rw [h3] at ht
        obtain ⟨x, hx, _, hw⟩ := DataW.trod_int Try.underlying3 ht
        injection hx with hx
        subst hx
        exact ⟨x, hc, hw⟩
      have h4 : j = 0 ∨ j = 1 ∨ j = 2 ∨ j = 3 := by omega
      rcases h4 with rfl | rfl | rfl | rfl
      · exact hg 0 _ rfl rfl
      · exact hg 1 _ rfl rfl
      · exact hg 2 _ rfl rfl
      · exact hg 3 _ rfl rfl
  clear hA0 hval0
  simp only [List.append_nil] at hW'
  refine (recCalls_any oa len cap W hcl).mono fun e W' ⟨he, hb⟩ => ?_
  subst he
  have hlt : ∀ x ∈ p, x.block < W.heap.size := fun x hx => hW'.lt x hx
  have hst : ∀ sp : Nat → Bool, (∀ x ∈ p, sp x.block = true) → DataW.Trod enc Try.prog W' 0 sp true 22 (.slice oa len cap) d2 p := fun sp hsp =>
    WideElems.Trod_stays (P := Try.prog) Try.laidOutR Try.rec22R Try.lt22R h2 (fun x hx => hb.same (hlt x hx)) (fun x hx => hsp x hx)
  have hW2 : DataW.Whole enc Try.prog Try.f4.params.toList Rows.recCallsSpec.vars false W #[.slice oa len cap].toList [d2] [] p := hW'
  have hp := post_of_belowR (P := Try.prog) (f := Try.f4) (s := Rows.recCallsSpec) (apart := false) (fresh := true) (handsOn := false) (again := false) (v := .bool true) (pa := p) (pv := []) hW2
    (fun _ _ _ => trodAll_mk1 (shut_bool Try.underlying4 true))
    (fun sp hsp => trodAll_mk1 (hst sp hsp))
    (fun _ _ => rfl) (List.append_nil _).symm hb (ok_one Try.res4R rfl (okWide_bool_mk Try.underlying4 true))
  exact ⟨_, rfl, hp⟩

theorem recCalls_holds : Rows.RecCallsSaid :=
  OpenClaim.holds_of_wide 4 Try.f4 rfl rfl rfl rfl rfl rfl rfl ⟨rfl, rfl, rfl, rfl, rfl⟩ rfl rfl rfl rfl rfl (by kernel_rfl) Try.func4 (by kernel_rfl)
    (of_decide_eq_true (by kernel_rfl)) (by unfold Func.isWrapper; first | (rw [if_pos (by decide +kernel)]; kernel_rfl) | (rw [if_neg (by decide +kernel)]; exact ⟨rfl, rfl⟩))
    (fun os started H enc _ => recCalls_lifted os started H enc)

end Go.Proofs.Yteifhbkhjkmhfaa
