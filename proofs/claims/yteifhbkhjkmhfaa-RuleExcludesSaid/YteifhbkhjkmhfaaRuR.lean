/-
  THE ROW 'RuleExcludes', PROVED: the law answers true whatever it is given, and what it was given reads as it did.
-/
import Derived.Test.YteifhbkhjkmhfaaRows
import Derived.Test.YteifhbkhjkmhfaaRuQ
import Derived.ProofKit
import Derived.Deep.Slices
import Derived.Deep.Fields
import Derived.ChangeSame
namespace Go.Proofs.Yteifhbkhjkmhfaa
open Go.ChangeShapes Go.WideShapes Go.ChangeAt Go.RowKit Go.Deep

section
variable {H : Type} {enc : TypeId × Value → H} {P : Program} {w : World} {base : Nat} {spare : Nat → Bool} {held : Bool}
theorem open_slice_fields {t e : TypeId} {fs : Array Field} {fuel : Nat} {cs : List Value} {x : DataW H × List MemPlace} (ht : P.underlying t = some (.slice e)) (he : P.underlying e = some (.struct fs))
    (hone : oneCellFields P fs = true) (hC : P.cellsOf e = fs.size) (h : DataW.trod enc P w base spare held fuel t cs = some x) :
    (cs = [.slice none 0 0] ∧ x = (.nil, [])) ∨
    ∃ (a : Addr) (len cap m : Nat) (D : Nat → DataW H) (Pl : Nat → List MemPlace), cs = [.slice (some a) len cap] ∧ base ≤ a.block ∧ len ≤ cap ∧ cap ≤ maxLen ∧ m = (if spare a.block then cap else len) ∧
      x = (.slice ((List.range len).map D) ((List.range (m - len)).map fun j => D (len + j)), MemPlace.row a (m * fs.size) ++ (List.range m).flatMap Pl) ∧
      ∀ i, i < m → ∃ (ys : List (DataW H × List MemPlace)) (n : Nat), D i = .agg (ys.map (·.1)) ∧ Pl i = ys.flatMap (·.2) ∧ ys.length = fs.size ∧
        ∀ (j : Nat) (f : Field), fs[j]? = some f → ∃ (v : Value) (y : DataW H × List MemPlace), w.cell? (a.add (i * fs.size + j)) = some v ∧ ys[j]? = some y ∧ DataW.trod enc P w base spare held n f.type [v] = some y := by
  rcases open_slice ht h with h0 | ⟨a, len, cap, m, n, D, Pl, hcs, hb, hl, hm, hmm, hx, hi⟩
  · exact .inl h0
  · refine .inr ⟨a, len, cap, m, D, Pl, hcs, hb, hl, hm, hmm, by rw [hC] at hx; exact hx, fun i him => ?_⟩
    obtain ⟨cs', hc, ht'⟩ := hi i him
    rw [hC] at hc
    obtain ⟨ys, n', hn', hy, hlen, hyl, hf⟩ := DataW.trod_struct he ht'
    obtain ⟨_, hcl, hat⟩ := World.cells?_some hc
    simp only [Prod.mk.injEq] at hy
    refine ⟨ys, n', hy.1, hy.2, hyl, fun j f hj => ?_⟩
    obtain ⟨ho, hk⟩ := hone_of hone j f hj
    have hjl : j < fs.size := (Array.getElem?_eq_some_iff.1 hj).1
    have hcell := hat j hjl
    have hv : cs'[j]? = some (cs'[j]'(by omega)) := List.getElem?_eq_getElem (by omega)
    have h1 := hf j f hj
    rw [ho, hk] at h1
    have hone' : (cs'.drop j).take 1 = [cs'[j]'(by omega)] := by
      rw [List.drop_eq_getElem_cons (by omega)]
      rfl
    rw [hone'] at h1
    have hys : ys[j]? = some (ys[j]'(by omega)) := List.getElem?_eq_getElem (by omega)
    refine ⟨_, _, ?_, hys, h1.trans hys⟩
    rw [← Go.Deep.add_add, hcell, hv]

theorem post_of_below {f : Func} {s : ChangeSpec} {apart fresh handsOn again : Bool} {W W' : World} {args : Array Value} {v : Value} {ds gs : List (DataW H)} {before pa pv : List MemPlace}
    (hW : DataW.Whole enc P f.params.toList s.vars apart W args.toList ds gs before)
    (hres : ∀ (b : Nat) (sp : Nat → Bool) (hd : Bool), DataW.TrodAll enc P W' b sp hd f.resultTypes.toList (v.resultList f.resultTypes.size) (s.fn H (ds ++ gs)).results [])
    (hargs : ∀ sp : Nat → Bool, (∀ p ∈ before, sp p.block = true) → DataW.TrodAll enc P W' 0 sp true f.params.toList args.toList (s.fn H (ds ++ gs)).args pa)
    (hvars : ∀ sp : Nat → Bool, (∀ p ∈ before, sp p.block = true) → DataW.TrodVars enc P W' sp s.vars (s.fn H (ds ++ gs)).vars pv)
    (hps : before = pa ++ pv) (hb : Below W.heap.size W W')
    (hok : ∀ (j : Nat) (t : TypeId) (r : Value), f.resultTypes[j]? = some t → (v.resultList f.resultTypes.size)[j]? = some r → Value.okWide P W' .any 0 t r) :
    s.post enc P f apart fresh handsOn again W args v W' := by
  have hlt : ∀ p ∈ before, p.block < W.heap.size := fun p hp => hW.lt p hp
  have hold : ∀ p ∈ before, (fun b => decide (b < W.heap.size)) p.block = true := fun p hp => by simpa using hlt p hp
  refine ⟨ds, gs, before, [], pa, pv, hW, hres _ _ _, hargs _ hold, hvars _ hold, World.keptBut_mono (fun p hp => ⟨hp, ?_⟩) (hb.frame (· ∈ before)), fun _ => ?_⟩
  · rw [hps, List.mem_append] at hp
    exact Or.inr hp
  · obtain ⟨_, _, _, _, _, hz, hn⟩ := hW
    refine ⟨hok, _, _, ([] ++ pa) ++ pv, ⟨[] ++ pa, pv, trodAll_append (hargs _ (fun _ _ => rfl)) (hres _ _ _), hvars _ (fun _ _ => rfl), rfl, ?_, ?_⟩, ?_⟩
    · intro b off hp
      have hin : MemPlace.cell b off ∈ before := by rw [hps]; simpa using hp
      rw [hb.frozen (hlt _ hin)]
      exact hz b off hin
    · intro ha
      have := hn ha
      rw [hps] at this
      simpa using this
    · intro p hp _
      rw [hps]
      simpa using hp
end

theorem Try.own : ownKnob Try.prog.godebug = none := by kernel_rfl
theorem Try.laidOut : laidOutB Try.prog = true := by kernel_rfl

def noteAt (w : World) (a : Addr) (i j : Nat) : Int := match w.cell? (a.add (i * 4 + j)) with
  | some (.int _ n) => n
  | _ => 0

theorem Try.rec22 : Try.prog.readableRec 22 = true := by kernel_rfl
theorem Try.lt22 : 22 < Try.prog.types.size := of_decide_eq_true (by kernel_rfl)

theorem Try.one30 : oneCellFields Try.prog #[{ name := "Task", type := 3, offset := 0, embedded := false, tag := "", pkgPath := "", byteOffset := 0 }, { name := "What", type := 3, offset := 1, embedded := false, tag := "", pkgPath := "", byteOffset := 8 }, { name := "Op", type := 3, offset := 2, embedded := false, tag := "", pkgPath := "", byteOffset := 16 }, { name := "Arg", type := 3, offset := 3, embedded := false, tag := "", pkgPath := "", byteOffset := 24 }] = true := by kernel_rfl
theorem Try.cells30 : Try.prog.cellsOf 30 = 4 := by kernel_rfl

theorem Try.res3 : Try.f3.resultTypes = #[4] := by kernel_rfl

theorem excl_any (k n : Int) (oa : Option Addr) (len cap : Nat) (w : World)
    (hc : ∀ i, i < len → ∃ a, oa = some a ∧ ∀ j, j < 4 → ∃ x, w.cell? (a.add (i * 4 + j)) = some (.int .i64 x)) :
    Calls Try.prog 3 #[.int .i64 k, .int .i64 n, .slice oa len cap] w fun e w' => e = .returned (.bool true) ∧ Below w.heap.size w w' := by
  by_cases h : (kindS k).toList.isEmpty = true ∨ n < 1 ∨ 64 < n
  · exact excl_no k n oa len cap w h
  · simp only [not_or] at h
    obtain ⟨h1, h2, h3⟩ := h
    obtain ⟨m, rfl⟩ : ∃ m : Nat, n = m := ⟨n.toNat, by omega⟩
    have hk := Bool.eq_false_iff.2 h1
    by_cases hl : 300 < len
    · exact excl_long k m oa len cap w hk (by omega) (by omega) hl
    · refine excl_yes k m oa len cap (fun i j => match oa with | some a => noteAt w a i j | none => 0) w hk (by omega) (by omega) (by omega) fun i hi => ?_
      obtain ⟨a, rfl, ha⟩ := hc i hi
      refine ⟨a, rfl, fun j hj => ?_⟩
      obtain ⟨x, hx⟩ := ha j hj
      simp only [noteAt, hx]

theorem ruleExcludes_lifted (os : Os) (started : os.Started) (H : Type) (enc : TypeId × Value → H) :
    ReturnsInHanded {} Try.checked os 3 .any (Rows.ruleExcludesSpec.pre6 enc Try.prog Try.f3 Rows.ruleExcludesRow.domain false) (Rows.ruleExcludesSpec.post enc Try.prog Try.f3 false true false false) := by
  refine returnsInHanded_of_change (C := Try.checked) Try.own started (by kernel_rfl) Try.func3
    (ChangeSpec.witness6 (enc := enc) (C := Try.checked) false ⟨#[], #[.int .i64 0, .int .i64 0, .slice none 0 0], []⟩ 8 (by kernel_rfl) (by kernel_rfl) (by kernel_rfl) (by kernel_rfl)) ?_
  intro W base args ds gs before hval0 hW hcnd _
  have hval : ∀ (j : Nat) t v, Try.f3.params[j]? = some t → args[j]? = some v → Value.okWide Try.prog W .any base t v := hval0
  have hW' := hW
  obtain ⟨p, q, hA0, hV, rfl, hfz, hnd⟩ := hW
  have hA : DataW.TrodAll enc Try.prog W 0 (fun _ => true) true Try.f3.params.toList args.toList ds p := hA0
  rw [Try.params3] at hA hval
  obtain ⟨v0, v1, v2, d0, d1, d2, p0, p1, p2, rfl, rfl, rfl, h0, h1, h2⟩ := trodAll_three hA
  obtain ⟨rfl, rfl⟩ := trodVars_none hV
  obtain ⟨a, rfl, rfl, rfl, wa⟩ := open_int Try.underlying3 (hval 0 3 v0 rfl rfl) h0
  obtain ⟨b, rfl, rfl, rfl, wb⟩ := open_int Try.underlying3 (hval 1 3 v1 rfl rfl) h1
  obtain ⟨oa, len, cap, rfl⟩ := okWide_slice Try.underlying22 (hval 2 22 v2 rfl rfl)
  have hcl : ∀ i, i < len → ∃ a, oa = some a ∧ ∀ j, j < 4 → ∃ x, W.cell? (a.add (i * 4 + j)) = some (.int .i64 x) := by
    obtain ⟨fuel, hf⟩ := h2
    rcases open_slice_fields Try.underlying22 Try.underlying30 Try.one30 Try.cells30 hf with ⟨hcs, _⟩ | ⟨a, len', cap', m, D, Pl, hcs, _, hlc, _, hm, _, hi⟩
    · intro i hi
      simp [Value.cells] at hcs
      omega
    · simp [Value.cells] at hcs
      obtain ⟨rfl, rfl, rfl⟩ := hcs
      intro i hil
      refine ⟨a, rfl, fun j hj => ?_⟩
      simp only [if_true] at hm
      obtain ⟨ys, n, _, _, _, hf'⟩ := hi i (by omega)
      have hg : ∀ (j : Nat) (f : Field), #[({ name := "Task", type := 3, offset := 0, embedded := false, tag := "", pkgPath := "", byteOffset := 0 } : Field), { name := "What", type := 3, offset := 1, embedded := false, tag := "", pkgPath := "", byteOffset := 8 }, { name := "Op", type := 3, offset := 2, embedded := false, tag := "", pkgPath := "", byteOffset := 16 }, { name := "Arg", type := 3, offset := 3, embedded := false, tag := "", pkgPath := "", byteOffset := 24 }][j]? = some f → f.type = 3 → ∃ x, W.cell? (a.add (i * 4 + j)) = some (.int .i64 x) := fun j f hj h3 => by
        obtain ⟨v, y, hc, _, ht⟩ := hf' j f hj
        rw [h3] at ht
        obtain ⟨x, hx, _⟩ := DataW.trod_int Try.underlying3 ht
        injection hx with hx
        subst hx
        exact ⟨x, hc⟩
      have h4 : j = 0 ∨ j = 1 ∨ j = 2 ∨ j = 3 := by omega
      rcases h4 with rfl | rfl | rfl | rfl
      · exact hg 0 _ rfl rfl
      · exact hg 1 _ rfl rfl
      · exact hg 2 _ rfl rfl
      · exact hg 3 _ rfl rfl
  clear hA0 hval0
  simp only [List.append_nil, List.nil_append] at hW'
  refine (excl_any a b oa len cap W hcl).mono fun e W' ⟨he, hb⟩ => ?_
  subst he
  have hlt : ∀ x ∈ p2, x.block < W.heap.size := fun x hx => hW'.lt x hx
  have hst : ∀ sp : Nat → Bool, (∀ x ∈ p2, sp x.block = true) → DataW.Trod enc Try.prog W' 0 sp true 22 (.slice oa len cap) d2 p2 := fun sp hsp =>
    WideElems.Trod_stays (P := Try.prog) Try.laidOut Try.rec22 Try.lt22 h2 (fun x hx => hb.same (hlt x hx)) (fun x hx => hsp x hx)
  have hW2 : DataW.Whole enc Try.prog Try.f3.params.toList Rows.ruleExcludesSpec.vars false W #[.int .i64 a, .int .i64 b, .slice oa len cap].toList [.lit (.int .i64 a), .lit (.int .i64 b), d2] [] p2 := hW'
  have hp := post_of_below (P := Try.prog) (f := Try.f3) (s := Rows.ruleExcludesSpec) (apart := false) (fresh := true) (handsOn := false) (again := false) (v := .bool true) (pa := p2) (pv := []) hW2
    (fun _ _ _ => trodAll_mk1 (shut_bool Try.underlying4 true))
    (fun sp hsp => trodAll_mk3 (shut_int Try.underlying3 wa) (shut_int Try.underlying3 wb) (hst sp hsp))
    (fun _ _ => rfl) (List.append_nil _).symm hb (ok_one Try.res3 rfl (okWide_bool_mk Try.underlying4 true))
  exact ⟨_, rfl, hp⟩

theorem ruleExcludes_holds : Rows.RuleExcludesSaid :=
  OpenClaim.holds_of_wide 3 Try.f3 rfl rfl rfl rfl rfl rfl rfl ⟨rfl, rfl, rfl, rfl, rfl⟩ rfl rfl rfl rfl rfl (by kernel_rfl) Try.func3 (by kernel_rfl)
    (of_decide_eq_true (by kernel_rfl)) (by unfold Func.isWrapper; first | (rw [if_pos (by decide +kernel)]; kernel_rfl) | (rw [if_neg (by decide +kernel)]; exact ⟨rfl, rfl⟩))
    (fun os started H enc _ => ruleExcludes_lifted os started H enc)

end Go.Proofs.Yteifhbkhjkmhfaa
