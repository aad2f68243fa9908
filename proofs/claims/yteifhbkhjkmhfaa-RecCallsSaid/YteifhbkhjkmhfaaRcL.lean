/-
  The walk of the keys of a map of which something is so, rising.
-/
import Derived.Test.YteifhbkhjkmhfaaRcH
import Derived.Test.YteifhbkhjkmhfaaRcK
namespace Go.Proofs.Yteifhbkhjkmhfaa
open Go.RowKit
open Go.Maps (Keyed int_keyed keyOf_int_mk IsMap atKey_put_same atKey_put_other has)
set_option linter.unusedSimpArgs false
set_option linter.unusedVariables false

theorem sortsA (m : Nat) : AnyZI.SortsIn Try.prog Try.sortedA_ren Fence.wide m :=
  ⟨fun blk off cap ss W hH hblk hsz => callsIn_wide.2 (AnyM.slices_Sort_int Try.sortA blk off cap ss W hH hblk hsz),
   fun p cap W => callsIn_wide.2 (AnyM.slices_Sort_int_none Try.sortA p cap W)⟩

theorem keys_any (mb : Option Nat) (w : World) : Calls Try.prog 52 #[.map mb] w fun e w' => e = .returned (.func (.func 63) #[] #[.pointer (some ⟨w.heap.size, 0, none⟩)]) ∧ w' = w.alloc (.cells #[.map mb] 54) :=
  (callsIn_wide (n := 5)).1 (AnyZI.keys_in Try.keysA Fence.wide 5 trivial rfl mb w)

theorem sorted_any {H : Type} (b nn : Nat) (D0 : DataW H) (R : Value → Option (DataW H × List MemPlace)) (w : World) (hown : w.ownsMap Try.prog 3 R b nn D0) (hmax : Maps.size D0 ≤ 1000) :
    Calls Try.prog 51 #[.func (.func 63) #[] #[.pointer (some ⟨w.heap.size, 0, none⟩)]] (w.alloc (.cells #[.map (some b)] 54)) fun e w' => ∃ (v : Value) (ss : List Int), e = .returned v ∧ ss.Perm (intKeys D0) ∧
      w'.ownsRow (w.heap.size + 1) 3 1 v ss.length ((ss.mergeSort (fun x y => decide (x ≤ y))).map encZ) ∧ (v = .slice none 0 0 ↔ ss = []) ∧ Below (w.heap.size + 1) (w.alloc (.cells #[.map (some b)] 54)) w' := by
  refine (callsIn_wide (n := 5)).1 ?_
  have hbl := hown.lt
  have hseq : SeqGives Fence.wide 2 Try.prog 63 #[.pointer (some ⟨w.heap.size, 0, none⟩)] encZ (fun ss => ss.Perm (intKeys D0)) (Maps.size D0) (w.alloc (.cells #[.map (some b)] 54)) :=
    AnyZI.keys_gives (ρ := Try.keysA_ren) { Try.keysA with } Fence.wide _ trivial rfl (by omega) w.heap.size b nn D0 _ (by simp) (by simp) (by
      obtain ⟨es, clock, hb, Ft, hs, hD⟩ := hown
      exact ⟨es, clock, (Below.heap_alloc _ _ b hbl).trans hb, Ft, hs, hD⟩)
  have cS := AnyZI.sorted_in Try.sortedA Fence.wide 5 trivial trivial trivial trivial rfl (by omega) (sortsA _) (enters_of Try.func62 (by kernel_rfl) rfl) 63 #[.pointer (some ⟨w.heap.size, 0, none⟩)] trivial (enters_of Try.func63 (by kernel_rfl) rfl) _ _ (by unfold maxLen; omega) (by omega) _ hseq
  change CallsIn _ _ Try.prog 51 _ _ _ at cS
  rw [World.size_alloc] at cS
  exact cS

theorem keys_facts {w : World} {b n : Nat} {D : DataW Value} (hown : w.ownsMap Try.prog 3 hR b n D) : (intKeys D).Nodup ∧ ∀ x, x ∈ intKeys D ↔ has D (.int .i64 x) = true := by
  obtain ⟨es, hD, hpw, _⟩ := hown.entries keyed3
  obtain ⟨es', hD', hko⟩ := hown.keysOf
  obtain rfl : es = es' := by rw [hD] at hD'; simpa using hD'
  subst hD
  have hk : ∀ p ∈ es, ∃ x, p.1 = .int .i64 x := fun p hp => by
    obtain ⟨v, hv⟩ := hko p hp
    obtain ⟨x, _, hx, _⟩ := Maps.keyOf_i64 Try.underlying3 hv
    exact ⟨x, hx⟩
  refine ⟨?_, fun x => ?_⟩
  · show (es.map fun p => Go.intOf p.1).Nodup
    refine List.pairwise_map.2 (hpw.imp_of_mem fun {p q} hp' hq' hne e => hne ?_)
    obtain ⟨a, ha⟩ := hk p hp'
    obtain ⟨b, hb⟩ := hk q hq'
    rw [ha, hb] at e ⊢
    exact congrArg _ e
  · rw [Maps.has_eq, List.any_eq_true]
    show x ∈ es.map (fun p => Go.intOf p.1) ↔ _
    rw [List.mem_map]
    constructor
    · rintro ⟨p, hp', rfl⟩
      obtain ⟨a, ha⟩ := hk p hp'
      exact ⟨p, hp', by rw [ha]; simp [Lit.sameKey, Go.intOf]⟩
    · rintro ⟨p, hp', hs⟩
      obtain ⟨a, ha⟩ := hk p hp'
      rw [ha] at hs
      exact ⟨p, hp', by rw [ha]; simpa [Lit.sameKey, Go.intOf] using hs⟩

/-- What a map of numbers tells of each key. -/
def MapFnI (D : DataW Value) (M : Int → Int) : Prop := ∀ t, D.atKey (.int .i64 t) (.held (.int .i64 0)) = .held (.int .i64 (M t))
theorem MapFnI.put {D : DataW Value} {M : Int → Int} (h : MapFnI D M) (hD : IsMap D) (t x : Int) : MapFnI (D.put (.int .i64 t) (.held (.int .i64 x))) (fun t' => if t' = t then x else M t') := by
  intro t'
  dsimp only
  by_cases e : t' = t
  · subst e; rw [if_pos rfl]; exact atKey_put_same hD (isKey _) _ _
  · rw [if_neg e, atKey_put_other (by intro h; injection h with _ h; exact e h)]; exact h t'
theorem zero3 (w : World) : (zeroValue 3).run Try.prog w = .ok (.int .i64 0) w := by kernel_rfl
theorem look_int {w : World} {b m : Nat} {D : DataW Value} {M : Int → Int} (hm : w.ownsMap Try.prog 3 hR b m D) (hf : MapFnI D M) (t : Int) (ht : (Lit.int .i64 t).wf = true) :
    (Instr.lookup 54 (.map (some b)) (.int .i64 t) false).run Try.prog w = .ok (.int .i64 (M t)) w := by
  obtain ⟨v, ps, hr, hv⟩ := hm.lookup keyed3 Try.underlying54 (zero3 w) (zd := .held (.int .i64 0)) (zp := []) rfl (keyOf_int_mk Try.underlying3 ht)
  rw [hf t] at hv
  injection hv with hv
  injection hv with hv _
  injection hv with hv
  subst hv
  exact hr

/-- The keys of which it's so, rising: what is handed back. -/
theorem filt_rises {w : World} {b n : Nat} {D : DataW Value} {M : Int → Int} (hown : w.ownsMap Try.prog 3 hR b n D) (hf : MapFnI D M) {ss : List Int} (hp : ss.Perm (intKeys D)) :
    ((ss.mergeSort (fun x y => decide (x ≤ y))).filter fun t => M t == 1).Pairwise (· < ·) ∧ ∀ x, x ∈ (ss.mergeSort (fun x y => decide (x ≤ y))).filter (fun t => M t == 1) ↔ M x = 1 := by
  obtain ⟨hnd, hmem⟩ := keys_facts hown
  have hp2 : (ss.mergeSort (fun x y => decide (x ≤ y))).Perm (intKeys D) := (List.mergeSort_perm ss _).trans hp
  have hle : (ss.mergeSort (fun x y => decide (x ≤ y))).Pairwise (fun a b => decide (a ≤ b) = true) :=
    List.pairwise_mergeSort (fun a b c h1 h2 => by simp only [decide_eq_true_eq] at *; omega) (fun a b => by simp only [Bool.or_eq_true, decide_eq_true_eq]; omega) ss
  have hnd2 : (ss.mergeSort (fun x y => decide (x ≤ y))).Nodup := hp2.nodup_iff.2 hnd
  refine ⟨?_, fun x => ?_⟩
  · apply List.Pairwise.filter
    exact (hle.and hnd2).imp (fun {a b} h => by have h1 := h.1; have h2 := h.2; simp only [decide_eq_true_eq] at h1; omega)
  · rw [List.mem_filter, hp2.mem_iff, hmem]
    constructor
    · rintro ⟨_, h⟩; simpa using h
    · intro h
      refine ⟨?_, by simpa using h⟩
      cases hh : has D (.int .i64 x) with
      | true => rfl
      | false =>
        have := hf x
        rw [Maps.atKey_of_not_has hh] at this
        injection this with this
        injection this with _ this
        omega

theorem is25 (x : Int) (w : World) : Calls Try.prog 25 #[.int .i64 x] w fun e w' => e = .returned (.bool (x == 1)) ∧ w = w' := by
  go_enter Try.func25, Try.ntmps25
  go_wp2
  go_ret
  exact ⟨rfl, rfl⟩

end Go.Proofs.Yteifhbkhjkmhfaa
