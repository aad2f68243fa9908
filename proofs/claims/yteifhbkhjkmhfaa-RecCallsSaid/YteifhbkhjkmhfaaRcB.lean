/-
  The walk of whether two histories' calls are the same.
-/
import Derived.Test.YteifhbkhjkmhfaaRcA
import Derived.Deep.RegionHeld3
namespace Go.Proofs.Yteifhbkhjkmhfaa
open Go.RowKit
set_option linter.unusedSimpArgs false
set_option linter.unusedVariables false

/-- A call of a history. -/
structure Cal where
  task : Int
  op : Int
  fr : Int
  to : Int
  ret : Int
  pts : List Int
deriving DecidableEq

def Cal.zero : Cal := ⟨0, 0, 0, 0, 0, []⟩

/-- The six cells of a call. -/
def CalAt (w : World) (g o : Nat) (c : Cal) : Prop :=
  w.cell? ⟨g, o, none⟩ = some (.int .i64 c.task) ∧ w.cell? ⟨g, o + 1, none⟩ = some (.int .i64 c.op) ∧ w.cell? ⟨g, o + 2, none⟩ = some (.int .i64 c.fr) ∧ w.cell? ⟨g, o + 3, none⟩ = some (.int .i64 c.to) ∧
  w.cell? ⟨g, o + 4, none⟩ = some (.int .i64 c.ret) ∧ ∃ oa m cap, w.cell? ⟨g, o + 5, none⟩ = some (.slice oa m cap) ∧ IntsAt w (.slice oa m cap) c.pts

/-- A slice of calls that reads as l. -/
def CalsAt (w : World) (v : Value) (l : List Cal) : Prop :=
  (v = .slice none 0 0 ∧ l = []) ∨ ∃ g cap, v = .slice (some ⟨g, 0, none⟩) l.length cap ∧ ∀ j, j < l.length → CalAt w g (j * 6) (l.getD j Cal.zero)

theorem IntsAt.below {w w' : World} {v : Value} {l : List Int} (h : IntsAt w v l) (hb : Below w.heap.size w w') : IntsAt w' v l := by
  rcases h with h | ⟨g, cap, rfl, h⟩
  · exact .inl h
  · exact .inr ⟨g, cap, rfl, fun j hj => (hb.cell (p := ⟨g, j, none⟩) (World.block_lt_of_cell? w _ (h j hj))).trans (h j hj)⟩
theorem CalAt.below {w w' : World} {g o : Nat} {c : Cal} (h : CalAt w g o c) (hb : Below w.heap.size w w') : CalAt w' g o c := by
  obtain ⟨h0, h1, h2, h3, h4, oa, m, cap, h5, h7⟩ := h
  have hg : g < w.heap.size := World.block_lt_of_cell? w _ h0
  have hc : ∀ i, w'.cell? ⟨g, i, none⟩ = w.cell? ⟨g, i, none⟩ := fun i => hb.cell (p := ⟨g, i, none⟩) hg
  exact ⟨(hc _).trans h0, (hc _).trans h1, (hc _).trans h2, (hc _).trans h3, (hc _).trans h4, oa, m, cap, (hc _).trans h5, h7.below hb⟩

theorem cals_ne_at {a b : List Cal} {k : Nat} (h : a.getD k Cal.zero ≠ b.getD k Cal.zero) : a ≠ b := by
  rintro rfl
  exact h rfl
theorem cals_eq_all {a b : List Cal} (hab : a.length = b.length) (h : ∀ j, j < a.length → a.getD j Cal.zero = b.getD j Cal.zero) : a = b := by
  apply List.ext_getElem hab
  intro i h1 h2
  have := h i h1
  simpa [List.getD_eq_getElem?_getD, h1, h2] using this

def sameB (x y : Cal) : Bool := !((x.task != y.task) || (x.op != y.op) || (x.fr != y.fr) || (x.to != y.to) || (x.ret != y.ret) || !decide (x.pts = y.pts))
theorem sameB_iff (x y : Cal) : sameB x y = true ↔ x = y := by
  cases x; cases y
  simp [sameB]
  constructor
  · rintro ⟨⟨⟨⟨⟨h1, h2⟩, h3⟩, h4⟩, h5⟩, h6⟩
    exact ⟨h1, h2, h3, h4, h5, h6⟩
  · rintro ⟨h1, h2, h3, h4, h5, h6⟩
    exact ⟨⟨⟨⟨⟨h1, h2⟩, h3⟩, h4⟩, h5⟩, h6⟩

set_option maxHeartbeats 4000000 in
theorem same_any (va vb : Value) (la lb : List Cal) (w : World) (ha : CalsAt w va la) (hb : CalsAt w vb lb) (hla : la.length ≤ 1000) (hlb : lb.length ≤ 1000) (hpa : ∀ c ∈ la, c.pts.length ≤ 1000) (hpb : ∀ c ∈ lb, c.pts.length ≤ 1000) :
    Calls Try.prog 10 #[va, vb] w fun e w' => e = .returned (.bool (decide (la = lb))) ∧ Below w.heap.size w w' := by
  have hva : ∃ oa ca, va = .slice oa la.length ca ∧ ∀ j, j < la.length → ∃ g, oa = some ⟨g, 0, none⟩ ∧ CalAt w g (j * 6) (la.getD j Cal.zero) := by
    rcases ha with ⟨rfl, rfl⟩ | ⟨g, cap, rfl, h⟩
    · exact ⟨none, 0, rfl, fun j hj => by simp at hj⟩
    · exact ⟨_, cap, rfl, fun j hj => ⟨g, rfl, h j hj⟩⟩
  have hvb : ∃ oa ca, vb = .slice oa lb.length ca ∧ ∀ j, j < lb.length → ∃ g, oa = some ⟨g, 0, none⟩ ∧ CalAt w g (j * 6) (lb.getD j Cal.zero) := by
    rcases hb with ⟨rfl, rfl⟩ | ⟨g, cap, rfl, h⟩
    · exact ⟨none, 0, rfl, fun j hj => by simp at hj⟩
    · exact ⟨_, cap, rfl, fun j hj => ⟨g, rfl, h j hj⟩⟩
  clear ha hb
  obtain ⟨oa, ca, rfl, ha⟩ := hva
  obtain ⟨ob, cb, rfl, hb⟩ := hvb
  have HA := Lib.hid ha; clear ha
  have HB := Lib.hid hb; clear hb
  have HPA := Lib.hid hpa; clear hpa
  have HPB := Lib.hid hpb; clear hpb
  by_cases hlen : la.length = lb.length
  · generalize hn : la.length = n at *
    go_enter Try.func10, Try.ntmps10
    go_wp2
    go_loopw [5] (fun i wr => ∃ k : Nat, k ≤ n ∧ i = .int .i64 k ∧ Hid (∀ j, j < k → la.getD j Cal.zero = lb.getD j Cal.zero) ∧ Hid (Below w.heap.size w wr)) (fun i _ => n - (intOf i).toNat)
    case atStart => exact ⟨0, Nat.zero_le _, rfl, fun j h => by omega, Below.refl _ _⟩
    case round =>
      obtain ⟨k, hk, rfl, hno, HBE⟩ := hrel
      by_cases hlt : k < n
      · obtain ⟨g, rfl, hc1⟩ := HA.out k hlt
        obtain ⟨g', rfl, hc2⟩ := HB.out k (by omega)
        have hc1' := hc1.below HBE.out
        have hc2' := hc2.below HBE.out
        have hpx : (la.getD k Cal.zero).pts.length ≤ 1000 := HPA.out _ (by rw [List.getD_eq_getElem?_getD, List.getElem?_eq_getElem (by omega)]; simp)
        have hpy : (lb.getD k Cal.zero).pts.length ≤ 1000 := HPB.out _ (by rw [List.getD_eq_getElem?_getD, List.getElem?_eq_getElem (by omega)]; simp)
        clear hc1 hc2
        generalize hx : la.getD k Cal.zero = x at hc1' hpx
        generalize hy : lb.getD k Cal.zero = y at hc2' hpy
        have HX := Lib.hid hx; clear hx
        have HY := Lib.hid hy; clear hy
        obtain ⟨a0, a1, a2, a3, a4, po, pm, pc, a5, ha7⟩ := hc1'
        obtain ⟨b0, b1, b2, b3, b4, qo, qm, qc, b5, hb7⟩ := hc2'
        have hg1 : g < wr.heap.size := World.block_lt_of_cell? wr _ a0
        have hg2 : g' < wr.heap.size := World.block_lt_of_cell? wr _ b0
        have hg3 : g < wr.heap.size + 1 := by omega
        have hg4 : g' < wr.heap.size + 1 := by omega
        have HI := Lib.hid ha7; clear ha7
        have HJ := Lib.hid hb7; clear hb7
        have hs := HBE.out.size
        go_wp2
        go_region
        all_goals
          have hcs : x.task ≠ y.task ∨ (x.task = y.task ∧ x.op ≠ y.op) ∨ (x.task = y.task ∧ x.op = y.op ∧ x.fr ≠ y.fr) ∨ (x.task = y.task ∧ x.op = y.op ∧ x.fr = y.fr ∧ x.to ≠ y.to) ∨
              (x.task = y.task ∧ x.op = y.op ∧ x.fr = y.fr ∧ x.to = y.to ∧ x.ret ≠ y.ret) ∨ (x.task = y.task ∧ x.op = y.op ∧ x.fr = y.fr ∧ x.to = y.to ∧ x.ret = y.ret) := by
            by_cases e0 : x.task = y.task <;> by_cases e1 : x.op = y.op <;> by_cases e2 : x.fr = y.fr <;> by_cases e3 : x.to = y.to <;> by_cases e4 : x.ret = y.ret <;> simp [*]
          rcases hcs with e0 | ⟨e0, e1⟩ | ⟨e0, e1, e2⟩ | ⟨e0, e1, e2, e3⟩ | ⟨e0, e1, e2, e3, e4⟩ | ⟨e0, e1, e2, e3, e4⟩
          case inr.inr.inr.inr.inr =>
            go_wp2_with fail
            refine (ints_any _ _ x.pts y.pts _ ?_ ?_ hpx hpy).mono ?_
            · refine HI.out.below ?_
              repeat (first | with_reducible exact Below.refl _ _ | with_reducible refine below_drewN ?_ _ | with_reducible refine Below.drew ?_ | with_reducible refine Below.alloc ?_ (by simp [go_sem] <;> omega) _ | with_reducible refine Below.setCell ?_ (by simp [go_sem] <;> omega) _)
            · refine HJ.out.below ?_
              repeat (first | with_reducible exact Below.refl _ _ | with_reducible refine below_drewN ?_ _ | with_reducible refine Below.drew ?_ | with_reducible refine Below.alloc ?_ (by simp [go_sem] <;> omega) _ | with_reducible refine Below.setCell ?_ (by simp [go_sem] <;> omega) _)
            rintro e w2 ⟨rfl, m, rfl⟩
            by_cases hd : x.pts = y.pts
            · have hxy : x = y := (sameB_iff x y).1 (by simp [sameB, e0, e1, e2, e3, e4, hd])
              have HXY := Lib.hid hxy; clear hxy
              simp only [hd, decide_true]
              go_wp2_with fail
              go_roundw
              case rel => exact ⟨k + 1, by omega, by go_num, fun j hj => by (by_cases e : j = k); (· subst e; rw [HX.out, HY.out, HXY.out]); (· exact hno.out j (by omega)), HBE.out.trans (Below.mono (B := wr.heap.size) (by repeat (first | with_reducible exact Below.refl _ _ | with_reducible refine below_drewN ?_ _ | with_reducible refine Below.drew ?_ | with_reducible refine Below.alloc ?_ (by simp [go_sem] <;> omega) _ | with_reducible refine Below.setCell ?_ (by simp [go_sem] <;> omega) _)) hs)⟩
              case measure => simp [intOf]; omega
            · simp only [hd, decide_false]
              go_wp2_with fail
              go_ret
              exact ⟨by rw [decide_eq_false (cals_ne_at (k := k) (by rw [HX.out, HY.out]; rintro rfl; exact hd rfl))]; rfl, HBE.out.trans (Below.mono (B := wr.heap.size) (by repeat (first | with_reducible exact Below.refl _ _ | with_reducible refine below_drewN ?_ _ | with_reducible refine Below.drew ?_ | with_reducible refine Below.alloc ?_ (by simp [go_sem] <;> omega) _ | with_reducible refine Below.setCell ?_ (by simp [go_sem] <;> omega) _)) hs)⟩
          all_goals
            go_wp2_with fail
            go_ret
            exact ⟨by rw [decide_eq_false (cals_ne_at (k := k) (by rw [HX.out, HY.out]; rintro rfl; simp_all))]; rfl, HBE.out.trans (Below.mono (B := wr.heap.size) (by repeat (first | with_reducible exact Below.refl _ _ | with_reducible refine below_drewN ?_ _ | with_reducible refine Below.drew ?_ | with_reducible refine Below.alloc ?_ (by simp [go_sem] <;> omega) _ | with_reducible refine Below.setCell ?_ (by simp [go_sem] <;> omega) _)) hs)⟩
      · go_wp2
        go_ret
        exact ⟨by rw [decide_eq_true (cals_eq_all (by omega) fun j hj => hno.out j (by omega))]; rfl, HBE.out⟩
  · have hlen' : ¬ ((la.length : Int) = lb.length) := by omega
    go_enter Try.func10, Try.ntmps10
    go_wp2
    go_ret
    exact ⟨by rw [decide_eq_false (fun h => hlen (by rw [h]))]; rfl, Below.refl _ _⟩

end Go.Proofs.Yteifhbkhjkmhfaa
