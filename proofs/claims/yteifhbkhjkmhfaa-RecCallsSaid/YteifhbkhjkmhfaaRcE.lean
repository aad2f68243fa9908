/-
  How the rows that the calls own are read.
-/
import Derived.Test.YteifhbkhjkmhfaaRcD
namespace Go.Proofs.Yteifhbkhjkmhfaa
open Go.RowKit
set_option linter.unusedSimpArgs false
set_option linter.unusedVariables false

theorem own_ints {w : World} {B : Nat} {v : Value} {l : List Int} (h : w.ownsRow B 3 1 v l.length (intsV l)) : IntsAt w v l := by
  have h0 := h
  obtain ⟨_, ⟨rfl, hl⟩ | ⟨g, cap, cur, rfl, _⟩⟩ := h
  · exact .inl ⟨rfl, List.eq_nil_of_length_eq_zero hl⟩
  · refine .inr ⟨g, cap, rfl, fun j hj => ?_⟩
    rw [h0.cellAt j (by omega)]
    simp [intsV, hj]

theorem own_nats {w : World} {B : Nat} {v : Value} {l : List Nat} (h : w.ownsRow B 3 1 v l.length (natsV l)) :
    ∃ oo cap, v = .slice oo l.length cap ∧ ∀ j, j < l.length → ∃ g, oo = some ⟨g, 0, none⟩ ∧ w.cell? ⟨g, j, none⟩ = some (.int .i64 ((l.getD j 0 : Nat) : Int)) := by
  have h0 := h
  obtain ⟨_, ⟨rfl, hl⟩ | ⟨g, cap, cur, rfl, _⟩⟩ := h
  · exact ⟨none, 0, by rw [hl], fun j hj => by omega⟩
  · refine ⟨_, cap, rfl, fun j hj => ⟨g, rfl, ?_⟩⟩
    rw [h0.cellAt j (by omega)]
    simp [natsV, hj]

theorem RInv.cals {w : World} {B : Nat} {v : Ky → Value} {L : List Cal} {O : Int → List Nat} (h : RInv w B v L O) : CalsAt w (v .out) L := by
  have h0 : w.ownsRow B 52 6 (v .out) L.length (outCells L fun j => v (.pts j)) := h.rows.own .out
  have h1 := h0
  generalize v .out = vo at h0 h1
  obtain ⟨_, ⟨rfl, hl⟩ | ⟨g, cap, cur, rfl, _⟩⟩ := h0
  · exact .inl ⟨rfl, List.eq_nil_of_length_eq_zero hl⟩
  · refine .inr ⟨g, cap, rfl, fun j hj => ?_⟩
    have hc : ∀ c, c < 6 → w.cell? ⟨g, j * 6 + c, none⟩ = (calCells (L.getD j Cal.zero) (v (.pts j)))[c]? := fun c hc => by
      rw [h1.cellAt _ (by omega), outCells_at L _ j c hj hc]
    have hp : w.ownsRow B 3 1 (v (.pts j)) (L.getD j Cal.zero).pts.length (intsV (L.getD j Cal.zero).pts) := h.rows.own (.pts j)
    have hi := own_ints hp
    have hf : ∃ oa m cap, v (.pts j) = .slice oa m cap := by
      obtain ⟨_, ⟨e, _⟩ | ⟨g', cap', _, e, _⟩⟩ := hp
      · exact ⟨_, _, _, e⟩
      · exact ⟨_, _, _, e⟩
    obtain ⟨oa, m, cp, e⟩ := hf
    rw [e] at hc hi
    exact ⟨hc 0 (by omega), hc 1 (by omega), hc 2 (by omega), hc 3 (by omega), hc 4 (by omega), oa, m, cp, hc 5 (by omega), hi⟩

end Go.Proofs.Yteifhbkhjkmhfaa
