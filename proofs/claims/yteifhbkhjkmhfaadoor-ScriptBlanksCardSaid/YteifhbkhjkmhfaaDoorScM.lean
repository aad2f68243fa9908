/-
  The law of a script's parse: the guard against sleep; the law itself.
-/
import Derived.Test.YteifhbkhjkmhfaaDoorScL
namespace Go.Proofs.YteifhbkhjkmhfaaDoor
open Go.RowKit Go.Shelf Go.Sort
set_option linter.unusedSimpArgs false
set_option linter.unusedVariables false

theorem parseFrom_len (ls : List (List UInt8)) : ∀ k out, (parseFrom k out ls).1.length ≤ out.length + ls.length := by
  induction ls with
  | nil => intro k out; simp [parseFrom]
  | cons l ls ih =>
    intro k out
    unfold parseFrom
    split
    · have := ih (k + 1) out; simp; omega
    · split
      · have := ih (k + 1) (out ++ [(lineL (wordsL l)).1]); simp at this ⊢; omega
      · simp

def awakeB : ByteArray := ⟨#[51, 32, 114, 108, 111, 99, 107, 10, 48]⟩
theorem awake_parse : parseFrom 0 [] (seen awakeB.data.toList) = ([⟨3, 1⟩, ⟨0, 0⟩], 0, 0) := by decide +kernel

theorem _root_.Go.RowKit.Below.drewN' {B : Nat} {a w : World} (h : Below B a w) (n : Nat) : Below B a (w.drewN n) := ⟨h.os, h.tape, h.output, h.size, h.block⟩

theorem built_two (w : World) (a b c d : Int) (fr : Nat × Nat) : PicksAt (w.alloc (.cells #[.int .i64 a, .int .i64 b, .int .i64 c, .int .i64 d] 47 fr)) (.slice (some ⟨w.heap.size, 0, none⟩) 2 2) [⟨a, b⟩, ⟨c, d⟩] := by
  have h := heap_alloc_new w (.cells #[.int .i64 a, .int .i64 b, .int .i64 c, .int .i64 d] 47 fr)
  refine ⟨_, 2, rfl, fun j hj => ⟨w.heap.size, rfl, ?_⟩⟩
  have h2 : j = 0 ∨ j = 1 := by simp at hj; omega
  generalize w.alloc (.cells #[.int .i64 a, .int .i64 b, .int .i64 c, .int .i64 d] 47 fr) = W at *
  generalize w.heap.size = g at *
  rcases h2 with rfl | rfl <;> constructor <;> (unfold World.cell?; dsimp only; rw [h]; rfl)

set_option maxRecDepth 100000 in
set_option maxHeartbeats 2000000 in
theorem awake_any (w : World) (hg : Glob w) : Calls Tryd.prog 10 #[] w fun e w' => e = .returned (.bool true) ∧ Below w.heap.size w w' := by
  have hp := parse_any awakeB w (by decide) hg
  rw [awake_parse] at hp
  have HP := Lib.hid hp
  clear hp
  go_enter Tryd.func10, Tryd.ntmps10
  go_wp2_with (first
    | (go_at_call 11; refine (HP.out).mono ?_; rintro e w1 ⟨v1, rfl, hp0, hb1⟩; have hp1 := picks_of_row hp0; clear hp0; have HP1 := Lib.hid hp1; have HB1 := Lib.hid hb1; clear hp1 hb1)
    | (go_at_call 13; refine (same_any _ _ _ _ _ (HP1.out.below ((Below.refl _ _).alloc (Nat.le_refl _) _)) (built_two w1 3 1 0 0 _) (by decide) (by decide)).mono ?_; rintro e w2 ⟨rfl, m, rfl⟩)
    | go_in)
  go_ret
  exact ⟨rfl, (HB1.out.alloc HB1.out.size _).drewN' m⟩

theorem seen_len (l : List UInt8) : (seen l).length ≤ l.length + 1 := by
  have h1 := pcs_len 10 (Lib.trimSuffix l [10])
  have h2 : (Lib.trimSuffix l [10]).length ≤ l.length := by
    unfold Lib.trimSuffix
    split
    · simp
    · exact Nat.le_refl _
  unfold seen
  omega

set_option maxRecDepth 100000 in
set_option maxHeartbeats 2000000 in
/-- The law: true. -/
theorem scriptParses_any (s : ByteArray) (w : World) (hg : Glob w) : Calls Tryd.prog 3 #[.string s] w fun e w' => e = .returned (.bool true) ∧ Below w.heap.size w w' := by
  have hA := fun W (h : Below w.heap.size w W) => awake_any W (hg.below h)
  have HA := Lib.hid hA
  clear hA
  have hsz : s.data.toList.length = s.size := (Lib.size_eq s).symm
  by_cases h2000 : s.size > 2000
  · go_enter Tryd.func3, Tryd.ntmps3
    go_wp2_with (first
      | (go_at_call 10; refine (HA.out _ (Below.refl _ _)).mono ?_; rintro e w1 ⟨rfl, hb1⟩; have HB1 := Lib.hid hb1; clear hb1)
      | go_in)
    go_ret
    exact ⟨rfl, HB1.out⟩
  · have hp := parse_any s w (by omega) hg
    have hl1 := parseFrom_len (seen s.data.toList) 0 []
    have hl2 := seen_len s.data.toList
    rw [seen_lines] at hp hl1
    have hr := fun W => refparse_any s W (by omega)
    obtain ⟨⟨L, at_, e⟩, hR⟩ : ∃ R, R = parseFrom 0 [] (linesL s.data.toList) := ⟨_, rfl⟩
    rw [← hR] at hp hr hl1
    have hL : L.length ≤ 1000000 := by simp at hl1; omega
    have HP := Lib.hid hp
    have HRr := Lib.hid hr
    clear hp hr hl1 hl2 hR
    go_enter Tryd.func3, Tryd.ntmps3
    go_wp2_with (first
      | (go_at_call 11; refine (HP.out).mono ?_; rintro e' w1 ⟨v1, rfl, hp0, hb1⟩; have hp1 := picks_of_row hp0; clear hp0; have HP1 := Lib.hid hp1; have HB1 := Lib.hid hb1; clear hp1 hb1)
      | (go_at_call 12; refine (HRr.out _).mono ?_; rintro e' w2 ⟨v2, rfl, hp2, hb2⟩; have HP2 := Lib.hid hp2; have HB2 := Lib.hid hb2; clear hp2 hb2)
      | (go_at_call 13; refine (same_any _ _ _ _ _ (HP1.out.below HB2.out) HP2.out hL hL).mono ?_; rintro e' w3 ⟨rfl, m, rfl⟩; simp only [decide_true])
      | (go_at_call 10; refine (HA.out _ ((HB1.out.trans (HB2.out.mono HB1.out.size)).drewN' m)).mono ?_; rintro e' w4 ⟨rfl, hb4⟩; have HB4 := Lib.hid hb4; clear hb4)
      | go_in)
    go_ret
    exact ⟨rfl, ((HB1.out.trans (HB2.out.mono HB1.out.size)).drewN' m).trans (HB4.out.mono ((HB1.out.trans (HB2.out.mono HB1.out.size)).drewN' m).size)⟩

end Go.Proofs.YteifhbkhjkmhfaaDoor
