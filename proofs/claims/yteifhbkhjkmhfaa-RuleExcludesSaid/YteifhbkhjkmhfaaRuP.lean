/-
  The walk of the law's awake side: a rule is made, six notes are taken, and what is known then is as it must be.
-/
import Derived.Test.YteifhbkhjkmhfaaRuO
namespace Go.Proofs.Yteifhbkhjkmhfaa
open Go.RowKit
set_option linter.unusedSimpArgs false
set_option linter.unusedVariables false

theorem Blk.kp {w w' : World} {b c B g : Nat} {t : TypeId} {cs : Array Value} (h : Blk w g t cs) (k : Kp b c B w w') (hb : g ≠ b) (hc : g ≠ c) : Blk w' g t cs := (k.other g h.lt hb hc).trans h

def awR0 : Rul := newR 5 2
def awR1 : Rul := awR0.set 0 { awR0.t 0 with op := 1 }
def awR2 : Rul := awR1.reg 0 1
def awR3 : Rul := awR2.set 0 { awR2.t 0 with hold := (awR2.t 0).req, req := 0 }
def awR4 : Rul := awR3.set 0 { awR3.t 0 with op := 0, refused := false }
def awR5 : Rul := awR4.set 1 { awR4.t 1 with op := 6 }
def awR6 : Rul := awR5.set 1 { awR5.t 1 with refused := true }
def awR : Nat → Rul
  | 0 => awR0
  | 1 => awR1
  | 2 => awR2
  | 3 => awR3
  | 4 => awR4
  | 5 => awR5
  | _ => awR6

def awRow : Array Value := #[.int .i64 0, .int .i64 1, .int .i64 1, .int .i64 0, .int .i64 0, .int .i64 2, .int .i64 0, .int .i64 1, .int .i64 0, .int .i64 4, .int .i64 0, .int .i64 0, .int .i64 0, .int .i64 11, .int .i64 1, .int .i64 2, .int .i64 1, .int .i64 1, .int .i64 6, .int .i64 0, .int .i64 1, .int .i64 5, .int .i64 0, .int .i64 0]

theorem aw0 (B b c : Nat) (w : World) (hR : RuleAt w b c awR0) (hBb : B ≤ b) (hBc : B ≤ c) :
    Calls Try.prog 7 #[.pointer (some ⟨b, 0, none⟩), .agg #[.int .i64 0, .int .i64 1, .int .i64 1, .int .i64 0]] w (TakeEnd b c B w 0 awR1) := by
  have hok : ((awR0.t 0).op == 0) = true := by kernel_rfl
  have h := take1 B b c 0 1 0 awR0 w hR (by decide) hBb hBc (by kernel_rfl)
  rw [hok] at h
  exact h
theorem aw1 (B b c : Nat) (w : World) (hR : RuleAt w b c awR1) (hBb : B ≤ b) (hBc : B ≤ c) :
    Calls Try.prog 7 #[.pointer (some ⟨b, 0, none⟩), .agg #[.int .i64 0, .int .i64 2, .int .i64 0, .int .i64 1]] w (TakeEnd b c B w 0 awR2) := by
  have hok : (awR1.regB1 0) = true := by kernel_rfl
  have h := take2r B b c 0 0 awR1 w hR (by decide) hBb hBc (by unfold IsKind; decide) (by kernel_rfl)
  rw [hok] at h
  exact h
theorem aw2 (B b c : Nat) (w : World) (hR : RuleAt w b c awR2) (hBb : B ≤ b) (hBc : B ≤ c) :
    Calls Try.prog 7 #[.pointer (some ⟨b, 0, none⟩), .agg #[.int .i64 0, .int .i64 4, .int .i64 0, .int .i64 0]] w (TakeEnd b c B w 0 awR3) := by
  have hok : (awR2.admitB 0) = true := by kernel_rfl
  have h := take4 B b c 0 0 0 awR2 w hR (by decide) hBb hBc (by unfold IsKind; decide) (by kernel_rfl)
  rw [hok] at h
  exact h
theorem aw3 (B b c : Nat) (w : World) (hR : RuleAt w b c awR3) (hBb : B ≤ b) (hBc : B ≤ c) :
    Calls Try.prog 7 #[.pointer (some ⟨b, 0, none⟩), .agg #[.int .i64 0, .int .i64 11, .int .i64 1, .int .i64 2]] w (TakeEnd b c B w 0 awR4) := by
  have hok : (awR3.retB 0 1 2) = true := by kernel_rfl
  have h := take11_2 B b c 0 1 awR3 w hR (by decide) hBb hBc (by unfold IsKind; decide) (by kernel_rfl)
  rw [hok] at h
  exact h
theorem aw4 (B b c : Nat) (w : World) (hR : RuleAt w b c awR4) (hBb : B ≤ b) (hBc : B ≤ c) :
    Calls Try.prog 7 #[.pointer (some ⟨b, 0, none⟩), .agg #[.int .i64 1, .int .i64 1, .int .i64 6, .int .i64 0]] w (TakeEnd b c B w 0 awR5) := by
  have hok : ((awR4.t 1).op == 0) = true := by kernel_rfl
  have h := take1 B b c 1 6 0 awR4 w hR (by decide) hBb hBc (by kernel_rfl)
  rw [hok] at h
  exact h
theorem aw5 (B b c : Nat) (w : World) (hR : RuleAt w b c awR5) (hBb : B ≤ b) (hBc : B ≤ c) :
    Calls Try.prog 7 #[.pointer (some ⟨b, 0, none⟩), .agg #[.int .i64 1, .int .i64 5, .int .i64 0, .int .i64 0]] w (TakeEnd b c B w 0 awR6) := by
  have hok : (awR5.refuseB 1) = true := by kernel_rfl
  have h := take5 B b c 1 0 0 awR5 w hR (by decide) hBb hBc (by unfold IsKind; decide) (by kernel_rfl)
  rw [hok] at h
  exact h

set_option maxHeartbeats 4000000 in
theorem awake_any (w : World) : Calls Try.prog 6 #[] w fun e w' => e = .returned (.bool true) ∧ Below w.heap.size w w' := by
  go_enter Try.func6, Try.ntmps6
  go_wp2_with fail
  refine (New_yes 5 2 _ (by kernel_rfl) (by omega) (by omega)).mono ?_
  rintro e w1 ⟨⟨b, c, hbw, hcw, rfl, hR⟩, hb1⟩
  have hbl := hR.head.lt
  have hcl := hR.body.lt
  have hws := hb1.size
  have HR := Lib.hid hR; clear hR
  have HB1 := Lib.hid hb1; clear hb1
  have hlt1 : ∀ x, x < w1.heap.size → ¬ (x = w1.heap.size) := fun x h => by omega
  go_wp2_with fail
  go_loopw [19] (fun i wr => ∃ k : Nat, k ≤ 6 ∧ i = .int .i64 k ∧ RuleAt wr b c (awR k) ∧ Blk wr w1.heap.size 30 awRow ∧ Below w.heap.size w wr) (fun i _ => 6 - (intOf i).toNat)
  case atStart => exact ⟨0, Nat.zero_le _, rfl, HR.out.alloc _, Blk.new w1 30 awRow, HB1.out.alloc hws _⟩
  case round =>
    obtain ⟨k, hk, rfl, hR, hG, hB⟩ := hrel
    have hG' := hG.lt
    have hfz := hG.frozen
    have HR2 := Lib.hid hR; clear hR
    have HG := Lib.hid hG; clear hG
    have HB := Lib.hid hB
    have hBs := hB.size
    clear hB
    have hne1 : w1.heap.size ≠ b := by omega
    have hne2 : w1.heap.size ≠ c := by omega
    by_cases hlt : k < 6
    · have h6 : k = 0 ∨ k = 1 ∨ k = 2 ∨ k = 3 ∨ k = 4 ∨ k = 5 := by omega
      rcases h6 with rfl | rfl | rfl | rfl | rfl | rfl
      · have c0 : wr.cell? ⟨w1.heap.size, 0, none⟩ = some (.int .i64 0) := HG.out.cell 0
        have c1 : wr.cell? ⟨w1.heap.size, 1, none⟩ = some (.int .i64 1) := HG.out.cell 1
        have c2 : wr.cell? ⟨w1.heap.size, 2, none⟩ = some (.int .i64 1) := HG.out.cell 2
        have c3 : wr.cell? ⟨w1.heap.size, 3, none⟩ = some (.int .i64 0) := HG.out.cell 3
        go_wp2_with fail
        refine (aw0 w.heap.size b c _ (HR2.out.alloc _) hbw hcw).mono ?_
        rintro e w2 ⟨rfl, hR2, hk2⟩
        have HR3 := Lib.hid hR2; clear hR2
        have HK2 := Lib.hid hk2; clear hk2
        go_wp2_with fail
        go_roundw
        case rel => exact ⟨1, by omega, by go_num, HR3.out, (HG.out.alloc _).kp HK2.out hne1 hne2, (HB.out.alloc hBs _).trans HK2.out.below⟩
        case measure => simp [intOf]
      · have c0 : wr.cell? ⟨w1.heap.size, 4, none⟩ = some (.int .i64 0) := HG.out.cell 4
        have c1 : wr.cell? ⟨w1.heap.size, 5, none⟩ = some (.int .i64 2) := HG.out.cell 5
        have c2 : wr.cell? ⟨w1.heap.size, 6, none⟩ = some (.int .i64 0) := HG.out.cell 6
        have c3 : wr.cell? ⟨w1.heap.size, 7, none⟩ = some (.int .i64 1) := HG.out.cell 7
        go_wp2_with fail
        refine (aw1 w.heap.size b c _ (HR2.out.alloc _) hbw hcw).mono ?_
        rintro e w2 ⟨rfl, hR2, hk2⟩
        have HR3 := Lib.hid hR2; clear hR2
        have HK2 := Lib.hid hk2; clear hk2
        go_wp2_with fail
        go_roundw
        case rel => exact ⟨2, by omega, by go_num, HR3.out, (HG.out.alloc _).kp HK2.out hne1 hne2, (HB.out.alloc hBs _).trans HK2.out.below⟩
        case measure => simp [intOf]
      · have c0 : wr.cell? ⟨w1.heap.size, 8, none⟩ = some (.int .i64 0) := HG.out.cell 8
        have c1 : wr.cell? ⟨w1.heap.size, 9, none⟩ = some (.int .i64 4) := HG.out.cell 9
        have c2 : wr.cell? ⟨w1.heap.size, 10, none⟩ = some (.int .i64 0) := HG.out.cell 10
        have c3 : wr.cell? ⟨w1.heap.size, 11, none⟩ = some (.int .i64 0) := HG.out.cell 11
        go_wp2_with fail
        refine (aw2 w.heap.size b c _ (HR2.out.alloc _) hbw hcw).mono ?_
        rintro e w2 ⟨rfl, hR2, hk2⟩
        have HR3 := Lib.hid hR2; clear hR2
        have HK2 := Lib.hid hk2; clear hk2
        go_wp2_with fail
        go_roundw
        case rel => exact ⟨3, by omega, by go_num, HR3.out, (HG.out.alloc _).kp HK2.out hne1 hne2, (HB.out.alloc hBs _).trans HK2.out.below⟩
        case measure => simp [intOf]
      · have c0 : wr.cell? ⟨w1.heap.size, 12, none⟩ = some (.int .i64 0) := HG.out.cell 12
        have c1 : wr.cell? ⟨w1.heap.size, 13, none⟩ = some (.int .i64 11) := HG.out.cell 13
        have c2 : wr.cell? ⟨w1.heap.size, 14, none⟩ = some (.int .i64 1) := HG.out.cell 14
        have c3 : wr.cell? ⟨w1.heap.size, 15, none⟩ = some (.int .i64 2) := HG.out.cell 15
        go_wp2_with fail
        refine (aw3 w.heap.size b c _ (HR2.out.alloc _) hbw hcw).mono ?_
        rintro e w2 ⟨rfl, hR2, hk2⟩
        have HR3 := Lib.hid hR2; clear hR2
        have HK2 := Lib.hid hk2; clear hk2
        go_wp2_with fail
        go_roundw
        case rel => exact ⟨4, by omega, by go_num, HR3.out, (HG.out.alloc _).kp HK2.out hne1 hne2, (HB.out.alloc hBs _).trans HK2.out.below⟩
        case measure => simp [intOf]
      · have c0 : wr.cell? ⟨w1.heap.size, 16, none⟩ = some (.int .i64 1) := HG.out.cell 16
        have c1 : wr.cell? ⟨w1.heap.size, 17, none⟩ = some (.int .i64 1) := HG.out.cell 17
        have c2 : wr.cell? ⟨w1.heap.size, 18, none⟩ = some (.int .i64 6) := HG.out.cell 18
        have c3 : wr.cell? ⟨w1.heap.size, 19, none⟩ = some (.int .i64 0) := HG.out.cell 19
        go_wp2_with fail
        refine (aw4 w.heap.size b c _ (HR2.out.alloc _) hbw hcw).mono ?_
        rintro e w2 ⟨rfl, hR2, hk2⟩
        have HR3 := Lib.hid hR2; clear hR2
        have HK2 := Lib.hid hk2; clear hk2
        go_wp2_with fail
        go_roundw
        case rel => exact ⟨5, by omega, by go_num, HR3.out, (HG.out.alloc _).kp HK2.out hne1 hne2, (HB.out.alloc hBs _).trans HK2.out.below⟩
        case measure => simp [intOf]
      · have c0 : wr.cell? ⟨w1.heap.size, 20, none⟩ = some (.int .i64 1) := HG.out.cell 20
        have c1 : wr.cell? ⟨w1.heap.size, 21, none⟩ = some (.int .i64 5) := HG.out.cell 21
        have c2 : wr.cell? ⟨w1.heap.size, 22, none⟩ = some (.int .i64 0) := HG.out.cell 22
        have c3 : wr.cell? ⟨w1.heap.size, 23, none⟩ = some (.int .i64 0) := HG.out.cell 23
        go_wp2_with fail
        refine (aw5 w.heap.size b c _ (HR2.out.alloc _) hbw hcw).mono ?_
        rintro e w2 ⟨rfl, hR2, hk2⟩
        have HR3 := Lib.hid hR2; clear hR2
        have HK2 := Lib.hid hk2; clear hk2
        go_wp2_with fail
        go_roundw
        case rel => exact ⟨6, by omega, by go_num, HR3.out, (HG.out.alloc _).kp HK2.out hne1 hne2, (HB.out.alloc hBs _).trans HK2.out.below⟩
        case measure => simp [intOf]
    · have h6 : k = 6 := by omega
      subst h6
      go_wp2_with fail
      refine (Hold_any b c 0 awR6 _ HR2.out (by decide)).mono ?_
      rintro e w2 ⟨rfl, hb2⟩
      rw [show (awR6.t 0).hold = 1 from by kernel_rfl]
      have HR3 := Lib.hid (HR2.out.below hb2)
      have HB2 := Lib.hid hb2; clear hb2
      go_wp2_with fail
      refine (Within_any b c 1 awR6 _ HR3.out (by decide)).mono ?_
      rintro e w3 ⟨rfl, hb3⟩
      rw [show (awR6.t 1).op = 6 from by kernel_rfl]
      have HB3 := Lib.hid hb3; clear hb3
      go_wp2_with fail
      go_ret
      exact ⟨rfl, (HB.out.trans (HB2.out.mono hBs)).trans (HB3.out.mono (Nat.le_trans hBs HB2.out.size))⟩

end Go.Proofs.Yteifhbkhjkmhfaa
