/-
  The walk of the law: whatever notes a rule takes, who writes is alone.
-/
import Derived.Test.YteifhbkhjkmhfaaRuP
import Derived.Deep.Slices
import Derived.Deep.Fields
namespace Go.Proofs.Yteifhbkhjkmhfaa
open Go.RowKit
set_option linter.unusedSimpArgs false
set_option linter.unusedVariables false

/-- Of the first k tasks a write and r read, where who writes is alone. -/
def Cnt (R : Rul) (k : Nat) (a r : Nat) : Prop :=
  r ≤ k ∧ ((a = 0 ∧ (∀ j, j < k → (R.t j).hold ≠ 2) ∧ ((∀ j, j < k → (R.t j).hold = 0) → r = 0)) ∨ (a = 1 ∧ r = 0 ∧ ∃ i, i < k ∧ (R.t i).hold = 2))

theorem Cnt.zero (R : Rul) : Cnt R 0 0 0 := ⟨Nat.le_refl _, .inl ⟨rfl, fun j h => by omega, fun _ => rfl⟩⟩
theorem Cnt.two {R : Rul} {k a r : Nat} (hE : R.Excl) (hk : k < R.l.length) (h : Cnt R k a r) (h2 : (R.t k).hold = 2) : Cnt R (k + 1) (a + 1) r := by
  obtain ⟨hr, ⟨rfl, hn, hz⟩ | ⟨rfl, rfl, i, hi, hi2⟩⟩ := h
  · have : r = 0 := hz fun j hj => hE k j hk (by omega) (by omega) h2
    exact ⟨by omega, .inr ⟨rfl, this, k, by omega, h2⟩⟩
  · have := hE i k (by omega) hk (by omega) hi2
    omega
theorem Cnt.one {R : Rul} {k a r : Nat} (hE : R.Excl) (hk : k < R.l.length) (h : Cnt R k a r) (h1 : (R.t k).hold = 1) : Cnt R (k + 1) a (r + 1) := by
  obtain ⟨hr, ⟨rfl, hn, hz⟩ | ⟨rfl, rfl, i, hi, hi2⟩⟩ := h
  · refine ⟨by omega, .inl ⟨rfl, fun j hj => ?_, fun hz' => ?_⟩⟩
    · by_cases e : j = k
      · subst e; omega
      · exact hn j (by omega)
    · have := hz' k (by omega); omega
  · have := hE i k (by omega) hk (by omega) hi2
    omega
theorem Cnt.other {R : Rul} {k a r : Nat} (h : Cnt R k a r) (h2 : (R.t k).hold ≠ 2) : Cnt R (k + 1) a r := by
  obtain ⟨hr, ⟨rfl, hn, hz⟩ | ⟨rfl, rfl, i, hi, hi2⟩⟩ := h
  · refine ⟨by omega, .inl ⟨rfl, fun j hj => ?_, fun hz' => hz fun j hj => hz' j (by omega)⟩⟩
    by_cases e : j = k
    · subst e; exact h2
    · exact hn j (by omega)
  · exact ⟨by omega, .inr ⟨rfl, rfl, i, by omega, hi2⟩⟩
theorem Cnt.ok {R : Rul} {k a r : Nat} (h : Cnt R k a r) : a = 0 ∨ (a = 1 ∧ r = 0) := by
  obtain ⟨hr, ⟨rfl, _⟩ | ⟨rfl, rfl, _⟩⟩ := h
  · exact .inl rfl
  · exact .inr ⟨rfl, rfl⟩

theorem newR_excl (k : Int) (n : Nat) : (newR k n).Excl := by
  intro i j hi hj hij h2
  unfold newR Rul.t at h2
  simp only [List.getD_eq_getElem?_getD, List.getElem?_replicate] at h2
  split at h2
  · simp [Tsk.zero] at h2
  · simp [Tsk.zero] at h2

theorem add_block (a : Addr) (n : Nat) : (a.add n).block = a.block := by
  unfold Addr.add
  split <;> rfl

/-- What the law's rule is, at any time. -/
def RuleOk (w : World) (b c : Nat) (kd : Int) (m : Nat) (R : Rul) : Prop := RuleAt w b c R ∧ R.kind = kd ∧ R.l.length = m ∧ R.Excl

set_option maxHeartbeats 4000000 in
theorem excl_no (k n : Int) (oa : Option Addr) (len cap : Nat) (w : World) (h : (kindS k).toList.isEmpty = true ∨ n < 1 ∨ 64 < n) :
    Calls Try.prog 3 #[.int .i64 k, .int .i64 n, .slice oa len cap] w fun e w' => e = .returned (.bool true) ∧ Below w.heap.size w w' := by
  go_enter Try.func3, Try.ntmps3
  go_wp2_with fail
  refine (New_no k n _ h).mono ?_
  rintro e w1 ⟨⟨c, hc, rfl⟩, hb1⟩
  have HB1 := Lib.hid hb1
  have hs1 := hb1.size; clear hb1
  have hc' : (c != 0) = true := by simpa using hc
  go_wp2_with fail
  refine (awake_any _).mono ?_
  rintro e w2 ⟨rfl, hb2⟩
  have HB2 := Lib.hid hb2; clear hb2
  go_wp2_with fail
  go_ret
  exact ⟨rfl, HB1.out.trans (HB2.out.mono hs1)⟩

set_option maxHeartbeats 4000000 in
theorem excl_long (k : Int) (m : Nat) (oa : Option Addr) (len cap : Nat) (w : World) (hk : (kindS k).toList.isEmpty = false) (h1 : 1 ≤ m) (h2 : m ≤ 64) (hl : 300 < len) :
    Calls Try.prog 3 #[.int .i64 k, .int .i64 m, .slice oa len cap] w fun e w' => e = .returned (.bool true) ∧ Below w.heap.size w w' := by
  go_enter Try.func3, Try.ntmps3
  go_wp2_with fail
  refine (New_yes k m _ hk h1 h2).mono ?_
  rintro e w1 ⟨⟨b, c, hbw, hcw, rfl, hR⟩, hb1⟩
  have HB1 := Lib.hid hb1
  have hs1 := hb1.size; clear hb1
  clear hR
  have hl' : (300 : Int) < len := by omega
  go_wp2_with fail
  refine (awake_any _).mono ?_
  rintro e w2 ⟨rfl, hb2⟩
  have HB2 := Lib.hid hb2; clear hb2
  go_wp2_with fail
  go_ret
  exact ⟨rfl, HB1.out.trans (HB2.out.mono hs1)⟩

set_option maxHeartbeats 8000000 in
theorem excl_yes (k : Int) (m : Nat) (oa : Option Addr) (len cap : Nat) (nt : Nat → Nat → Int) (w : World) (hk : (kindS k).toList.isEmpty = false) (h1 : 1 ≤ m) (h2 : m ≤ 64) (hl : len ≤ 300)
    (hc : ∀ i, i < len → ∃ a, oa = some a ∧ ∀ j, j < 4 → w.cell? (a.add (i * 4 + j)) = some (.int .i64 (nt i j))) :
    Calls Try.prog 3 #[.int .i64 k, .int .i64 m, .slice oa len cap] w fun e w' => e = .returned (.bool true) ∧ Below w.heap.size w w' := by
  have HC := Lib.hid hc; clear hc
  have hkk := kindS_is hk
  go_enter Try.func3, Try.ntmps3
  go_wp2_with fail
  refine (New_yes k m _ hk h1 h2).mono ?_
  rintro e w1 ⟨⟨b, c, hbw, hcw, rfl, hR⟩, hb1⟩
  have HB1 := Lib.hid hb1; clear hb1
  have HR1 := Lib.hid hR; clear hR
  have hl' : ¬ (300 : Int) < len := by omega
  have hlen : (newR k m).l.length = m := by simp [newR]
  go_wp2_with fail
  go_loopw [9] (fun i wr => ∃ q : Nat, q ≤ len ∧ i = .int .i64 q ∧ (∃ R, RuleOk wr b c k m R) ∧ Below w.heap.size w wr) (fun i _ => len - (intOf i).toNat)
  case atStart => exact ⟨0, Nat.zero_le _, rfl, ⟨_, HR1.out, rfl, hlen, newR_excl k m⟩, HB1.out⟩
  case round =>
    obtain ⟨q, hq, rfl, ⟨R, hRO⟩, hB⟩ := hrel
    have HRO := Lib.hid hRO; clear hRO
    have HB := Lib.hid hB; clear hB
    have hBs := HB.out.size
    by_cases hlt : q < len
    · obtain ⟨a, rfl, hcl⟩ := HC.out q hlt
      have ha : ∀ n, (a.add n).block < w.heap.size := fun n => by
        rw [add_block]
        have := World.block_lt_of_cell? w _ (hcl 0 (by omega))
        rwa [add_block] at this
      have c0 : wr.cell? (a.add (q * 4)) = some (.int .i64 (nt q 0)) := (HB.out.cell (p := a.add (q * 4)) (ha _)).trans (hcl 0 (by omega))
      have c1' : wr.cell? ((a.add (q * 4)).add 1) = some (.int .i64 (nt q 1)) := by rw [Go.Deep.add_add]; exact (HB.out.cell (p := a.add (q * 4 + 1)) (ha _)).trans (hcl 1 (by omega))
      have c2' : wr.cell? ((a.add (q * 4)).add 2) = some (.int .i64 (nt q 2)) := by rw [Go.Deep.add_add]; exact (HB.out.cell (p := a.add (q * 4 + 2)) (ha _)).trans (hcl 2 (by omega))
      have c3' : wr.cell? ((a.add (q * 4)).add 3) = some (.int .i64 (nt q 3)) := by rw [Go.Deep.add_add]; exact (HB.out.cell (p := a.add (q * 4 + 3)) (ha _)).trans (hcl 3 (by omega))
      have c1 : wr.cell? { block := (a.add (q * 4)).block, off := (a.add (q * 4)).off + 1 } = some (.int .i64 (nt q 1)) := c1'
      have c2 : wr.cell? { block := (a.add (q * 4)).block, off := (a.add (q * 4)).off + 2 } = some (.int .i64 (nt q 2)) := c2'
      have c3 : wr.cell? { block := (a.add (q * 4)).block, off := (a.add (q * 4)).off + 3 } = some (.int .i64 (nt q 3)) := c3'
      clear hcl c1' c2' c3'
      go_wp2_with fail
      refine (take_full w.heap.size b c (nt q 0) (nt q 1) (nt q 2) (nt q 3) R _ HRO.out.1 hbw hcw (by rw [HRO.out.2.1]; exact hkk)).mono ?_
      rintro e w2 ⟨code, R', ⟨rfl, hR', hk2⟩, hst⟩
      have HR2 : Hid (RuleOk w2 b c k m R') := ⟨hR', hst.1.trans HRO.out.2.1, hst.2.1.trans HRO.out.2.2.1, hst.2.2 HRO.out.2.2.2⟩
      have HB2 := Lib.hid (HB.out.trans hk2.below)
      clear hR' hst hk2
      go_wp2_with fail
      go_loopw [10, 11, 12] (fun a1 r1 j wx => ∃ x a0 r0 : Nat, x ≤ m ∧ a1 = .int .i64 a0 ∧ r1 = .int .i64 r0 ∧ j = .int .i64 x ∧ Cnt R' x a0 r0 ∧ RuleOk wx b c k m R' ∧ Below w.heap.size w wx) (fun _ _ j _ => m - (intOf j).toNat)
      case atStart => exact ⟨0, 0, 0, Nat.zero_le _, rfl, rfl, rfl, Cnt.zero _, HR2.out, HB2.out⟩
      case round =>
        obtain ⟨x, a0, r0, hx, rfl, rfl, rfl, hcnt, hRx, hBx⟩ := hrel
        have HCN := Lib.hid hcnt; clear hcnt
        have HRX := Lib.hid hRx; clear hRx
        have hBxs := hBx.size
        have HBX := Lib.hid hBx; clear hBx
        have hlen' := HRX.out.2.2.1
        by_cases hxm : x < m
        · have hxl : x < R'.l.length := by omega
          have ha0 : a0 ≤ 1 := by have := HCN.out.ok; omega
          have hr0 : r0 ≤ x := HCN.out.1
          generalize hv : (R'.t x).hold = v
          go_wp2_with fail
          refine (Hold_any b c x R' _ HRX.out.1 hxl).mono ?_
          rintro e w3 ⟨rfl, hb3⟩
          rw [hv]
          have HR3 := Lib.hid (HRX.out.1.below hb3)
          have hs3 := hb3.size
          have HB3 := Lib.hid (HBX.out.trans (hb3.mono hBxs)); clear hb3
          have HV := Lib.hid hv; clear hv
          by_cases hv2 : v = 2
          · subst hv2
            go_wp2_with fail
            refine (Hold_any b c x R' _ HR3.out hxl).mono ?_
            rintro e w4 ⟨rfl, hb4⟩
            rw [HV.out]
            have HR4 := Lib.hid (HR3.out.below hb4)
            have HB4 := Lib.hid (HB3.out.trans (hb4.mono (Nat.le_trans hBxs hs3))); clear hb4
            go_wp2_with fail
            go_roundw
            case rel => exact ⟨x + 1, a0 + 1, r0, by omega, by go_num, rfl, by go_num, HCN.out.two HRX.out.2.2.2 hxl HV.out, ⟨HR4.out, HRX.out.2⟩, HB4.out⟩
            case measure => simp [intOf]; omega
          · by_cases hv1 : v = 1
            · subst hv1
              go_wp2_with fail
              refine (Hold_any b c x R' _ HR3.out hxl).mono ?_
              rintro e w4 ⟨rfl, hb4⟩
              rw [HV.out]
              have HR4 := Lib.hid (HR3.out.below hb4)
              have HB4 := Lib.hid (HB3.out.trans (hb4.mono (Nat.le_trans hBxs hs3))); clear hb4
              go_wp2_with fail
              go_roundw
              case rel => exact ⟨x + 1, a0, r0 + 1, by omega, rfl, by go_num, by go_num, HCN.out.one HRX.out.2.2.2 hxl HV.out, ⟨HR4.out, HRX.out.2⟩, HB4.out⟩
              case measure => simp [intOf]; omega
            · go_wp2_with fail
              refine (Hold_any b c x R' _ HR3.out hxl).mono ?_
              rintro e w4 ⟨rfl, hb4⟩
              rw [HV.out]
              have HR4 := Lib.hid (HR3.out.below hb4)
              have HB4 := Lib.hid (HB3.out.trans (hb4.mono (Nat.le_trans hBxs hs3))); clear hb4
              go_wp2_with fail
              go_roundw
              case rel => exact ⟨x + 1, a0, r0, by omega, rfl, rfl, by go_num, HCN.out.other (by rw [HV.out]; exact hv2), ⟨HR4.out, HRX.out.2⟩, HB4.out⟩
              case measure => simp [intOf]; omega
        · rcases HCN.out.ok with rfl | ⟨rfl, rfl⟩
          all_goals
            go_wp2_with fail
            go_roundw
            case rel => exact ⟨q + 1, by omega, by go_num, ⟨_, HRX.out⟩, HBX.out⟩
            case measure => simp [intOf]; omega
    · go_wp2_with fail
      refine (awake_any _).mono ?_
      rintro e w2 ⟨rfl, hb2⟩
      have HB2 := Lib.hid hb2; clear hb2
      go_wp2_with fail
      go_ret
      exact ⟨rfl, HB.out.trans (HB2.out.mono hBs)⟩

end Go.Proofs.Yteifhbkhjkmhfaa
