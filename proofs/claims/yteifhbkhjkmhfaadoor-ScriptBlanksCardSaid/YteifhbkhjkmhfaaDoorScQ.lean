/-
  The walk of the law of blanks.
-/
import Derived.Test.YteifhbkhjkmhfaaDoorScR
namespace Go.Proofs.YteifhbkhjkmhfaaDoor
open Go.RowKit Go.Shelf Go.Sort
set_option linter.unusedSimpArgs false
set_option linter.unusedVariables false

theorem row_nil_form {W : World} {B e s : Nat} {v : Value} {xs : List Value} (h : W.ownsRow B e s v 0 xs) : ∃ oo cap, v = .slice oo 0 cap := by
  obtain ⟨oo, cap, hv, _⟩ := row_form h
  exact ⟨oo, cap, hv⟩

theorem parse_at_le : ∀ (ls : List (List UInt8)) (k : Nat) (out L : List Pk) (n : Nat) (e : Int), parseFrom k out ls = (L, n, e) → n ≤ k + ls.length := by
  intro ls
  induction ls with
  | nil =>
    intro k out L n e h
    simp only [parseFrom, Prod.mk.injEq] at h
    omega
  | cons l ls ih =>
    intro k out L n e h
    rw [parseFrom] at h
    rw [List.length_cons]
    split at h
    · have := ih _ _ _ _ _ h; omega
    · split at h
      · have := ih _ _ _ _ _ h; omega
      · simp only [Prod.mk.injEq] at h
        omega

set_option maxRecDepth 100000 in
set_option maxHeartbeats 2000000 in
theorem scriptBlanks_any (a b : ByteArray) (n : Int) (q : Nat) (hq : Int.tmod (wrap64 n) 5 = q) (hq4 : q ≤ 4) (w : World) (hg : Glob w) :
    Calls Tryd.prog 4 #[.string a, .string b, .int .u8 n] w fun e w' => e = .returned (.bool true) ∧ Below w.heap.size w w' := by
  have hA := fun W (h : Below w.heap.size w W) => awake_any W (hg.below h)
  have HA := Lib.hid hA
  clear hA
  have hsa : a.data.toList.length = a.size := (Lib.size_eq a).symm
  have hsb : b.data.toList.length = b.size := (Lib.size_eq b).symm
  by_cases h1000 : a.size > 1000
  · go_enter Tryd.func4, Tryd.ntmps4
    go_wp2_with (first
      | (go_at_call 10; refine (HA.out _ (Below.refl _ _)).mono ?_; rintro e w1 ⟨rfl, hb1⟩; have HB1 := Lib.hid hb1; clear hb1)
      | go_in)
    go_ret
    exact ⟨rfl, HB1.out⟩
  by_cases h1001 : b.size > 1000
  · go_enter Tryd.func4, Tryd.ntmps4
    go_wp2_with (first
      | (go_at_call 10; refine (HA.out _ (Below.refl _ _)).mono ?_; rintro e w1 ⟨rfl, hb1⟩; have HB1 := Lib.hid hb1; clear hb1)
      | go_in)
    go_ret
    exact ⟨rfl, HB1.out⟩
  have hp := parse_any a w (by omega) hg
  have hp2 := fun W (h : Below w.heap.size w W) => parse_any b W (by omega) (hg.below h)
  rw [seen_lines] at hp
  simp only [seen_lines] at hp2
  obtain ⟨⟨L, n0, e⟩, hR⟩ : ∃ R, R = parseFrom 0 [] (linesL a.data.toList) := ⟨_, rfl⟩
  obtain ⟨⟨M, at_, f⟩, hR2⟩ : ∃ R, R = parseFrom 0 [] (linesL b.data.toList) := ⟨_, rfl⟩
  have hL := parseFrom_len (linesL a.data.toList) 0 []
  have hM := parseFrom_len (linesL b.data.toList) 0 []
  have hl1 := linesL_len a.data.toList
  have hl2 := linesL_len b.data.toList
  rw [← hR] at hp hL
  simp only [← hR2] at hp2 hM
  have hL' : L.length ≤ 1001 := by simp at hL; omega
  have hM' : M.length ≤ 1001 := by simp at hM; omega
  clear hL hM hl1 hl2
  have HP := Lib.hid hp
  have HP2 := Lib.hid hp2
  clear hp hp2
  by_cases he : e = 0
  · subst he
    have hlaw := fun k => blanks_law (b := b.data.toList) k hR.symm hR2.symm
    have HLW := Lib.hid hlaw
    clear hlaw
    have hla := lines_ahead a.data.toList
    have hpl := pcs_len 10 a.data.toList
    have hat := parse_at_le _ _ _ _ _ _ hR2.symm
    have hl2 := linesL_len b.data.toList
    have hat' : at_ ≤ 1001 := by omega
    clear hat hl2
    obtain ⟨c0, hc0⟩ : ∃ c0, c0 = (pcs 10 a.data.toList).length := ⟨_, rfl⟩
    rw [← hc0] at hla hpl
    simp only [← hc0] at HLW
    have hli := fun W => lines_any (a ++ ⟨#[10]⟩) W (by rw [ByteArray.size_append]; show a.size + 1 ≤ _; omega)
    rw [show (a ++ (⟨#[10]⟩ : ByteArray)).data.toList = a.data.toList ++ [10] by simp] at hli
    have HLI := Lib.hid hli
    have HLA := Lib.hid hla
    have HGL := Lib.hid hg
    clear hli hla hR hR2 hc0 hg
    go_enter Tryd.func4, Tryd.ntmps4
    go_wp2_with (first
      | (go_at_call 11; refine (HP.out).mono ?_; rintro e' w1 ⟨v1, rfl, hp1, hb1⟩; have HO1 := Lib.hid hp1; have HB1 := Lib.hid hb1; clear hp1 hb1 HP)
      | (go_at_call 11; refine (HP2.out _ HB1.out).mono ?_; rintro e' w2 ⟨v2, rfl, hp2, hb2⟩; have HO2 := Lib.hid hp2; have HB2' := Lib.hid hb2; have HB2 := Lib.hid (HB1.out.trans (hb2.mono HB1.out.size)); clear hp2 hb2 HP2)
      | (go_at_call 14; refine (HLI.out _).mono ?_; rintro e' w3 ⟨v3, rfl, hp3, hb3⟩; obtain ⟨o3, c3, rfl, _⟩ := hp3; rw [HLA.out]; have HB3' := Lib.hid hb3; have HB3 := Lib.hid (HB2.out.trans (hb3.mono HB2.out.size)); clear hb3)
      | go_in)
    have hws3 := HB3.out.size
    go_loopw [13, 14, 15] (fun x13 x14 x15 wr => ∃ k : Nat, k ≤ q ∧ x13 = .string (bs (btw k)) ∧ x14 = .int .i64 ((c0 + k : Nat) : Int) ∧ x15 = .int .i64 k ∧ Hid (Below w3.heap.size w3 wr)) (fun _ _ x15 _ => q - (Go.RowKit.intOf x15).toNat)
    case atStart => exact ⟨0, Nat.zero_le _, rfl, rfl, rfl, Below.refl _ _⟩
    case round =>
      obtain ⟨k, hk, rfl, rfl, rfl, HB⟩ := hrel
      have hbl : (bs (btw k)).size ≤ 45 := by rw [bs_size]; have := btw_len k; omega
      by_cases hlt : k < q
      · have h4 : k = 0 ∨ k = 1 ∨ k = 2 ∨ k = 3 := by omega
        have hz : (bs (btw (k + 1))) = bs (btw k) ++ bs (fillP k ++ [10]) := ba_ext (by simp [btw, toList_bs])
        have hend : ∀ W, Below w3.heap.size w3 W → (∃ j : Nat, j ≤ q ∧ Value.string (bs (btw (k + 1))) = .string (bs (btw j)) ∧ Value.int .i64 ((c0 + k + 1 : Nat) : Int) = .int .i64 ((c0 + j : Nat) : Int) ∧ Value.int .i64 ((k : Int) + 1) = .int .i64 j ∧ Hid (Below w3.heap.size w3 W)) :=
          fun W hW => ⟨k + 1, by omega, rfl, rfl, by go_num, hW⟩
        have HE := Lib.hid hend
        have HZ := Lib.hid hz
        clear hend hz
        rcases h4 with rfl | rfl | rfl | rfl
        all_goals go_wp2_with fail
        · exact ⟨⟨1, by omega, by rw [HZ.out]; rfl, by go_num, by go_num, HB.out.alloc HB.out.size _⟩, by simp [Go.RowKit.intOf]; omega⟩
        · exact ⟨⟨2, by omega, by rw [HZ.out]; rfl, by go_num, by go_num, HB.out.alloc HB.out.size _⟩, by simp [Go.RowKit.intOf]; omega⟩
        · exact ⟨⟨3, by omega, by rw [HZ.out]; rfl, by go_num, by go_num, HB.out.alloc HB.out.size _⟩, by simp [Go.RowKit.intOf]; omega⟩
        · exact ⟨⟨4, by omega, by rw [HZ.out]; rfl, by go_num, by go_num, HB.out.alloc HB.out.size _⟩, by simp [Go.RowKit.intOf]; omega⟩
      · obtain rfl : k = q := by omega
        have hcat : (a ++ bs (btw k)).size ≤ 1100 := by rw [ByteArray.size_append]; omega
        have hBr := HB3.out.trans (HB.out.mono hws3)
        have hp3 := parse_any (a ++ bs (btw k) ++ b) wr (by rw [ByteArray.size_append]; omega) (HGL.out.below hBr)
        have hdl : (a ++ bs (btw k) ++ b).data.toList = a.data.toList ++ btw k ++ b.data.toList := by simp [toList_bs]
        rw [seen_lines, hdl, HLW.out k] at hp3
        have HBR := Lib.hid hBr
        clear hdl hBr
        by_cases hf : f = 0
        · subst hf
          rw [if_pos rfl] at hp3
          have HP3 := Lib.hid hp3
          clear hp3
          have HK1 := Lib.hid (keep (keep (keep HO1.out HB2'.out) HB3'.out) HB.out)
          have HK2 := Lib.hid (keep (keep HO2.out HB3'.out) HB.out)
          have HLW1 := Lib.hid (show w1.heap.size ≤ wr.heap.size from Nat.le_trans HB2'.out.size (Nat.le_trans HB3'.out.size HB.out.size))
          go_wp2_with (first
            | (go_at_call 11; refine (HP3.out).mono ?_; rintro e' w4 ⟨v4, rfl, hp4, hb4⟩; have HO4 := Lib.hid hp4; have HR1 := Lib.hid (keep HK1.out hb4); have HR2 := Lib.hid (keep HK2.out hb4); have HB4 := Lib.hid (HBR.out.trans (hb4.mono HBR.out.size)); clear hp4 hb4 HP3)
            | (at_builtin; refine wpList_append_rows (by simp [Region.wanted, yielded]) _ _ (by rfl) (by rfl) (v := v1) (v2 := v2) (by rfl) (by rfl) HR1.out HR2.out (by omega) HB4.out.size (pk_one M) ?_; intro v5 w5 hown5 hgrow5
               rw [pkCells_append, ← List.length_append] at hown5; have HO5 := Lib.hid hown5; have HQ4 := Lib.hid (HO4.out.kept hgrow5 (apart HO4.out HO1.out HLW1.out)); have HB5 := Lib.hid (HB4.out.grown hgrow5 HB4.out.size (fun j hj => (HR1.out.lt j hj).1)); clear hown5 hgrow5)
            | (go_at_call 13; refine (same_any _ _ _ _ _ (picks_of_row HQ4.out) (picks_of_row HO5.out) (by rw [List.length_append]; omega) (by rw [List.length_append]; omega)).mono ?_; rintro e' w6 ⟨rfl, m, rfl⟩; simp only [decide_true])
            | (go_at_call 10; refine (HA.out _ (HB5.out.drewN' m)).mono ?_; rintro e w7 ⟨rfl, hb7⟩; have HB7 := Lib.hid hb7; clear hb7)
            | go_in)
          go_ret
          exact ⟨rfl, (HB5.out.drewN' m).trans (HB7.out.mono (HB5.out.drewN' m).size)⟩
        · rw [if_neg hf] at hp3
          have hff : (f == 0) = false := by simp [hf]
          obtain ⟨kk, hkk⟩ : ∃ kk, kk = c0 + k + at_ := ⟨_, rfl⟩
          rw [← hkk] at hp3
          have hkI : (kk : Int) = (at_ : Int) + ((c0 : Int) + (k : Int)) := by omega
          have HP3 := Lib.hid hp3
          clear hp3 hf hkk
          go_wp2_with (first
            | (go_at_call 11; refine (HP3.out).mono ?_; rintro e' w4 ⟨v4, rfl, hp4, hb4⟩; obtain ⟨o4, c4, rfl⟩ := row_nil_form hp4; have HB4 := Lib.hid (HBR.out.trans (hb4.mono HBR.out.size)); clear hp4 hb4 HP3)
            | (go_at_call 10; refine (HA.out _ HB4.out).mono ?_; rintro e w5 ⟨rfl, hb5⟩; have HB5 := Lib.hid hb5; clear hb5)
            | go_in)
          go_ret
          exact ⟨rfl, HB4.out.trans (HB5.out.mono HB4.out.size)⟩
  · have hLn : L = [] := parse_wrong _ _ _ _ _ _ hR.symm he
    subst hLn
    have hee : (e == 0) = false := by simp [he]
    clear hR hR2 he
    go_enter Tryd.func4, Tryd.ntmps4
    go_wp2_with (first
      | (go_at_call 11; refine (HP.out).mono ?_; rintro e' w1 ⟨v1, rfl, hp1, hb1⟩; obtain ⟨o1, c1, rfl⟩ := row_nil_form hp1; have HB1 := Lib.hid hb1; clear hp1 hb1 HP)
      | (go_at_call 11; refine (HP2.out _ HB1.out).mono ?_; rintro e' w2 ⟨v2, rfl, hp2, hb2⟩; have HB2 := Lib.hid (HB1.out.trans (hb2.mono HB1.out.size)); clear hp2 hb2 HP2)
      | (go_at_call 10; refine (HA.out _ HB2.out).mono ?_; rintro e w3 ⟨rfl, hb3⟩; have HB3 := Lib.hid hb3; clear hb3)
      | go_in)
    go_ret
    exact ⟨rfl, HB2.out.trans (HB3.out.mono HB2.out.size)⟩

end Go.Proofs.YteifhbkhjkmhfaaDoor
