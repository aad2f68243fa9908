/-
  The document's numbers and words: a number's digits, an operation's word and number, a task's number.
-/
import Derived.Test.YteifhbkhjkmhfaaDoorScG
namespace Go.Proofs.YteifhbkhjkmhfaaDoor
open Go.RowKit Go.Shelf Go.Sort
set_option linter.unusedSimpArgs false
set_option linter.unusedVariables false

theorem one_byte_text (w : World) (d : Nat) (hd : d < 10) : (convert 41 9 (.slice (some ⟨w.heap.size, 0, none⟩) 1 1)).run Tryd.prog (w.alloc (.cells #[.int .u8 (48 + (d : Int))] 5)) = .ok (sv [UInt8.ofNat (48 + d)]) (w.alloc (.cells #[.int .u8 (48 + (d : Int))] 5)) := by
  have h := run_convert_bytes_back (P := Tryd.prog) (w.alloc (.cells #[.int .u8 (48 + (d : Int))] 5)) 41 9 5 ⟨w.heap.size, 0, none⟩ 1 [UInt8.ofNat (48 + d)] Tryd.underlying41 Tryd.underlying5 Tryd.underlying9 (fun j hj => by
    have hj0 : j = 0 := by simpa using hj
    subst hj0
    rw [show Addr.add ⟨w.heap.size, 0, none⟩ 0 = ⟨w.heap.size, 0, none⟩ from rfl, World.cell?_alloc_at _ _ _ _ rfl]
    have ht : (UInt8.ofNat (48 + d)).toNat = 48 + d := by simp; omega
    simp only [List.getElem_cons_zero]
    rw [ht]
    rfl)
  exact h

theorem bs_append (a b : List UInt8) : bs a ++ bs b = bs (a ++ b) := by
  apply ba_ext
  simp [ByteArray.data_append]

set_option maxRecDepth 100000 in
set_option maxHeartbeats 1000000 in
theorem digits_any (N : Nat) (hN : N ≤ 1000000) (w : World) : Calls Tryd.prog 48 #[.int .i64 N] w fun e w' => e = .returned (sv (Lib.decDigits N)) ∧ Below w.heap.size w w' := by
  have hn0 : 0 ≤ (N : Int) := by omega
  go_enter Tryd.func48, Tryd.ntmps48
  go_wp2
  go_loopw [0, 3] (fun n s wr => ∃ (m : Nat) (l : List UInt8), l.length + m ≤ N ∧ n = .int .i64 m ∧ s = sv l ∧ Hid (Lib.decDigits N = Lib.decDigits m ++ l) ∧ Hid (Below w.heap.size w wr)) (fun n _ _ => (Go.RowKit.intOf n).toNat)
  case atStart => exact ⟨N, [], by simp, rfl, rfl, by show _ = _ ++ []; simp, Below.refl _ _⟩
  case round =>
    obtain ⟨m, l, hm, rfl, rfl, HD, HB⟩ := hrel
    have hm0 : 0 ≤ (m : Int) := by omega
    have hsl : (bs l).size ≤ 1000000 := by rw [bs_size]; omega
    by_cases h10 : m < 10
    · have hcv := one_byte_text wr m h10
      have hd := Lib.decDigits_one h10
      generalize UInt8.ofNat (48 + m) = c at *
      have hs1 : (bs [c]).size = 1 := rfl
      have HD1 := Lib.hid hd; clear hd
      go_wp2_with fail
      go_ret
      exact ⟨by rw [HD.out, HD1.out]; show Ending.returned (Value.string (bs [c] ++ bs l)) = _; rw [bs_append], HB.out.trans ((Below.refl _ wr).alloc (Nat.le_refl _) _ |>.mono HB.out.size)⟩
    · have hcv := one_byte_text wr (m % 10) (by omega)
      have hmm : ((m % 10 : Nat) : Int) = (m : Int) % 10 := by omega
      rw [hmm] at hcv
      have hd := decDigits_more h10
      generalize UInt8.ofNat (48 + m % 10) = c at *
      have HD1 := Lib.hid hd; clear hd
      have hs1 : (bs [c]).size = 1 := rfl
      clear hmm
      go_wp2_with fail
      refine ⟨⟨m / 10, c :: l, by simp; omega, by go_num, by rw [bs_append]; rfl, ?_, HB.out.trans ((Below.refl _ wr).alloc (Nat.le_refl _) _ |>.mono HB.out.size)⟩, by simp [Go.RowKit.intOf]; omega⟩
      show Lib.decDigits N = Lib.decDigits (m / 10) ++ (c :: l)
      rw [HD.out, HD1.out, List.append_assoc]
      rfl

set_option maxRecDepth 100000 in
set_option maxHeartbeats 1000000 in
theorem op_any (q : Nat) (hq : q < 9) (w : World) : Calls Tryd.prog 50 #[.int .i64 q] w fun e w' => e = .returned (sv (opsL.getD q [])) ∧ Below w.heap.size w w' := by
  have h9 : q = 0 ∨ q = 1 ∨ q = 2 ∨ q = 3 ∨ q = 4 ∨ q = 5 ∨ q = 6 ∨ q = 7 ∨ q = 8 := by omega
  rcases h9 with rfl | rfl | rfl | rfl | rfl | rfl | rfl | rfl | rfl
  all_goals
    go_enter Tryd.func50, Tryd.ntmps50
    go_wp2
    go_ret
    exact ⟨rfl, (Below.refl _ _).alloc (Nat.le_refl _) _⟩

theorem opNum_at : ∀ k, k < 9 → opNum (opsL.getD k []) = k := by decide +kernel
theorem opNum_no {l : List UInt8} (h : ∀ j, 1 ≤ j → j < 9 → opsL.getD j [] ≠ l) : opNum l = 0 := by
  by_cases hm : l ∈ opsL
  · obtain ⟨j, hj, e⟩ := List.mem_iff_getElem.1 hm
    have hj9 : j < 9 := hj
    have e' : opsL.getD j [] = l := by rw [List.getD_eq_getElem?_getD, List.getElem?_eq_getElem hj]; exact e
    by_cases h1 : 1 ≤ j
    · exact absurd e' (h j h1 hj9)
    · have : j = 0 := by omega
      subst this
      rw [← e']
      rfl
  · unfold opNum
    rw [List.idxOf_eq_length hm]
    rfl

set_option maxRecDepth 100000 in
set_option maxHeartbeats 1000000 in
theorem refnumber_any (l : List UInt8) (w : World) : Calls Tryd.prog 19 #[sv l] w fun e w' => e = .returned (.int .i64 (opNum l : Nat)) ∧ Below w.heap.size w w' := by
  go_enter Tryd.func19, Tryd.ntmps19
  go_wp2
  go_loopw [3] (fun k wr => ∃ q : Nat, 1 ≤ q ∧ q ≤ 9 ∧ k = .int .i64 q ∧ Hid (∀ j, 1 ≤ j → j < q → opsL.getD j [] ≠ l) ∧ Hid (Below w.heap.size w wr)) (fun k _ => 9 - (Go.RowKit.intOf k).toNat)
  case atStart => exact ⟨1, by omega, by omega, rfl, fun j h1 h2 => by omega, Below.refl _ _⟩
  case round =>
    obtain ⟨q, hq1, hq9, rfl, HN, HB⟩ := hrel
    by_cases hlt : q < 9
    · have hop := op_any q hlt wr
      have hsz := HB.out.size
      by_cases he : opsL.getD q [] = l
      · rw [he] at hop
        have HOP := Lib.hid hop
        have HE := Lib.hid he
        clear hop he
        go_wp2_with (first
          | (go_at_call 50; refine (HOP.out).mono ?_; rintro e w2 ⟨rfl, hb2⟩; have HB2 := Lib.hid hb2; clear hb2)
          | go_in)
        go_ret
        exact ⟨by rw [← HE.out, opNum_at q hlt]; rfl, HB.out.trans (HB2.out.mono hsz)⟩
      · have he1 : (opsL.getD q [] == l) = false := by simpa using he
        have HE := Lib.hid he
        clear he
        generalize hx : opsL.getD q [] = x at *
        have HX := Lib.hid hx
        clear hx
        have he2 : ((bs x).toList == (bs l).toList) = false := by rw [Lib.toList_data, Lib.toList_data]; exact he1
        have HOP := Lib.hid hop
        clear hop
        go_wp2_with (first
          | (go_at_call 50; refine (HOP.out).mono ?_; rintro e w2 ⟨rfl, hb2⟩; have HB2 := Lib.hid hb2; clear hb2)
          | go_in)
        refine ⟨⟨q + 1, by omega, by omega, by go_num, fun j h1 h2 => ?_, HB.out.trans (HB2.out.mono hsz)⟩, by simp [Go.RowKit.intOf]; omega⟩
        by_cases hj : j = q
        · subst hj; rw [HX.out]; exact HE.out
        · exact HN.out j h1 (by omega)
    · obtain rfl : q = 9 := by omega
      go_wp2_with fail
      go_ret
      exact ⟨by rw [opNum_no HN.out]; rfl, HB.out⟩

theorem take_snocB (s : ByteArray) (k : Nat) (h : k < s.size) : s.data.toList.take (k + 1) = s.data.toList.take k ++ [s[k]] := by
  rw [List.take_succ_eq_append_getElem (by rw [← Lib.size_eq]; exact h)]
  rfl
theorem dval_snoc (l : List UInt8) (c : UInt8) : dval (l ++ [c]) = dval l * 10 + (c.toNat - 48) := by simp [dval]
theorem digsB_snoc (l : List UInt8) (c : UInt8) : digsB (l ++ [c]) = (digsB l && (decide (48 ≤ c.toNat) && decide (c.toNat ≤ 57))) := by simp [digsB]
theorem dval_step (l : List UInt8) (a : Nat) (h : digsB l = true) : l.foldl (fun a c => a * 10 + (c.toNat - 48)) a < (a + 1) * 10 ^ l.length := by
  induction l generalizing a with
  | nil => simp
  | cons c l ih =>
    have h' : (decide (48 ≤ c.toNat) && decide (c.toNat ≤ 57)) = true ∧ digsB l = true := by simpa [digsB] using h
    have h2 : c.toNat ≤ 57 := by
      have := (Bool.and_eq_true _ _ ▸ h'.1).2
      simpa using this
    have := ih (a * 10 + (c.toNat - 48)) h'.2
    rw [List.foldl_cons, List.length_cons, Nat.pow_succ]
    have h3 : (a * 10 + (c.toNat - 48) + 1) * 10 ^ l.length ≤ ((a + 1) * 10) * 10 ^ l.length := Nat.mul_le_mul_right _ (by omega)
    have h4 : ((a + 1) * 10) * 10 ^ l.length = (a + 1) * (10 ^ l.length * 10) := by rw [Nat.mul_assoc, Nat.mul_comm 10]
    omega
theorem dval_bound (l : List UInt8) (h : digsB l = true) : dval l < 10 ^ l.length := by
  have := dval_step l 0 h
  unfold dval
  omega
def taskI (l : List UInt8) : Int := match taskL l with
  | some n => n
  | none => -1
theorem taskI_no {l : List UInt8} (h : ∀ n, n < 1000 → dec4 n ≠ l) : taskI l = -1 := by unfold taskI; rw [taskL_none h]
theorem digsB_take {l : List UInt8} (k : Nat) (h : digsB l = true) : digsB (l.take k) = true := by
  unfold digsB at h ⊢
  rw [List.all_eq_true] at h ⊢
  exact fun x hx => h x (List.mem_of_mem_take hx)

set_option maxRecDepth 100000 in
set_option maxHeartbeats 1000000 in
theorem reftask_any (s : ByteArray) (w : World) (hs : s.size ≤ 100000) : Calls Tryd.prog 37 #[.string s] w fun e w' => e = .returned (.int .i64 (taskI s.data.toList)) ∧ Below w.heap.size w w' := by
  by_cases h3 : 3 < s.size
  · have hno : taskI s.data.toList = -1 := taskI_no fun n hn e => by
      have h := dec4_three n hn
      rw [e, ← Lib.size_eq] at h
      omega
    rw [hno]
    go_enter Tryd.func37, Tryd.ntmps37
    go_wp2
    go_ret
    exact ⟨rfl, Below.refl _ _⟩
  · go_enter Tryd.func37, Tryd.ntmps37
    go_wp2
    go_loop [3, 4] (fun n i => ∃ k : Nat, k ≤ s.size ∧ i = .int .i64 k ∧ n = .int .i64 (dval (s.data.toList.take k)) ∧ digsB (s.data.toList.take k) = true) (fun _ i => s.size - (Go.RowKit.intOf i).toNat)
    case atStart => exact ⟨0, Nat.zero_le _, rfl, rfl, rfl⟩
    case round =>
      obtain ⟨k, hk, rfl, rfl, hd⟩ := hrel
      have hb := dval_bound _ hd
      have hb2 : dval (s.data.toList.take k) < 1000 := by
        have h1 : (s.data.toList.take k).length ≤ 3 := by rw [List.length_take, ← Lib.size_eq]; omega
        have h2 : 10 ^ (s.data.toList.take k).length ≤ 10 ^ 3 := Nat.pow_le_pow_right (by omega) h1
        omega
      have HD := Lib.hid hd
      clear hd hb
      by_cases hlt : k < s.size
      · have hts := take_snocB s k hlt
        have hds := dval_snoc (s.data.toList.take k) s[k]
        have hgs := digsB_snoc (s.data.toList.take k) s[k]
        rw [← hts] at hds hgs
        have HTS := Lib.hid hds
        have HGS := Lib.hid hgs
        clear hts hds hgs
        by_cases h48 : 48 ≤ s[k].toNat ∧ s[k].toNat ≤ 57
        · obtain ⟨ha, hb⟩ := h48
          go_wp2
          go_round
          case rel =>
            refine ⟨k + 1, by omega, by go_num, ?_, ?_⟩
            · have h := HTS.out
              go_num
            · rw [HGS.out, HD.out]
              simp [ha, hb]
          case measure => simp [Go.RowKit.intOf]; omega
        · have hno : taskI s.data.toList = -1 := taskI_no fun n hn e => by
            have h1 := (dec4_all n (by omega)).2.1
            rw [e] at h1
            have h2 := digsB_take (k + 1) h1
            rw [HGS.out, HD.out] at h2
            simp at h2
            exact h48 h2
          have HNO := Lib.hid hno
          clear hno
          have hcs : s[k].toNat < 48 ∨ (48 ≤ s[k].toNat ∧ 57 < s[k].toNat) := by omega
          rcases hcs with hcs | ⟨hcs, hcs2⟩
          all_goals
            go_wp2
            go_ret
            exact ⟨by rw [HNO.out]; rfl, Below.refl _ _⟩
      · obtain rfl : k = s.size := by omega
        have htk : s.data.toList.take s.size = s.data.toList := List.take_of_length_le (by rw [← Lib.size_eq]; exact Nat.le_refl _)
        rw [htk] at hb2 HD ⊢
        have hT := digits_any (dval s.data.toList) (by omega) w
        rw [dec4_eq (by omega)] at hT
        have HT := Lib.hid hT
        clear hT
        by_cases he : dec4 (dval s.data.toList) = s.data.toList
        · have hyes : taskI s.data.toList = (dval s.data.toList : Nat) := by unfold taskI; rw [taskL_of hb2 he]
          rw [he, show sv s.data.toList = Value.string s from rfl] at HT
          have HE := Lib.hid he
          have HY := Lib.hid hyes
          clear hyes he htk
          generalize dval s.data.toList = v at *
          go_wp2_with (first
            | (go_at_call 48; refine (HT.out).mono ?_; rintro e w2 ⟨rfl, hb2⟩; have HB2 := Lib.hid hb2; clear hb2)
            | go_in)
          go_ret
          exact ⟨by rw [HY.out]; rfl, HB2.out⟩
        · have hno : taskI s.data.toList = -1 := taskI_no fun n hn e => he (by
            have h1 := (dec4_all n (by omega)).1
            rw [e] at h1
            rw [h1]; exact e)
          have HNO := Lib.hid hno
          have he1 : (dec4 (dval s.data.toList) == s.toList) = false := by rw [Lib.toList_data]; simpa using he
          clear he htk hno
          generalize dval s.data.toList = v at *
          generalize dec4 v = x at *
          go_wp2_with (first
            | (go_at_call 48; refine (HT.out).mono ?_; rintro e w2 ⟨rfl, hb2⟩; have HB2 := Lib.hid hb2; clear hb2)
            | go_in)
          go_ret
          exact ⟨by rw [HNO.out]; rfl, HB2.out⟩

end Go.Proofs.YteifhbkhjkmhfaaDoor
