/-
  The document's lines of a text, and words of a line.
-/
import Derived.Test.YteifhbkhjkmhfaaDoorScI
namespace Go.Proofs.YteifhbkhjkmhfaaDoor
open Go.RowKit Go.Shelf Go.Sort
set_option linter.unusedSimpArgs false
set_option linter.unusedVariables false

theorem info9 : (Tryd.prog.info? 9).map (fun i => (i.zero, i.size, i.bytes)) = some (some (.string ByteArray.empty), 1, 16) := by kernel_rfl
theorem linesL_of {l p : List UInt8} {L : List (List UInt8)} (h : pcs 10 l = L ++ [p]) : linesL l = if p = [] then L else L ++ [p] := by
  unfold linesL
  have h1 : (pcs 10 l).getLast (pcs_ne 10 l) = p := by
    have : ∀ (q : List (List UInt8)) (hq : q ≠ []), q = L ++ [p] → q.getLast hq = p := fun q hq e => by subst e; simp
    exact this _ _ h
  rw [h1, h]
  simp
/-- A row of texts that the call made. -/
theorem strs_of_row {w : World} {B g cap : Nat} {L : List (List UInt8)} (h : w.ownsRow B 9 1 (.slice (some ⟨g, 0, none⟩) L.length cap) L.length (L.map sv)) : StrsAt w g L := fun j hj => by
  rw [h.cellAt j (by omega)]
  simp [hj, List.getD_eq_getElem?_getD]

/-- A slice of texts that the call made. -/
def TextsAt (w : World) (v : Value) (L : List (List UInt8)) : Prop := ∃ oo cap, v = .slice oo L.length cap ∧ ∀ j, j < L.length → ∃ g, oo = some ⟨g, 0, none⟩ ∧ w.cell? ⟨g, j, none⟩ = some (sv (L.getD j []))
theorem texts_of_row {w : World} {B n : Nat} {v : Value} {L : List (List UInt8)} (hn : n = L.length) (h : w.ownsRow B 9 1 v n (L.map sv)) : TextsAt w v L := by
  subst hn
  obtain ⟨oo, cap, rfl, hoo⟩ := row_form h
  refine ⟨oo, cap, rfl, fun j hj => ?_⟩
  obtain ⟨g, rfl⟩ := hoo (by omega)
  exact ⟨g, rfl, strs_of_row h j hj⟩
theorem TextsAt.below {w w' : World} {v : Value} {L : List (List UInt8)} (h : TextsAt w v L) (hb : Below w.heap.size w w') : TextsAt w' v L := by
  obtain ⟨oo, cap, e, h⟩ := h
  refine ⟨oo, cap, e, fun j hj => ?_⟩
  obtain ⟨g, hg, h1⟩ := h j hj
  exact ⟨g, hg, (hb.cell (p := ⟨g, j, none⟩) (World.block_lt_of_cell? w _ h1)).trans h1⟩

theorem piece_is (s : ByteArray) (f k : Nat) : sv ((s.data.toList.drop f).take (k - f)) = .string (s.extract f k) := congrArg Value.string (ba_ext (by rw [Lib.extract_data]))

theorem piece_more (l : List UInt8) (a k : Nat) (c : UInt8) (hak : a ≤ k) (hc : l[k]? = some c) : (l.drop a).take (k + 1 - a) = (l.drop a).take (k - a) ++ [c] := by
  have e : k + 1 - a = (k - a) + 1 := by omega
  have hk : k < l.length := (List.getElem?_eq_some_iff.1 hc).1
  rw [e, List.take_succ_eq_append_getElem (by rw [List.length_drop]; omega), List.getElem_drop]
  have e2 : a + (k - a) = k := by omega
  simp only [e2]
  rw [(List.getElem?_eq_some_iff.1 hc).2]
theorem byte_at (s : ByteArray) (k : Nat) (h : k < s.size) : s.data.toList[k]? = some s[k] := by
  rw [List.getElem?_eq_getElem (by rw [← Lib.size_eq]; exact h)]
  rfl

set_option maxRecDepth 100000 in
set_option maxHeartbeats 2000000 in
theorem lines_any (s : ByteArray) (w : World) (hs : s.size ≤ 100000) : Calls Tryd.prog 14 #[.string s] w fun e w' => ∃ v, e = .returned v ∧ TextsAt w' v (linesL s.data.toList) ∧ Below w.heap.size w w' := by
  have hsz : s.data.toList.length = s.size := (Lib.size_eq s).symm
  obtain ⟨i0, hi0, hy0, hy1, hy2⟩ := info_parts info9
  go_enter Tryd.func14, Tryd.ntmps14
  go_wp2
  go_loopw [3, 4, 5] (fun x f i wr => ∃ (k a : Nat) (L : List (List UInt8)), k ≤ s.size ∧ a ≤ k ∧ L.length ≤ k ∧ i = .int .i64 k ∧ f = .int .i64 a ∧ Hid (pcs 10 (s.data.toList.take k) = L ++ [(s.data.toList.drop a).take (k - a)]) ∧
      Hid (wr.ownsRow w.heap.size 9 1 x L.length (L.map sv)) ∧ Hid (Below w.heap.size w wr)) (fun _ _ i _ => s.size - (Go.RowKit.intOf i).toNat)
  case atStart => exact ⟨0, 0, [], Nat.zero_le _, Nat.zero_le _, Nat.zero_le _, rfl, rfl, rfl, World.ownsRow_nil _ _ _ _, Below.refl _ _⟩
  case round =>
    obtain ⟨k, a, L, hk, hak, hL, rfl, rfl, HP, HX, HB⟩ := hrel
    obtain ⟨xo, xc, rfl, _⟩ := row_form HX.out
    have hws := HB.out.size
    by_cases hlt : k < s.size
    · have hts := take_snocB s k hlt
      by_cases hc : s[k] = 10
      · have hc' : (s[k].toNat : Int) = 10 := by rw [hc]; rfl
        have hnew : pcs 10 (s.data.toList.take (k + 1)) = (L ++ [(s.data.toList.drop a).take (k - a)]) ++ [(s.data.toList.drop (k + 1)).take (k + 1 - (k + 1))] := by
          rw [hts, hc, pcs_snoc_at, HP.out]
          simp
        have hpc := piece_is s a k
        have HN := Lib.hid hnew
        clear hnew hts hc
        generalize (s.data.toList.drop a).take (k - a) = pc at *
        go_wp2_with (first
          | (at_builtin; refine wpList_append_lies _ (by rfl) _ _ _ (by rfl) w.heap.size 9 i0 _ 1 16 Tryd.underlying31 hi0 hy0 hy1 hy2 rfl (by omega) (.slice xo L.length xc) L.length (L.map sv) (by rfl)
              (HX.out.alloc _) ⟨wr.heap.size, 0, none⟩ 1 1 [.string (s.extract a k)] (by rfl) (by rfl)
              (World.news_of_block (cs := #[.string (s.extract a k)]) (t := 9) (fr := (0, 0)) (heap_alloc_new wr _)) (by simp [Value.oneCell']) (by omega) (by unfold maxLen; omega) (by omega) (by simp; omega) (wr.heap.size + 1) (by simp) ?_; intro g3 cp3 w3 hown4 hgrow3 hat3 hlt3)
          | go_in)
        have p1 := HB.out.alloc hws (.cells #[.string (s.extract a k)] 9)
        have p2 := p1.grown hgrow3 p1.size (fun j hj => (HX.out.lt j hj).1)
        refine ⟨⟨k + 1, k + 1, L ++ [pc], by omega, by omega, by simp; omega, by go_num, by go_num, HN.out, ?_, p2⟩, by simp [Go.RowKit.intOf]; omega⟩
        show w3.ownsRow _ 9 1 _ _ _
        rw [List.length_append, List.length_singleton, List.map_append, List.map_singleton, hpc]
        exact hown4
      · have hc' : ((s[k].toNat : Int) == 10) = false := by
          simp
          intro h
          apply hc
          have : s[k].toNat = 10 := by omega
          exact UInt8.toNat_inj.1 this
        have hnew : pcs 10 (s.data.toList.take (k + 1)) = L ++ [(s.data.toList.drop a).take (k + 1 - a)] := by
          rw [hts, piece_more _ a k s[k] hak (byte_at s k hlt)]
          exact pcs_snoc _ hc HP.out
        have HN := Lib.hid hnew
        clear hnew hts hc
        go_wp2_with fail
        refine ⟨⟨k + 1, a, L, by omega, by omega, by omega, by go_num, rfl, HN.out, HX.out, HB.out⟩, by simp [Go.RowKit.intOf]; omega⟩
    · obtain rfl : k = s.size := by omega
      have htk : s.data.toList.take s.size = s.data.toList := List.take_of_length_le (by omega)
      have hdt : (s.data.toList.drop a).take (s.size - a) = s.data.toList.drop a := List.take_of_length_le (by rw [List.length_drop]; omega)
      have hp := HP.out
      rw [htk, hdt] at hp
      have hln := linesL_of hp
      by_cases has : a < s.size
      · have hne : s.data.toList.drop a ≠ [] := fun e => by
          have := congrArg List.length e
          rw [List.length_drop] at this
          simp at this
          omega
        rw [if_neg hne] at hln
        have hpc : sv (s.data.toList.drop a) = .string (s.extract a s.size) := by rw [← hdt]; exact piece_is s a s.size
        have HLN := Lib.hid hln
        have HPC := Lib.hid hpc
        clear hln hpc hne hp hdt htk
        go_wp2_with (first
          | (at_builtin; refine wpList_append_lies _ (by rfl) _ _ _ (by rfl) w.heap.size 9 i0 _ 1 16 Tryd.underlying31 hi0 hy0 hy1 hy2 rfl (by omega) (.slice xo L.length xc) L.length (L.map sv) (by rfl)
              (HX.out.alloc _) ⟨wr.heap.size, 0, none⟩ 1 1 [.string (s.extract a s.size)] (by rfl) (by rfl)
              (World.news_of_block (cs := #[.string (s.extract a s.size)]) (t := 9) (fr := (0, 0)) (heap_alloc_new wr _)) (by simp [Value.oneCell']) (by omega) (by unfold maxLen; omega) (by omega) (by simp; omega) (wr.heap.size + 1) (by simp) ?_; intro g3 cp3 w3 hown4 hgrow3 hat3 hlt3)
          | go_in)
        go_ret
        have p1 := HB.out.alloc hws (.cells #[.string (s.extract a s.size)] 9)
        have p2 := p1.grown hgrow3 p1.size (fun j hj => (HX.out.lt j hj).1)
        refine ⟨_, rfl, ?_, p2⟩
        rw [HLN.out]
        refine texts_of_row (B := w.heap.size) (n := L.length + 1) (by simp) ?_
        show w3.ownsRow _ 9 1 _ _ _
        rw [List.map_append, List.map_singleton, HPC.out]
        exact hown4
      · have he : s.data.toList.drop a = [] := List.drop_eq_nil_of_le (by omega)
        rw [if_pos he] at hln
        have HLN := Lib.hid hln
        clear hln hp hdt htk he
        go_wp2_with fail
        go_ret
        exact ⟨_, rfl, by rw [HLN.out]; exact texts_of_row rfl HX.out, HB.out⟩

theorem pcs_words {l : List UInt8} {L : List (List UInt8)} {p : List UInt8} (h : pcs 32 l = L ++ [p]) : wordsL l = L.filter (fun q => !q.isEmpty) ++ (if p = [] then [] else [p]) := by
  unfold wordsL
  rw [h, List.filter_append]
  congr 1
  cases p with
  | nil => rfl
  | cons c p => rfl

set_option maxRecDepth 100000 in
set_option maxHeartbeats 2000000 in
theorem refwords_any (s : ByteArray) (w : World) (hs : s.size ≤ 100000) : Calls Tryd.prog 36 #[.string s] w fun e w' => ∃ v, e = .returned v ∧ TextsAt w' v (wordsL s.data.toList) ∧ Below w.heap.size w w' := by
  have hsz : s.data.toList.length = s.size := (Lib.size_eq s).symm
  obtain ⟨i0, hi0, hy0, hy1, hy2⟩ := info_parts info9
  go_enter Tryd.func36, Tryd.ntmps36
  go_wp2
  go_loopw [3, 4, 5] (fun x ww i wr => ∃ (k : Nat) (L : List (List UInt8)) (p : List UInt8) (R : List (List UInt8)), k ≤ s.size + 1 ∧ R.length ≤ k ∧ p.length ≤ k ∧ i = .int .i64 k ∧ ww = sv p ∧ Hid (k ≤ s.size → pcs 32 (s.data.toList.take k) = L ++ [p] ∧ R = L.filter (fun q => !q.isEmpty)) ∧ Hid (s.size < k → R = wordsL s.data.toList) ∧
      Hid (wr.ownsRow w.heap.size 9 1 x R.length (R.map sv)) ∧ Hid (Below w.heap.size w wr)) (fun _ _ i _ => s.size + 1 - (Go.RowKit.intOf i).toNat)
  case atStart => exact ⟨0, [], [], [], by omega, Nat.zero_le _, Nat.zero_le _, rfl, rfl, fun _ => ⟨rfl, rfl⟩, fun h => by omega, World.ownsRow_nil _ _ _ _, Below.refl _ _⟩
  case round =>
    obtain ⟨k, L, p, R, hk, hR, hp, rfl, rfl, HP, HQ, HX, HB⟩ := hrel
    obtain ⟨xo, xc, rfl, _⟩ := row_form HX.out
    have hws := HB.out.size
    have hps : (bs p).size ≤ 200000 := by rw [bs_size]; omega
    by_cases hlt : k < s.size
    · have hts := take_snocB s k hlt
      obtain ⟨h1, h2⟩ := HP.out (by omega)
      by_cases hc : s[k] = 32
      · have hc' : (s[k].toNat : Int) = 32 := by rw [hc]; rfl
        have hnew : pcs 32 (s.data.toList.take (k + 1)) = (L ++ [p]) ++ [[]] := by
          rw [hts, hc, pcs_snoc_at, h1]
        have hf : (L ++ [p]).filter (fun q => !q.isEmpty) = R ++ (if p = [] then [] else [p]) := by
          rw [List.filter_append, h2]
          congr 1
          cases p with
          | nil => rfl
          | cons c p => rfl
        have HN := Lib.hid hnew
        have HF := Lib.hid hf
        clear hnew hts hc h1 h2 hf
        cases p with
        | nil =>
          go_wp2_with fail
          refine ⟨⟨k + 1, L ++ [[]], [], R, by omega, by omega, by simp, by go_num, rfl, fun _ => ⟨HN.out, ?_⟩, fun h => by omega, HX.out, HB.out⟩, by simp [Go.RowKit.intOf]; omega⟩
          have h := HF.out
          rw [if_pos rfl, List.append_nil] at h
          exact h.symm
        | cons c q =>
          go_wp2_with (first
            | (at_builtin; refine wpList_append_lies _ (by rfl) _ _ _ (by rfl) w.heap.size 9 i0 _ 1 16 Tryd.underlying31 hi0 hy0 hy1 hy2 rfl (by omega) (.slice xo R.length xc) R.length (R.map sv) (by rfl)
                (HX.out.alloc _) ⟨wr.heap.size, 0, none⟩ 1 1 [sv (c :: q)] (by rfl) (by rfl)
                (World.news_of_block (cs := #[sv (c :: q)]) (t := 9) (fr := (0, 0)) (heap_alloc_new wr _)) (by simp [Value.oneCell']) (by omega) (by unfold maxLen; omega) (by omega) (by simp; omega) (wr.heap.size + 1) (by simp) ?_; intro g3 cp3 w3 hown4 hgrow3 hat3 hlt3)
            | go_in)
          have p1 := HB.out.alloc hws (.cells #[sv (c :: q)] 9)
          have p2 := p1.grown hgrow3 p1.size (fun j hj => (HX.out.lt j hj).1)
          have hrow : w3.ownsRow w.heap.size 9 1 (.slice (some ⟨g3, 0, none⟩) (R.length + 1) cp3) (R ++ [c :: q]).length ((R ++ [c :: q]).map sv) := by
            rw [List.length_append, List.length_singleton, List.map_append, List.map_singleton]
            exact hown4
          refine ⟨⟨k + 1, L ++ [c :: q], [], R ++ [c :: q], by omega, by simp; omega, by simp, by go_num, rfl, fun _ => ⟨HN.out, ?_⟩, fun h => by omega, hrow, p2⟩, by simp [Go.RowKit.intOf]; omega⟩
          have h := HF.out
          rw [if_neg (by simp)] at h
          exact h.symm
      · have hc' : ((s[k].toNat : Int) == 32) = false := by
          simp
          intro h
          apply hc
          have : s[k].toNat = 32 := by omega
          exact UInt8.toNat_inj.1 this
        have hnew : pcs 32 (s.data.toList.take (k + 1)) = L ++ [p ++ [s[k]]] := by
          rw [hts]
          exact pcs_snoc _ hc h1
        have hpc := piece_is s k (k + 1)
        rw [piece_more _ k k s[k] (Nat.le_refl _) (byte_at s k hlt), Nat.sub_self, List.take_zero, List.nil_append] at hpc
        have hcat : Value.string (bs p ++ s.extract k (k + 1)) = sv (p ++ [s[k]]) := by
          have e : bs [s[k]] = s.extract k (k + 1) := by injection hpc
          rw [← e, bs_append]
        have HN := Lib.hid hnew
        have HR := Lib.hid h2
        have HC := Lib.hid hcat
        have hes : (s.extract k (k + 1)).size = 1 := by rw [Lib.size_eq, Lib.extract_data]; simp; omega
        clear hnew hts hc h1 h2 hpc hcat
        go_wp2_with fail
        refine ⟨⟨k + 1, L, p ++ [s[k]], R, by omega, by omega, by simp; omega, by go_num, HC.out, fun _ => ⟨HN.out, HR.out⟩, fun h => by omega, HX.out, HB.out⟩, by simp [Go.RowKit.intOf]; omega⟩
    · by_cases hke : k = s.size
      · subst hke
        obtain ⟨h1, h2⟩ := HP.out (Nat.le_refl _)
        rw [List.take_of_length_le (by omega)] at h1
        have hw := pcs_words h1
        rw [← h2] at hw
        have HW := Lib.hid hw
        clear hw h1 h2
        cases p with
        | nil =>
          go_wp2_with fail
          refine ⟨⟨s.size + 1, L, [], R, by omega, by omega, by simp, by go_num, rfl, fun h => by omega, fun _ => ?_, HX.out, HB.out⟩, by simp [Go.RowKit.intOf]⟩
          have h := HW.out
          rw [if_pos rfl, List.append_nil] at h
          exact h.symm
        | cons c q =>
          go_wp2_with (first
            | (at_builtin; refine wpList_append_lies _ (by rfl) _ _ _ (by rfl) w.heap.size 9 i0 _ 1 16 Tryd.underlying31 hi0 hy0 hy1 hy2 rfl (by omega) (.slice xo R.length xc) R.length (R.map sv) (by rfl)
                (HX.out.alloc _) ⟨wr.heap.size, 0, none⟩ 1 1 [sv (c :: q)] (by rfl) (by rfl)
                (World.news_of_block (cs := #[sv (c :: q)]) (t := 9) (fr := (0, 0)) (heap_alloc_new wr _)) (by simp [Value.oneCell']) (by omega) (by unfold maxLen; omega) (by omega) (by simp; omega) (wr.heap.size + 1) (by simp) ?_; intro g3 cp3 w3 hown4 hgrow3 hat3 hlt3)
            | go_in)
          have p1 := HB.out.alloc hws (.cells #[sv (c :: q)] 9)
          have p2 := p1.grown hgrow3 p1.size (fun j hj => (HX.out.lt j hj).1)
          have hrow : w3.ownsRow w.heap.size 9 1 (.slice (some ⟨g3, 0, none⟩) (R.length + 1) cp3) (R ++ [c :: q]).length ((R ++ [c :: q]).map sv) := by
            rw [List.length_append, List.length_singleton, List.map_append, List.map_singleton]
            exact hown4
          refine ⟨⟨s.size + 1, L, [], R ++ [c :: q], by omega, by simp; omega, by simp, by go_num, rfl, fun h => by omega, fun _ => ?_, hrow, p2⟩, by simp [Go.RowKit.intOf]⟩
          have h := HW.out
          rw [if_neg (by simp)] at h
          exact h.symm
      · obtain rfl : k = s.size + 1 := by omega
        go_wp2_with fail
        go_ret
        exact ⟨_, rfl, by rw [← HQ.out (by omega)]; exact texts_of_row rfl HX.out, HB.out⟩

end Go.Proofs.YteifhbkhjkmhfaaDoor
