/-
  The walks of an operation's number, a task's number, a line's pick, by the program.
-/
import Derived.Test.YteifhbkhjkmhfaaDoorScC
import Derived.Test.YteifhbkhjkmhfaaDoorScD
import Derived.WalkSmall
import Derived.Lib.AppendIntMem
namespace Go.Proofs.YteifhbkhjkmhfaaDoor
open Go.RowKit Go.Shelf Go.Sort
set_option linter.unusedSimpArgs false
set_option linter.unusedVariables false

/-- What the program's package-level variables hold: two errors, and the powers of ten. -/
structure Glob (w : World) : Prop where
  es : ∃ te pe, w.cell? ⟨0, 0, none⟩ = some (.iface te pe)
  er : ∃ te pe, w.cell? ⟨1, 0, none⟩ = some (.iface te pe)
  tab : Lib.TabIs Tryd.prog w "internal/strconv.uint64pow10" .u64 Lib.pow10Tab
theorem pow10_g : ∃ g, Tryd.prog.globalNamed "internal/strconv.uint64pow10" = some g := Option.isSome_iff_exists.1 (show (Tryd.prog.globalNamed "internal/strconv.uint64pow10").isSome = true by kernel_rfl)
theorem Glob.below {w w' : World} (h : Glob w) (hb : Below w.heap.size w w') : Glob w' := by
  obtain ⟨⟨te, pe, h1⟩, ⟨tr, pr, h2⟩, h3⟩ := h
  refine ⟨⟨te, pe, (hb.cell (p := ⟨0, 0, none⟩) (World.block_lt_of_cell? w _ h1)).trans h1⟩, ⟨tr, pr, (hb.cell (p := ⟨1, 0, none⟩) (World.block_lt_of_cell? w _ h2)).trans h2⟩, ?_⟩
  obtain ⟨g, hg⟩ := pow10_g
  have hlt : g < w.heap.size := by
    have h3' := h3
    unfold Lib.TabIs World.var? at h3'
    rw [hg] at h3'
    simp only [Option.bind_some] at h3'
    rcases Nat.lt_or_ge g w.heap.size with hl | hl
    · exact hl
    · rw [Array.getElem?_eq_none hl] at h3'
      cases h3'
  exact var?_below hb hg hlt h3

theorem idxFromS_none (x : ByteArray) : ∀ (zs : List ByteArray) (i : Nat), x ∉ zs → Lib.idxFromS zs x i = -1
  | [], _, _ => rfl
  | z :: zs, i, h => by
    simp only [List.mem_cons, not_or] at h
    unfold Lib.idxFromS
    rw [if_neg (by intro e; exact h.1 (by simpa using e.symm))]
    exact idxFromS_none x zs (i + 1) h.2
theorem idx_ops (s : ByteArray) : max (Lib.idxOfS (opsL.map bs) s) 0 = ((opNum s.data.toList : Nat) : Int) := by
  by_cases h : s.data.toList ∈ opsL
  · rw [← bs_toList s]
    simp only [toList_bs]
    generalize s.data.toList = l at h
    simp only [opsL, List.mem_cons, List.not_mem_nil, or_false] at h
    rcases h with rfl | rfl | rfl | rfl | rfl | rfl | rfl | rfl | rfl <;> decide +kernel
  · have h1 : Lib.idxOfS (opsL.map bs) s = -1 := idxFromS_none s _ 0 (fun hm => by
      obtain ⟨l, hl, e⟩ := List.mem_map.1 hm
      exact h (by rw [← e]; exact hl))
    have h2 : opsL.idxOf s.data.toList = 9 := List.idxOf_eq_length h
    rw [h1]
    unfold opNum
    rw [h2]
    rfl

theorem ops_any (w : World) : Calls Tryd.prog 49 #[] w fun e w' => e = .returned (.slice (some ⟨w.heap.size, 0, none⟩) 9 9) ∧ w' = w.alloc (.cells (opsL.map sv).toArray 9) := by
  go_enter Tryd.func49, Tryd.ntmps49
  go_wp2
  go_ret
  exact ⟨rfl, rfl⟩

theorem number_any (s : ByteArray) (w : World) : Calls Tryd.prog 18 #[.string s] w fun e w' => e = .returned (.int .i64 (opNum s.data.toList : Nat)) ∧ Below w.heap.size w w' := by
  have hI := Tryd.slices_Index_string w.heap.size 0 9 9 (opsL.map bs) s (w.alloc (.cells (opsL.map sv).toArray 9)) (Nat.le_refl _) (by decide) (fun j hj => by
    rw [World.cell?_alloc_at _ _ _ _ rfl]
    have hj' : j < opsL.length := by simpa using hj
    simp [hj', List.getD_eq_getElem?_getD])
  have hx := idx_ops s
  have ht : (opsL.map bs).take 9 = opsL.map bs := rfl
  rw [ht] at hI
  have HX := Lib.hid hx; clear hx ht
  generalize Lib.idxOfS (opsL.map bs) s = z at hI HX
  go_enter Tryd.func18, Tryd.ntmps18
  go_wp2_with (first
    | (go_at_call 49; refine (ops_any _).mono ?_; rintro e w' ⟨rfl, rfl⟩)
    | (go_at_call 41; refine hI.mono ?_; rintro e w' ⟨rfl, rfl⟩)
    | go_in)
  go_ret
  exact ⟨by rw [← HX.out]; rfl, (Below.refl _ _).alloc (Nat.le_refl _) _⟩

theorem below_bytes {w w' : World} {t : Nat} (h : w' = w ∨ ∃ t, w' = Lib.bytesWorld w 5 t) : Below w.heap.size w w' := by
  rcases h with rfl | ⟨t, rfl⟩
  · exact Below.refl _ _
  · exact Lib.bytesWorld_below _ _ _

/-- How a task's number is told. -/
def TaskEnd (w : World) (t : Option Nat) (e : Ending) (w' : World) : Prop := ∃ n : Int, e = .returned (.tuple #[.int .i64 n, .bool t.isSome]) ∧ (∀ m, t = some m → n = m) ∧ Below w.heap.size w w'

set_option maxRecDepth 100000 in
set_option maxHeartbeats 1000000 in
/-- A task's number. -/
theorem task_any (s : ByteArray) (w : World) (hs : s.size ≤ 100000) (hg : Glob w) :
    Calls Tryd.prog 69 #[.string s] w (TaskEnd w (taskL s.data.toList)) := by
  have hfit : ∀ m, taskL s.data.toList = some m → Lib.atoiAll s.data.toList = .ok (m : Int) := fun m hm => by
    obtain ⟨h1, h2⟩ := taskL_some hm
    rw [← h2]
    exact (dec4_all m (by omega)).2.2.1
  rcases ha : Lib.atoiAll s.data.toList with v | _ | _
  · skip
    have hA := Tryd.strconv_Atoi_ok s (by omega) v ha w
    by_cases hv : 0 ≤ v ∧ v ≤ 999
    · obtain ⟨m, rfl⟩ : ∃ m : Nat, v = m := ⟨v.toNat, by omega⟩
      have hm : m < 1000 := by omega
      have hI := fun w' (hb : Below w.heap.size w w') => Tryd.strconv_Itoa (m : Int) (by omega) (by omega) w' (hg.below hb).tab
      have hit : Lib.itoa (m : Int) = dec4 m := by rw [Lib.itoa_nonneg, dec4_eq (by omega)]
      rw [hit] at hI
      have hok : (taskL s.data.toList).isSome = (dec4 m == s.toList) := by
        rw [Lib.toList_data]
        by_cases he : dec4 m = s.data.toList
        · rw [taskL_of hm he, he]; simp
        · rw [taskL_none (fun n hn e => he (by
            have := hfit n (taskL_of hn e)
            rw [ha] at this
            injection this with this
            have hnm : n = m := by omega
            rw [← hnm]; exact e))]
          simp [he]
      have hval : ∀ n, taskL s.data.toList = some n → (m : Int) = n := fun n hn => by
        have := hfit n hn
        rw [ha] at this
        injection this
      have HOK := Lib.hid hok
      have HV := Lib.hid hval
      have HI := Lib.hid hI
      have HA := Lib.hid hA
      have HG := Lib.hid hg
      clear hit hI hfit hok hval hA hg ha
      generalize dec4 m = l at *
      go_enter Tryd.func69, Tryd.ntmps69
      go_wp2_with (first
        | (go_at_call 40; refine HA.out.mono ?_; rintro e w1 ⟨rfl, hb1⟩; have HB1 := Lib.hid (below_bytes (t := 0) hb1); clear hb1)
        | (go_at_call 53; refine (HI.out _ HB1.out).mono ?_; rintro e w2 ⟨rfl, q, os, rfl⟩)
        | go_in)
      go_ret2
      exact ⟨m, by rw [HOK.out]; rfl, HV.out, HB1.out.trans (Lib.below_grow _ _ HB1.out.size _ _)⟩
    · have hno : taskL s.data.toList = none := taskL_none fun n hn e => by
        have := hfit n (taskL_of hn e)
        rw [ha] at this
        injection this with this
        omega
      rw [hno]
      have HA := Lib.hid hA
      have HG := Lib.hid hg
      clear hfit hA hg ha
      have hcs : v < 0 ∨ 999 < v := by omega
      rcases hcs with hcs | hcs
      · go_enter Tryd.func69, Tryd.ntmps69
        go_wp2_with (first
          | (go_at_call 40; refine HA.out.mono ?_; rintro e w1 ⟨rfl, hb1⟩; have HB1 := Lib.hid (below_bytes (t := 0) hb1); clear hb1)
          | go_in)
        go_ret2
        exact ⟨v, rfl, (fun m hm => by cases hm), HB1.out⟩
      · have h0 : 0 ≤ v := by omega
        go_enter Tryd.func69, Tryd.ntmps69
        go_wp2_with (first
          | (go_at_call 40; refine HA.out.mono ?_; rintro e w1 ⟨rfl, hb1⟩; have HB1 := Lib.hid (below_bytes (t := 0) hb1); clear hb1)
          | go_in)
        go_ret2
        exact ⟨v, rfl, (fun m hm => by cases hm), HB1.out⟩
  · skip
    have hno : taskL s.data.toList = none := taskL_none fun n hn e => by
      have := hfit n (taskL_of hn e)
      rw [ha] at this
      cases this
    rw [hno]
    obtain ⟨te, pe, hes⟩ := hg.es
    have HA : Hid (Calls Tryd.prog 40 #[.string s] w fun e w' => ∃ N, e = .returned (.tuple #[.int .i64 (0), .iface 117 (.pointer (some ⟨N, 0, none⟩))]) ∧ w.heap.size ≤ N ∧ w'.heap[N]? = some (.cells #[.string ⟨#[65, 116, 111, 105]⟩, .string s, .iface te pe] 130 (0, 0)) ∧ Below w.heap.size w w') := Lib.hid (Any.strconv_Atoi_syntax Tryd.laysC172 s (by omega) ha (.iface te pe) w hes (.inr ⟨te, pe, rfl⟩))
    clear hfit ha hes hg
    go_enter Tryd.func69, Tryd.ntmps69
    go_wp2_with (first
      | (go_at_call 40; refine HA.out.mono ?_; rintro e w1 ⟨N, rfl, _, _, hb1⟩)
      | go_in)
    go_ret2
    exact ⟨0, rfl, (fun m hm => by cases hm), hb1⟩
  · skip
    have hno : taskL s.data.toList = none := taskL_none fun n hn e => by
      have := hfit n (taskL_of hn e)
      rw [ha] at this
      cases this
    rw [hno]
    obtain ⟨te, pe, hes⟩ := hg.er
    have HA := Lib.hid (Tryd.strconv_Atoi_range s (by omega) ha (.iface te pe) w hes (.inr ⟨te, pe, rfl⟩))
    clear hfit ha hes hg
    go_enter Tryd.func69, Tryd.ntmps69
    go_wp2_with (first
      | (go_at_call 40; refine HA.out.mono ?_; rintro e w1 ⟨N, rfl, _, _, hb1⟩)
      | go_in)
    go_ret2
    exact ⟨_, rfl, (fun m hm => by cases hm), hb1⟩

theorem bcell {W w1 : World} (hb : Below W.heap.size W w1) : (∀ b o, b < W.heap.size → w1.cell? ⟨b, o, none⟩ = W.cell? ⟨b, o, none⟩) ∧ (∀ b o, b < W.heap.size → w1.frozen? ⟨b, o, none⟩ = W.frozen? ⟨b, o, none⟩) :=
  ⟨fun b o h => hb.cell (p := ⟨b, o, none⟩) h, fun b o h => hb.frozen (p := ⟨b, o, none⟩) h⟩

/-- What lay in a box lies there behind a call, and behind one more box. -/
theorem box_after {W w1 : World} {cs : Array Value} {t : TypeId} (hb : Below (W.alloc (.cells cs t)).heap.size (W.alloc (.cells cs t)) w1) :
    (∀ o, w1.cell? ⟨W.heap.size, o, none⟩ = cs[o]?) ∧ (∀ o, w1.frozen? ⟨W.heap.size, o, none⟩ = false) ∧ W.heap.size + 1 ≤ w1.heap.size ∧ (∀ o x, (w1.alloc x).cell? ⟨W.heap.size, o, none⟩ = cs[o]?) ∧ (∀ o x, (w1.alloc x).frozen? ⟨W.heap.size, o, none⟩ = false) := by
  have hs : W.heap.size + 1 ≤ w1.heap.size := by have := hb.size; simpa using this
  have h1 : ∀ o, w1.cell? ⟨W.heap.size, o, none⟩ = cs[o]? := fun o => (hb.cell (p := ⟨W.heap.size, o, none⟩) (by simp)).trans (World.cell?_alloc_at _ _ _ _ rfl)
  have h2 : ∀ o, w1.frozen? ⟨W.heap.size, o, none⟩ = false := fun o => by
    rw [hb.frozen (p := ⟨W.heap.size, o, none⟩) (by simp)]
    have hk : (W.alloc (.cells cs t)).heap[W.heap.size]? = some (.cells cs t (0, 0)) := heap_alloc_new W _
    unfold World.frozen?
    rw [hk]
    simp
  refine ⟨h1, h2, hs, fun o x => ?_, fun o x => ?_⟩
  · rw [World.cell?_alloc_lt w1 x ⟨W.heap.size, o, none⟩ (by show W.heap.size < _; omega)]; exact h1 o
  · rw [((Below.refl w1.heap.size w1).alloc (Nat.le_refl _) x).frozen (p := ⟨W.heap.size, o, none⟩) (by show W.heap.size < _; omega)]; exact h2 o

theorem old_after {W w1 : World} {o1 : Obj} (hb : Below (W.alloc o1).heap.size (W.alloc o1) w1) {g : Nat} (hg : g < W.heap.size) (o : Nat) (x : Obj) : (w1.alloc x).cell? ⟨g, o, none⟩ = W.cell? ⟨g, o, none⟩ := by
  have hs : W.heap.size + 1 ≤ w1.heap.size := by have := hb.size; simpa using this
  rw [World.cell?_alloc_lt w1 x ⟨g, o, none⟩ (by show g < _; omega), hb.cell (p := ⟨g, o, none⟩) (by simp; omega)]
  exact World.cell?_alloc_lt W o1 ⟨g, o, none⟩ hg

/-- How a line's pick is told. -/
def LineEnd (w : World) (r : Pk × Int) (e : Ending) (w' : World) : Prop := e = .returned (.tuple #[.agg #[.int .i64 r.1.task, .int .i64 r.1.op], .int .i64 r.2]) ∧ Below w.heap.size w w'

set_option maxRecDepth 100000 in
set_option maxHeartbeats 1000000 in
/-- A line's pick. -/
theorem line_any (g cap : Nat) (x : List UInt8) (L : List (List UInt8)) (w : World) (hL : StrsAt w g (x :: L)) (hs : ∀ l ∈ x :: L, l.length ≤ 100000) (hg : Glob w) :
    Calls Tryd.prog 35 #[.slice (some ⟨g, 0, none⟩) (x :: L).length cap] w (LineEnd w (lineL (x :: L))) := by
  have c0 : w.cell? ⟨g, 0, none⟩ = some (sv x) := hL 0 (by simp)
  have hgb : g < w.heap.size := World.block_lt_of_cell? w _ c0
  have hT := fun w' (hb : Below w.heap.size w w') => task_any (bs x) w' (hs x (by simp)) (hg.below hb)
  simp only [toList_bs] at hT
  have HT := Lib.hid hT
  have HG := Lib.hid hg
  clear hT hg
  cases ht : taskL x with
  | none =>
    have hr : lineL (x :: L) = (Pk.zero, 4) := by simp only [lineL, ht]
    rw [hr]
    rw [ht] at HT
    clear hr ht hL hs
    go_enter Tryd.func35, Tryd.ntmps35
    go_wp2_with (first
      | (go_at_call 69; refine (HT.out _ (by exact (Below.refl _ _).alloc (Nat.le_refl _) _)).mono ?_; rintro e w1 ⟨n', rfl, hn', hb1⟩; obtain ⟨hc1, hf1, hz1, ha1, hg1⟩ := box_after hb1; have ho1 := (fun o x => old_after hb1 hgb o x); have HB1 := Lib.hid hb1; clear hb1; simp only [Option.isSome_none])
      | go_in)
    have HBX := ((Below.refl _ w).alloc (Nat.le_refl _) _).trans (HB1.out.mono (by simp))
    exact bodyPost_ret (v := .tuple #[.agg #[.int .i64 0, .int .i64 0], .int .i64 4]) (by simp [results, Tryd.results35, go_sem, hc1, hf1, hz1]) rfl ⟨rfl, (by repeat (first | with_reducible exact HBX | with_reducible refine Below.alloc ?_ (by first | omega | (simp [go_sem]; done) | (simp [go_sem]; omega)) _ | with_reducible refine Below.setCell ?_ (by first | omega | (simp [go_sem]; done) | (simp [go_sem]; omega)) _))⟩
  | some n =>
    have hge : 0 ≤ (n : Int) := by omega
    rw [ht] at HT
    cases L with
    | nil =>
      have hr : lineL [x] = (⟨n, 0⟩, 0) := by simp only [lineL, ht]
      rw [hr]
      clear hr ht hL hs
      simp only [List.length_singleton]
      go_enter Tryd.func35, Tryd.ntmps35
      go_wp2_with (first
        | (go_at_call 69; refine (HT.out _ (by exact (Below.refl _ _).alloc (Nat.le_refl _) _)).mono ?_; rintro e w1 ⟨n', rfl, hn', hb1⟩; obtain ⟨hc1, hf1, hz1, ha1, hg1⟩ := box_after hb1; have ho1 := (fun o x => old_after hb1 hgb o x); have HB1 := Lib.hid hb1; clear hb1; simp only [Option.isSome_some]; obtain rfl := hn' _ rfl; clear hn')
        | go_in)
      have HBX := ((Below.refl _ w).alloc (Nat.le_refl _) _).trans (HB1.out.mono (by simp))
      exact bodyPost_ret (v := .tuple #[.agg #[.int .i64 n, .int .i64 0], .int .i64 0]) (by simp [results, Tryd.results35, go_sem, hc1, hz1, ha1, hg1]) rfl ⟨rfl, (by repeat (first | with_reducible exact HBX | with_reducible refine Below.alloc ?_ (by first | omega | (simp [go_sem]; done) | (simp [go_sem]; omega)) _ | with_reducible refine Below.setCell ?_ (by first | omega | (simp [go_sem]; done) | (simp [go_sem]; omega)) _))⟩
    | cons v vs =>
      have c1 : w.cell? ⟨g, 1, none⟩ = some (sv v) := hL 1 (by simp)
      have HN := Lib.hid (fun w' => number_any (bs v) w')
      simp only [toList_bs] at HN
      by_cases hv : opNum v = 0
      · have hr : lineL (x :: v :: vs) = (Pk.zero, 5) := by simp only [lineL, ht, hv, if_true]
        rw [hr]
        rw [hv] at HN
        have hlen : 2 ≤ (x :: v :: vs).length := by simp
        generalize (x :: v :: vs).length = m at *
        clear hr ht hL hs
        go_enter Tryd.func35, Tryd.ntmps35
        go_wp2_with (first
          | (go_at_call 69; refine (HT.out _ (by exact (Below.refl _ _).alloc (Nat.le_refl _) _)).mono ?_; rintro e w1 ⟨n', rfl, hn', hb1⟩; obtain ⟨hc1, hf1, hz1, ha1, hg1⟩ := box_after hb1; have ho1 := (fun o x => old_after hb1 hgb o x); have HB1 := Lib.hid hb1; clear hb1; simp only [Option.isSome_some]; obtain rfl := hn' _ rfl; clear hn')
          | (go_at_call 18; refine (HN.out _).mono ?_; rintro e w2 ⟨rfl, hb2⟩; obtain ⟨hc2, hf2, hz2, ha2, hg2⟩ := box_after hb2; obtain ⟨hd2, hh2⟩ := bcell hb2; have HB2 := Lib.hid hb2; clear hb2; have k2 : ∀ o, w2.cell? ⟨w.heap.size, o, none⟩ = #[Value.int .i64 0, .int .i64 0][o]? := (fun o => (hd2 _ _ (by simp; omega)).trans (ha1 _ _)); have f2 : ∀ o, w2.frozen? ⟨w.heap.size, o, none⟩ = false := (fun o => (hh2 _ _ (by simp; omega)).trans (hg1 _ _)); clear hd2 hh2)
          | go_in)
        have HBX := ((((Below.refl _ w).alloc (Nat.le_refl _) _).trans (HB1.out.mono (by simp))).alloc (by omega) _).trans (HB2.out.mono (by simp; omega))
        exact bodyPost_ret (v := .tuple #[.agg #[.int .i64 0, .int .i64 0], .int .i64 5]) (by simp [results, Tryd.results35, go_sem, k2, f2, hc2, hf2, hz2, hz1]) rfl ⟨rfl, (by repeat (first | with_reducible exact HBX | with_reducible refine Below.alloc ?_ (by first | omega | (simp [go_sem]; done) | (simp [go_sem]; omega)) _ | with_reducible refine Below.setCell ?_ (by first | omega | (simp [go_sem]; done) | (simp [go_sem]; omega)) _))⟩
      · have hq1 : 0 < opNum v := by omega
        have hq2 : (((opNum v : Nat) : Int) == 0) = false := by simp; omega
        cases vs with
        | nil =>
          have hr : lineL [x, v] = (⟨n, opNum v⟩, 0) := by simp only [lineL, ht, if_neg hv]
          rw [hr]
          clear hr ht hL hs hv
          simp only [List.length_cons, List.length_nil, Nat.zero_add]
          generalize opNum v = q at *
          go_enter Tryd.func35, Tryd.ntmps35
          go_wp2_with (first
            | (go_at_call 69; refine (HT.out _ (by exact (Below.refl _ _).alloc (Nat.le_refl _) _)).mono ?_; rintro e w1 ⟨n', rfl, hn', hb1⟩; obtain ⟨hc1, hf1, hz1, ha1, hg1⟩ := box_after hb1; have ho1 := (fun o x => old_after hb1 hgb o x); have HB1 := Lib.hid hb1; clear hb1; simp only [Option.isSome_some]; obtain rfl := hn' _ rfl; clear hn')
            | (go_at_call 18; refine (HN.out _).mono ?_; rintro e w2 ⟨rfl, hb2⟩; obtain ⟨hc2, hf2, hz2, ha2, hg2⟩ := box_after hb2; obtain ⟨hd2, hh2⟩ := bcell hb2; have HB2 := Lib.hid hb2; clear hb2; have k2 : ∀ o, w2.cell? ⟨w.heap.size, o, none⟩ = #[Value.int .i64 0, .int .i64 0][o]? := (fun o => (hd2 _ _ (by simp; omega)).trans (ha1 _ _)); have f2 : ∀ o, w2.frozen? ⟨w.heap.size, o, none⟩ = false := (fun o => (hh2 _ _ (by simp; omega)).trans (hg1 _ _)); clear hd2 hh2)
            | go_in)
          have HBX := ((((Below.refl _ w).alloc (Nat.le_refl _) _).trans (HB1.out.mono (by simp))).alloc (by omega) _).trans (HB2.out.mono (by simp; omega))
          exact bodyPost_ret (v := .tuple #[.agg #[.int .i64 n, .int .i64 q], .int .i64 0]) (by simp [results, Tryd.results35, go_sem, k2, f2, hc2, hf2, hz2, hz1]) rfl ⟨rfl, (by repeat (first | with_reducible exact HBX | with_reducible refine Below.alloc ?_ (by first | omega | (simp [go_sem]; done) | (simp [go_sem]; omega)) _ | with_reducible refine Below.setCell ?_ (by first | omega | (simp [go_sem]; done) | (simp [go_sem]; omega)) _))⟩
        | cons y ys =>
          have hr : lineL (x :: v :: y :: ys) = (Pk.zero, 4) := by simp only [lineL, ht, if_neg hv]
          rw [hr]
          have hlen : 3 ≤ (x :: v :: y :: ys).length := by simp
          generalize (x :: v :: y :: ys).length = m at *
          clear hr ht hL hs hv
          generalize opNum v = q at *
          go_enter Tryd.func35, Tryd.ntmps35
          go_wp2_with (first
            | (go_at_call 69; refine (HT.out _ (by exact (Below.refl _ _).alloc (Nat.le_refl _) _)).mono ?_; rintro e w1 ⟨n', rfl, hn', hb1⟩; obtain ⟨hc1, hf1, hz1, ha1, hg1⟩ := box_after hb1; have ho1 := (fun o x => old_after hb1 hgb o x); have HB1 := Lib.hid hb1; clear hb1; simp only [Option.isSome_some]; obtain rfl := hn' _ rfl; clear hn')
            | (go_at_call 18; refine (HN.out _).mono ?_; rintro e w2 ⟨rfl, hb2⟩; obtain ⟨hc2, hf2, hz2, ha2, hg2⟩ := box_after hb2; obtain ⟨hd2, hh2⟩ := bcell hb2; have HB2 := Lib.hid hb2; clear hb2; have k2 : ∀ o, w2.cell? ⟨w.heap.size, o, none⟩ = #[Value.int .i64 0, .int .i64 0][o]? := (fun o => (hd2 _ _ (by simp; omega)).trans (ha1 _ _)); have f2 : ∀ o, w2.frozen? ⟨w.heap.size, o, none⟩ = false := (fun o => (hh2 _ _ (by simp; omega)).trans (hg1 _ _)); clear hd2 hh2)
            | go_in)
          have HBX := ((((Below.refl _ w).alloc (Nat.le_refl _) _).trans (HB1.out.mono (by simp))).alloc (by omega) _).trans (HB2.out.mono (by simp; omega))
          exact bodyPost_ret (v := .tuple #[.agg #[.int .i64 0, .int .i64 0], .int .i64 4]) (by simp [results, Tryd.results35, go_sem, k2, f2, hc2, hf2, hz2, hz1]) rfl ⟨rfl, (by repeat (first | with_reducible exact HBX | with_reducible refine Below.alloc ?_ (by first | omega | (simp [go_sem]; done) | (simp [go_sem]; omega)) _ | with_reducible refine Below.setCell ?_ (by first | omega | (simp [go_sem]; done) | (simp [go_sem]; omega)) _))⟩

end Go.Proofs.YteifhbkhjkmhfaaDoor
