/-
  The walks of what makes a rule, and of what is known of a task.
-/
import Derived.Test.YteifhbkhjkmhfaaRuN
namespace Go.Proofs.Yteifhbkhjkmhfaa
open Go.RowKit
set_option linter.unusedSimpArgs false
set_option linter.unusedVariables false

def kindsL : List ByteArray := [⟨#[]⟩, ⟨#[116, 97, 115, 107, 45, 102, 97, 105, 114]⟩, ⟨#[112, 104, 97, 115, 101, 45, 102, 97, 105, 114]⟩, ⟨#[112, 104, 97, 115, 101, 45, 113, 117, 101, 117, 101]⟩, ⟨#[102, 97, 105, 114, 45, 113, 117, 101, 117, 101]⟩, ⟨#[114, 101, 97, 100, 101, 114, 115, 45, 102, 105, 114, 115, 116]⟩, ⟨#[119, 114, 105, 116, 101, 114, 115, 45, 102, 105, 114, 115, 116]⟩]
theorem kinds_any (w : World) : Calls Try.prog 26 #[] w fun e w' => e = .returned (.slice (some ⟨w.heap.size, 0, none⟩) 7 7) ∧ w' = w.alloc (.cells (strRow kindsL) 9) := by
  go_enter Try.func26, Try.ntmps26
  go_wp2
  go_ret
  exact ⟨rfl, rfl⟩
def kindS (k : Int) : ByteArray := atS kindsL k

set_option maxHeartbeats 1000000 in
theorem Name_any (k : Int) (w : World) : Calls Try.prog 16 #[.int .i64 k] w fun e w' => e = .returned (.string (kindS k)) ∧ w' = w.alloc (.cells (strRow kindsL) 9) := by
  by_cases h0 : k < 0
  · go_enter Try.func16, Try.ntmps16
    go_wp2_with fail
    refine (kinds_any _).mono ?_
    rintro e w' ⟨rfl, rfl⟩
    go_wp2
    go_ret
    exact ⟨by simp [kindS, atS, h0], rfl⟩
  · by_cases h1 : (7 : Int) ≤ k
    · go_enter Try.func16, Try.ntmps16
      go_wp2_with fail
      refine (kinds_any _).mono ?_
      rintro e w' ⟨rfl, rfl⟩
      go_wp2
      go_ret
      exact ⟨by simp [kindS, atS, kindsL, h1], rfl⟩
    · obtain ⟨m, rfl⟩ : ∃ m : Nat, k = m := ⟨k.toNat, by omega⟩
      have hm : m < 7 := by omega
      have hz := strRow_cell w kindsL m hm
      generalize hs : kindsL.getD m ⟨#[]⟩ = s at hz
      go_enter Try.func16, Try.ntmps16
      go_wp2_with fail
      refine (kinds_any _).mono ?_
      rintro e w' ⟨rfl, rfl⟩
      go_wp2
      go_ret
      refine ⟨?_, rfl⟩
      unfold kindS atS
      rw [if_neg (by have : kindsL.length = 7 := rfl; omega)]
      simp only [Int.toNat_natCast, hs]
      rfl

theorem run_make_rowN {P : Program} (t e : TypeId) (i : TypeInfo) (z : Value) (ht : P.underlying t = some (.slice e)) (hi : P.info? e = some i) (hz : i.zero = some z)
    (kl kc : IntKind) (n c : Nat) (hnc : n ≤ c) (hbytes : i.bytes * c ≤ 281474976710656) (h63 : c ≤ 9223372036854775807) (w : World) :
    (Instr.makeSlice t (.int kl (n : Int)) (.int kc (c : Int))).run P w = .ok (.slice (some ⟨w.heap.size, 0, none⟩) n c) (w.alloc (.cells (madeCells z.cells (c * i.size)) e)) := by
  have hb : (i.bytes : Int) * (c : Int) ≤ 281474976710656 := by
    have h : ((i.bytes * c : Nat) : Int) ≤ 281474976710656 := by omega
    rwa [Int.natCast_mul] at h
  have hr := run_make (P := P) w t e i z ht hi hz kl kc n c (by omega) (by omega) hb (by omega)
  simp only [Int.toNat_natCast] at hr
  exact hr

theorem rowOf_zero (n : Nat) : madeCells (Tsk.zero.cells).toArray (n * 9) = rowOf (List.replicate n Tsk.zero) := by
  apply Array.ext
  · rw [size_madeCells, rowOf_size, List.length_replicate]
  · intro i h1 h2
    rw [size_madeCells] at h1
    have hj : i / 9 < n := by omega
    have e : i = i / 9 * 9 + i % 9 := by omega
    have h := rowOf_at (List.replicate n Tsk.zero) (i / 9) (i % 9) (by simpa using hj) (by omega)
    rw [← e, Array.getElem?_eq_getElem h2] at h
    have h3 : (List.replicate n Tsk.zero).getD (i / 9) Tsk.zero = Tsk.zero := by simp [hj]
    rw [h3] at h
    have h4 : i % 9 < Tsk.zero.cells.length := by show i % 9 < 9; omega
    rw [List.getElem?_eq_getElem h4] at h
    injection h with h
    rw [h]
    simp only [madeCells, Array.getElem_map, Array.getElem_range]
    rw [getElem!_pos _ _ (by show i % 9 < 9; omega)]
    rfl

def newR (k : Int) (n : Nat) : Rul := ⟨k, List.replicate n Tsk.zero, 0, 0⟩

set_option maxHeartbeats 1000000 in
theorem New_no (k n : Int) (w : World) (h : (kindS k).toList.isEmpty = true ∨ n < 1 ∨ 64 < n) :
    Calls Try.prog 5 #[.int .i64 k, .int .i64 n] w fun e w' => (∃ c, c ≠ 0 ∧ e = .returned (.tuple #[.pointer none, .int .i64 c])) ∧ Below w.heap.size w w' := by
  cases hk : (kindS k).toList.isEmpty
  · rw [hk] at h
    have hn : n < 1 ∨ 64 < n := by simpa using h
    rcases hn with hn | hn
    all_goals
      go_enter Try.func5, Try.ntmps5
      go_wp2_with fail
      refine (Name_any _ _).mono ?_
      rintro e w' ⟨rfl, rfl⟩
      go_wp2
      go_ret2
      exact ⟨⟨2, by decide, rfl⟩, (Below.refl _ _).alloc (Nat.le_refl _) _⟩
  · go_enter Try.func5, Try.ntmps5
    go_wp2_with fail
    refine (Name_any _ _).mono ?_
    rintro e w' ⟨rfl, rfl⟩
    go_wp2
    go_ret2
    exact ⟨⟨3, by decide, rfl⟩, (Below.refl _ _).alloc (Nat.le_refl _) _⟩

theorem kindS_is {k : Int} (h : (kindS k).toList.isEmpty = false) : IsKind k := by
  have := atS_some (ss := kindsL) rfl h
  have h7 : kindsL.length = 7 := rfl
  unfold IsKind
  omega

set_option maxHeartbeats 1000000 in
theorem New_yes (k : Int) (n : Nat) (w : World) (hk : (kindS k).toList.isEmpty = false) (h1 : 1 ≤ n) (h2 : n ≤ 64) :
    Calls Try.prog 5 #[.int .i64 k, .int .i64 n] w fun e w' => (∃ b c, w.heap.size ≤ b ∧ w.heap.size ≤ c ∧ e = .returned (.tuple #[.pointer (some ⟨b, 0, none⟩), .int .i64 0]) ∧ RuleAt w' b c (newR k n)) ∧ Below w.heap.size w w' := by
  obtain ⟨i0, hi, hz0, hz1, hz2⟩ := info_parts info47
  have hmk := fun W => run_make_rowN (P := Try.prog) 41 47 i0 _ Try.underlying41 hi hz0 .i64 .i64 n n (Nat.le_refl _) (by rw [hz2]; omega) (by omega) W
  rw [hz1] at hmk
  have hrow : madeCells (Value.agg #[.int .i64 0, .int .i64 0, .int .i64 0, .int .i64 0, .int .i64 0, .int .i64 0, .int .i64 0, .bool false, .bool false]).cells (n * 9) = rowOf (List.replicate n Tsk.zero) := rowOf_zero n
  rw [hrow] at hmk
  clear hrow hz0 hz1 hz2 hi
  have hn1 : ¬ ((n : Int) < 1) := by omega
  have hn2 : ¬ ((64 : Int) < n) := by omega
  go_enter Try.func5, Try.ntmps5
  go_wp2_with fail
  refine (Name_any _ _).mono ?_
  rintro e w' ⟨rfl, rfl⟩
  go_wp2
  go_ret2
  refine ⟨⟨w.heap.size + 1 + 1, w.heap.size + 1, by omega, by omega, rfl, ?_, ?_, ?_⟩, ?_⟩
  · simp only [newR, List.length_replicate]
    exact Blk.new' ((w.alloc (.cells (strRow kindsL) 9)).alloc (.cells (rowOf (List.replicate n Tsk.zero)) 47)) (w.heap.size + 1 + 1) 43 _ (by simp [go_sem])
  · exact Blk.alloc (Blk.new' (w.alloc (.cells (strRow kindsL) 9)) (w.heap.size + 1) 47 _ (by simp [go_sem])) _
  · simpa [newR] using h2
  · exact (((Below.refl _ _).alloc (Nat.le_refl _) _).alloc (by simp [go_sem]) _).alloc (by simp [go_sem]; omega) _

def Tsk.val (t : Tsk) : Value := .agg #[.int .i64 t.op, .int .i64 t.hold, .int .i64 t.req, .int .i64 t.rank, .int .i64 t.presence, .int .i64 t.seen, .int .i64 t.bar, .bool t.leaving, .bool t.refused]

set_option maxHeartbeats 4000000 in
theorem known_any (b c me : Nat) (R : Rul) (w : World) (hR : RuleAt w b c R) (hme : me < R.l.length) :
    Calls Try.prog 23 #[.pointer (some ⟨b, 0, none⟩), .int .i64 me] w fun e w' => e = .returned (R.t me).val ∧ Below w.heap.size w w' := by
  have hb := hR.head.lt
  have hc := hR.body.lt
  obtain ⟨k0, k1, k2, k3⟩ := hR.heads
  have hfb := hR.head.frozen
  have hfc := hR.body.frozen
  obtain ⟨t0, t1, t2, t3, t4, t5, t6, t7, t8⟩ := hR.task hme
  have hl := hR.len
  clear hR
  go_enter Try.func23, Try.ntmps23
  go_wp2
  exact bodyPost_ret (v := (R.t me).val) (by simp [results, Try.results23, go_sem, Tsk.val]) rfl ⟨rfl, (Below.refl _ _).alloc (Nat.le_refl _) _⟩

theorem fld0 (a b c d e f g : Int) (h i : Bool) (w : World) : (Instr.field 47 (.agg #[.int .i64 a, .int .i64 b, .int .i64 c, .int .i64 d, .int .i64 e, .int .i64 f, .int .i64 g, .bool h, .bool i]) 0).run Try.prog w = .ok (.int .i64 a) w := by kernel_rfl
theorem fld1 (a b c d e f g : Int) (h i : Bool) (w : World) : (Instr.field 47 (.agg #[.int .i64 a, .int .i64 b, .int .i64 c, .int .i64 d, .int .i64 e, .int .i64 f, .int .i64 g, .bool h, .bool i]) 1).run Try.prog w = .ok (.int .i64 b) w := by kernel_rfl

theorem Hold_any (b c me : Nat) (R : Rul) (w : World) (hR : RuleAt w b c R) (hme : me < R.l.length) :
    Calls Try.prog 8 #[.pointer (some ⟨b, 0, none⟩), .int .i64 me] w fun e w' => e = .returned (.int .i64 (R.t me).hold) ∧ Below w.heap.size w w' := by
  have hfl := fun w => fld1 (R.t me).op (R.t me).hold (R.t me).req (R.t me).rank (R.t me).presence (R.t me).seen (R.t me).bar (R.t me).leaving (R.t me).refused w
  go_enter Try.func8, Try.ntmps8
  go_wp2_with fail
  refine (known_any b c me R _ hR hme).mono ?_
  rintro e w' ⟨rfl, hb⟩
  clear hR
  have HB := Lib.hid hb; clear hb
  unfold Tsk.val
  go_wp2
  go_ret
  exact ⟨rfl, HB.out⟩

theorem Within_any (b c me : Nat) (R : Rul) (w : World) (hR : RuleAt w b c R) (hme : me < R.l.length) :
    Calls Try.prog 17 #[.pointer (some ⟨b, 0, none⟩), .int .i64 me] w fun e w' => e = .returned (.int .i64 (R.t me).op) ∧ Below w.heap.size w w' := by
  have hfl := fun w => fld0 (R.t me).op (R.t me).hold (R.t me).req (R.t me).rank (R.t me).presence (R.t me).seen (R.t me).bar (R.t me).leaving (R.t me).refused w
  go_enter Try.func17, Try.ntmps17
  go_wp2_with fail
  refine (known_any b c me R _ hR hme).mono ?_
  rintro e w' ⟨rfl, hb⟩
  clear hR
  have HB := Lib.hid hb; clear hb
  unfold Tsk.val
  go_wp2
  go_ret
  exact ⟨rfl, HB.out⟩

end Go.Proofs.Yteifhbkhjkmhfaa
