/-
  The words of the rule's proof: a task, its cells in memory, what is asked of other tasks; small laws on pointers, draws and blocks.
-/
import Derived.Test.YteifhbkhjkmhfaaRows
import Derived.WalkKit
import Derived.WalkSpells
import Derived.WalkLawsBesides
import Derived.Deep.QuietTactic
import Derived.BigQuiet
import Derived.Lib.Hide
import Derived.Outline
import Derived.LaidEqlPtr
import Derived.Shelf.Abstract
namespace Go.Proofs.Yteifhbkhjkmhfaa
open Go.RowKit

/-- Block g is just the cells cs of element type t, none frozen. -/
def Blk (w : World) (g : Nat) (t : TypeId) (cs : Array Value) : Prop := w.heap[g]? = some (.cells cs t (0, 0))

section
variable {w w' : World} {g : Nat} {t : TypeId} {cs : Array Value}
theorem Blk.lt (h : Blk w g t cs) : g < w.heap.size := by
  rcases Nat.lt_or_ge g w.heap.size with hlt | hge
  · exact hlt
  · unfold Blk at h; rw [Array.getElem?_eq_none hge] at h; cases h
theorem Blk.cell (h : Blk w g t cs) (i : Nat) : w.cell? ⟨g, i, none⟩ = cs[i]? := cell_of_row w g i cs t (0, 0) h
theorem Blk.frozen (h : Blk w g t cs) (i : Nat) : w.frozen? ⟨g, i, none⟩ = false := by
  unfold Blk at h
  simp [World.frozen?, h]
theorem Blk.new (w : World) (t : TypeId) (cs : Array Value) : Blk (w.alloc (.cells cs t)) w.heap.size t cs := heap_alloc_new w _
theorem Blk.drew (h : Blk w g t cs) : Blk w.drew g t cs := h
theorem Blk.drewN (h : Blk w g t cs) (n : Nat) : Blk (w.drewN n) g t cs := h
theorem Blk.alloc (h : Blk w g t cs) (o : Obj) : Blk (w.alloc o) g t cs := (Below.heap_alloc w o g h.lt).trans h
theorem Blk.set_ (h : Blk w g t cs) (i : Nat) (u : Value) : Blk (w.setCell ⟨g, i, none⟩ u) g t (cs.setIfInBounds i u) := by
  unfold Blk at h ⊢
  simp [World.setCell, Array.getElem?_modify, h]
theorem Blk.far (h : Blk w g t cs) {p : Addr} (hp : g ≠ p.block) (u : Value) : Blk (w.setCell p u) g t cs := (Below.heap_setCell w p u g hp).trans h
theorem Blk.below {B : Nat} (h : Blk w g t cs) (hb : Below B w w') (hg : g < B) : Blk w' g t cs := (hb.block g hg).trans h
end

theorem below_drewN {B : Nat} {a w : World} (h : Below B a w) (n : Nat) : Below B a (w.drewN n) := ⟨h.os, h.tape, h.output, h.size, h.block⟩

theorem run_neq_ptr_other {P : Program} (w : World) {tp te : TypeId} {j : TypeInfo} {a b : Addr} {ca cb : Array Value} {ta tb : TypeId} (hp : P.underlying tp = some (.pointer te)) (hte : P.info? te = some j) (hsz : j.size ≠ 0)
    (hne : a ≠ b) (ha : w.heap[a.block]? = some (.cells ca ta (0, 0))) (hb : w.heap[b.block]? = some (.cells cb tb (0, 0))) :
    (binOp .neq tp (.pointer (some a)) (.pointer (some b))).run P w = .ok (.bool true) w := by
  have h : ∀ d : Nat, (Op.equalIn (d + 1) tp (.pointer (some a)) (.pointer (some b))).run P w = .ok false w := fun d => by
    simp [Op.equalIn, run_underlying hp, sizeOf, typeInfo, hte, hsz, run_sameAddr_other w hne ha hb]
  simp only [binOp]
  simp [Op.equal, Op.maxDepth, h 9999]

theorem quiet_left {P : Program} {f : FuncId} {args : Array Value} {w : World} {n : Nat} {v : Value}
    (h : Calls P f args (w.drewN n) fun e w' => e = .returned v ∧ w.drewN n = w') : Calls P f args (w.drewN n) fun e w'' => e = .returned v ∧ ∃ m, w'' = w.drewN m :=
  h.mono fun _ _ ⟨he, hm⟩ => ⟨he, n, hm.symm⟩

/-- A task of the rule: what is known of it. -/
structure Tsk where
  op : Int
  hold : Int
  req : Int
  rank : Int
  presence : Int
  seen : Int
  bar : Int
  leaving : Bool
  refused : Bool

def Tsk.zero : Tsk := ⟨0, 0, 0, 0, 0, 0, 0, false, false⟩

def Tsk.cells (t : Tsk) : List Value := [.int .i64 t.op, .int .i64 t.hold, .int .i64 t.req, .int .i64 t.rank, .int .i64 t.presence, .int .i64 t.seen, .int .i64 t.bar, .bool t.leaving, .bool t.refused]

/-- The nine cells of a task. -/
def TaskAt (w : World) (c o : Nat) (t : Tsk) : Prop :=
  w.cell? ⟨c, o, none⟩ = some (.int .i64 t.op) ∧ w.cell? ⟨c, o + 1, none⟩ = some (.int .i64 t.hold) ∧ w.cell? ⟨c, o + 2, none⟩ = some (.int .i64 t.req) ∧
  w.cell? ⟨c, o + 3, none⟩ = some (.int .i64 t.rank) ∧ w.cell? ⟨c, o + 4, none⟩ = some (.int .i64 t.presence) ∧ w.cell? ⟨c, o + 5, none⟩ = some (.int .i64 t.seen) ∧
  w.cell? ⟨c, o + 6, none⟩ = some (.int .i64 t.bar) ∧ w.cell? ⟨c, o + 7, none⟩ = some (.bool t.leaving) ∧ w.cell? ⟨c, o + 8, none⟩ = some (.bool t.refused)

theorem TaskAt.drewN {w : World} {c o : Nat} {t : Tsk} (h : TaskAt w c o t) (n : Nat) : TaskAt (w.drewN n) c o t := h

/-- The rule. -/
structure Rul where
  kind : Int
  l : List Tsk
  ranks : Int
  presences : Int

def Rul.t (R : Rul) (i : Nat) : Tsk := R.l.getD i Tsk.zero

def rowOf (l : List Tsk) : Array Value := (l.flatMap Tsk.cells).toArray

theorem rowOf_size (l : List Tsk) : (rowOf l).size = l.length * 9 := by
  unfold rowOf
  induction l with
  | nil => rfl
  | cons x l ih => simp only [List.size_toArray, List.flatMap_cons, List.length_append, List.length_cons] at *; rw [ih]; simp [Tsk.cells]; omega

theorem rowOf_at (l : List Tsk) (j i : Nat) (hj : j < l.length) (hi : i < 9) : (rowOf l)[j * 9 + i]? = (l.getD j Tsk.zero).cells[i]? := by
  unfold rowOf
  simp only [List.getElem?_toArray]
  induction l generalizing j with
  | nil => simp at hj
  | cons x l ih =>
    cases j with
    | zero => rw [List.flatMap_cons, Nat.zero_mul, Nat.zero_add, List.getElem?_append_left (by simp [Tsk.cells]; omega)]; rfl
    | succ j =>
      have hj' : j < l.length := by simpa using hj
      rw [List.flatMap_cons, List.getElem?_append_right (by simp [Tsk.cells]; omega)]
      have : (j + 1) * 9 + i - x.cells.length = j * 9 + i := by simp [Tsk.cells]; omega
      rw [this, ih j hj']
      simp

structure RuleAt (w : World) (b c : Nat) (R : Rul) : Prop where
  head : Blk w b 43 #[.int .i64 R.kind, .slice (some ⟨c, 0, none⟩) R.l.length R.l.length, .int .i64 R.ranks, .int .i64 R.presences]
  body : Blk w c 47 (rowOf R.l)
  len : R.l.length ≤ 64

theorem RuleAt.ne {w : World} {b c : Nat} {R : Rul} (h : RuleAt w b c R) : b ≠ c := by
  rintro rfl
  have h1 := h.head
  have h2 := h.body
  unfold Blk at h1 h2
  rw [h1] at h2
  injection h2 with h2
  injection h2 with _ h3
  cases h3

theorem RuleAt.drewN {w : World} {b c : Nat} {R : Rul} (h : RuleAt w b c R) (n : Nat) : RuleAt (w.drewN n) b c R := ⟨h.head, h.body, h.len⟩
theorem RuleAt.alloc {w : World} {b c : Nat} {R : Rul} (h : RuleAt w b c R) (o : Obj) : RuleAt (w.alloc o) b c R := ⟨h.head.alloc o, h.body.alloc o, h.len⟩
theorem RuleAt.below {w w' : World} {b c : Nat} {R : Rul} (h : RuleAt w b c R) (hb : Below w.heap.size w w') : RuleAt w' b c R := ⟨h.head.below hb h.head.lt, h.body.below hb h.body.lt, h.len⟩

theorem RuleAt.task {w : World} {b c : Nat} {R : Rul} (h : RuleAt w b c R) {j : Nat} (hj : j < R.l.length) : TaskAt w c (j * 9) (R.t j) := by
  have g : ∀ i, i < 9 → w.cell? ⟨c, j * 9 + i, none⟩ = (R.t j).cells[i]? := fun i hi => (h.body.cell _).trans (rowOf_at R.l j i hj hi)
  exact ⟨g 0 (by omega), g 1 (by omega), g 2 (by omega), g 3 (by omega), g 4 (by omega), g 5 (by omega), g 6 (by omega), g 7 (by omega), g 8 (by omega)⟩

theorem RuleAt.heads {w : World} {b c : Nat} {R : Rul} (h : RuleAt w b c R) : w.cell? ⟨b, 0, none⟩ = some (.int .i64 R.kind) ∧ w.cell? ⟨b, 1, none⟩ = some (.slice (some ⟨c, 0, none⟩) R.l.length R.l.length) ∧
    w.cell? ⟨b, 2, none⟩ = some (.int .i64 R.ranks) ∧ w.cell? ⟨b, 3, none⟩ = some (.int .i64 R.presences) :=
  ⟨h.head.cell 0, h.head.cell 1, h.head.cell 2, h.head.cell 3⟩

/-- Is something so of one of the others? -/
def othersB (n me : Nat) (f : Nat → Bool) : Bool := (List.range n).any fun j => decide (j ≠ me) && f j

/-- A function value that tells f of the tasks, in the world w (but for draws); it writes nothing. -/
def PredOk (g : FuncId) (caps : Array Value) (w : World) (c n : Nat) (f : Nat → Bool) : Prop :=
  ∀ j, j < n → ∀ m, Calls Try.prog g (#[.pointer (some ⟨c, j * 9, none⟩)] ++ caps) (w.drewN m) fun e w'' => e = .returned (.bool (f j)) ∧ ∃ m', w'' = w.drewN m'

/-- A function that can be entered. -/
def Opens (g : FuncId) : Prop := ∀ (args : Array Value) (w : World), (callFunc g args).run Try.prog w = .ok (.enter g args) w

theorem info47 : (Try.prog.info? 47).map (fun i => (i.zero, i.size, i.bytes)) = some (some (.agg #[.int .i64 0, .int .i64 0, .int .i64 0, .int .i64 0, .int .i64 0, .int .i64 0, .int .i64 0, .bool false, .bool false]), 9, 64) := by kernel_rfl

theorem neq_tasks (w : World) (c j me : Nat) (cs : Array Value) (hb : Blk w c 47 cs) (hne : j ≠ me) (m : Nat) :
    (binOp .neq 45 (.pointer (some ⟨c, j * 9, none⟩)) (.pointer (some ⟨c, me * 9, none⟩))).run Try.prog (w.drewN m) = .ok (.bool true) (w.drewN m) := by
  obtain ⟨i0, hi, hz0, hz1, hz2⟩ := info_parts info47
  exact run_neq_ptr_other (w.drewN m) Try.underlying45 hi (by rw [hz1]; decide) (by intro h; injection h; omega) (ca := cs) (cb := cs) (ta := 47) (tb := 47) hb hb

end Go.Proofs.Yteifhbkhjkmhfaa
