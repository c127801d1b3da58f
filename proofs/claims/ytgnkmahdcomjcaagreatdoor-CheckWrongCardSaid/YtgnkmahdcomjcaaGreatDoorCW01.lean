/- Part of the proof that CheckWrong returns true, whatever the four bytes; tied to the program's own text (part 1 of 14) -/
import Derived.WalkKit
import Derived.BigFrame
import Derived.WalkSpells
import Derived.WalkLawsBesides
import Derived.Deep.QuietTactic
import Derived.Deep.MidRow
import Derived.BigQuiet
set_option linter.unusedVariables false
set_option linter.unusedSimpArgs false
namespace Go.Dyn
open Go
/-- A guard that says yes is no guard. -/
theorem wl_unguard {P : Program} {ops : Array Oper} {Q : Exit → Act → World → Prop} {rest : List Oper} {a : Act} {w : World} {dst : Option Tmp} {op : Op} {type : TypeId} {pos : String} {after : Array _} {guard : Option _} (hw : Region.wanted ⟨dst, op, type, pos, after, guard⟩ (yielded ops a.tmps) = true)
    (h : wpList P ops Q (⟨dst, op, type, pos, after, none⟩ :: rest) a w) : wpList P ops Q (⟨dst, op, type, pos, after, guard⟩ :: rest) a w := by
  unfold wpList at *
  rw [if_pos hw]
  rw [if_pos (by simp [Region.wanted])] at h
  exact h
end Go.Dyn
namespace Go.Dyn
open Go Go.RowKit

/-- An item: some blocks, and what holds of them. -/
structure It where
  ids : List Nat
  ok : World → Prop
  loc : ∀ {w w' : World}, (∀ i, i ∈ ids → w'.heap[i]? = w.heap[i]?) → ok w → ok w'
  inb : ∀ {w : World}, ok w → ∀ i, i ∈ ids → i < w.heap.size

/-- One block of cells, whole. -/
def blk (b : Nat) (cs : Array Value) (T : TypeId) : It where
  ids := [b]
  ok w := w.heap[b]? = some (.cells cs T (0, 0))
  loc h k := by rw [h b (by simp)]; exact k
  inb h i hi := by
    have : i = b := by simpa using hi
    subst this
    exact (Array.getElem?_eq_some_iff.1 h).1

/-- w0 became w: the blocks of F may have changed, L tells what is now owned; all else that was there is as it was. -/
structure Chg (w0 w : World) (F : List Nat) (L : List It) : Prop where
  os : w.os = w0.os
  tape : w.tape = w0.tape
  output : w.output = w0.output
  size : w0.heap.size ≤ w.heap.size
  frame : ∀ b, b < w0.heap.size → b ∉ F → w.heap[b]? = w0.heap[b]?
  all : ∀ it, it ∈ L → it.ok w
  own : ∀ it, it ∈ L → ∀ i, i ∈ it.ids → i ∈ F ∨ w0.heap.size ≤ i
  nodup : (L.flatMap It.ids).Nodup

theorem Chg.nil (w : World) (F : List Nat) : Chg w w F [] :=
  ⟨rfl, rfl, rfl, Nat.le_refl _, fun _ _ _ => rfl, by simp, by simp, by simp⟩

theorem Chg.init (w : World) (F : List Nat) (L : List It) (h1 : ∀ it, it ∈ L → it.ok w) (h2 : ∀ it, it ∈ L → ∀ i, i ∈ it.ids → i ∈ F) (h3 : (L.flatMap It.ids).Nodup) : Chg w w F L :=
  ⟨rfl, rfl, rfl, Nat.le_refl _, fun _ _ _ => rfl, h1, fun it hi i hk => .inl (h2 it hi i hk), h3⟩

theorem Chg.perm {w0 w : World} {F : List Nat} {L L' : List It} (h : Chg w0 w F L) (p : L.Perm L') : Chg w0 w F L' :=
  ⟨h.os, h.tape, h.output, h.size, h.frame, fun it hi => h.all it (p.mem_iff.2 hi), fun it hi => h.own it (p.mem_iff.2 hi), ((p.flatMap_right It.ids).nodup_iff).1 h.nodup⟩

theorem Chg.tail {w0 w : World} {F : List Nat} {it : It} {L : List It} (h : Chg w0 w F (it :: L)) : Chg w0 w F L :=
  ⟨h.os, h.tape, h.output, h.size, h.frame, fun x hx => h.all x (by simp [hx]), fun x hx => h.own x (by simp [hx]), by
    have := h.nodup
    simp only [List.flatMap_cons] at this
    exact (List.nodup_append.1 this).2.1⟩

theorem Chg.head {w0 w : World} {F : List Nat} {it : It} {L : List It} (h : Chg w0 w F (it :: L)) : it.ok w := h.all it (by simp)

theorem perm_front {α : Type} : ∀ (L : List α) (i : Nat) (x : α), L[i]? = some x → L.Perm (x :: L.eraseIdx i)
  | [], _, _, h => by simp at h
  | y :: L, 0, x, h => by
    have : y = x := by simpa using h
    subst this
    simp
  | y :: L, i + 1, x, h => by
    have h' : L[i]? = some x := by simpa using h
    have ih := perm_front L i x h'
    simp only [List.eraseIdx_cons_succ]
    exact (ih.cons y).trans (List.Perm.swap x y _)

/-- The i-th item comes to the front. -/
theorem Chg.front {w0 w : World} {F : List Nat} {L : List It} (i : Nat) {x : It} {L' : List It} (h : Chg w0 w F L) (h1 : L[i]? = some x) (h2 : L.eraseIdx i = L') : Chg w0 w F (x :: L') := by
  subst h2
  exact h.perm (perm_front L i x h1)

theorem Chg.get {w0 w : World} {F : List Nat} {L : List It} (i : Nat) {x : It} (h : Chg w0 w F L) (h1 : L[i]? = some x) : x.ok w := h.all x (List.mem_of_getElem? h1)

/-- Only the heap counts. -/
theorem Chg.same {w0 w w' : World} {F : List Nat} {L : List It} (h : Chg w0 w F L) (e1 : w'.os = w.os) (e2 : w'.tape = w.tape) (e3 : w'.output = w.output) (e4 : w'.heap = w.heap) : Chg w0 w' F L :=
  ⟨e1.trans h.os, e2.trans h.tape, e3.trans h.output, by rw [e4]; exact h.size, fun b hb hn => by rw [e4]; exact h.frame b hb hn,
   fun it hi => it.loc (fun i _ => by rw [e4]) (h.all it hi), h.own, h.nodup⟩

theorem Chg.drewN {w0 w : World} {F : List Nat} {L : List It} (h : Chg w0 w F L) (n : Nat) : Chg w0 (w.drewN n) F L := h.same rfl rfl rfl rfl
theorem Chg.drew {w0 w : World} {F : List Nat} {L : List It} (h : Chg w0 w F L) : Chg w0 w.drew F L := h.same rfl rfl rfl rfl

theorem Chg.lt {w0 w : World} {F : List Nat} {L : List It} (h : Chg w0 w F L) {it : It} (hi : it ∈ L) {i : Nat} (hk : i ∈ it.ids) : i < w.heap.size := it.inb (h.all it hi) i hk

/-- A new block. -/
theorem Chg.alloc {w0 w : World} {F : List Nat} {L : List It} (h : Chg w0 w F L) (cs : Array Value) (T : TypeId) : Chg w0 (w.alloc (.cells cs T)) F (blk w.heap.size cs T :: L) := by
  refine ⟨h.os, h.tape, h.output, by simp; have := h.size; omega, fun b hb hn => ?_, fun it hi => ?_, fun it hi i hk => ?_, ?_⟩
  · rw [Below.heap_alloc _ _ _ (by have := h.size; omega)]
    exact h.frame b hb hn
  · rcases List.mem_cons.1 hi with rfl | hi
    · exact heap_alloc_new w _
    · exact it.loc (fun i hk => Below.heap_alloc _ _ _ (h.lt hi hk)) (h.all it hi)
  · rcases List.mem_cons.1 hi with rfl | hi
    · have : i = w.heap.size := by simpa [blk] using hk
      exact .inr (by have := h.size; omega)
    · exact h.own it hi i hk
  · simp only [List.flatMap_cons]
    refine List.nodup_append.2 ⟨by simp [blk], h.nodup, fun a ha b hb => ?_⟩
    have : a = w.heap.size := by simpa [blk] using ha
    obtain ⟨it, hi, hk⟩ := List.mem_flatMap.1 hb
    have := h.lt hi hk
    omega

/-- A block that is written whole: anything that changes just block b. -/
theorem Chg.setBlk {w0 w w' : World} {F : List Nat} {L : List It} {b : Nat} {cs cs' : Array Value} {T T' : TypeId} (h : Chg w0 w F (blk b cs T :: L))
    (e1 : w'.os = w.os) (e2 : w'.tape = w.tape) (e3 : w'.output = w.output) (e4 : w'.heap.size = w.heap.size)
    (e5 : ∀ k, k ≠ b → w'.heap[k]? = w.heap[k]?) (e6 : w'.heap[b]? = some (.cells cs' T' (0, 0))) : Chg w0 w' F (blk b cs' T' :: L) := by
  have hn := h.nodup
  simp only [List.flatMap_cons] at hn
  have hb : ∀ it, it ∈ L → ∀ i, i ∈ it.ids → i ≠ b := fun it hi i hk e => by
    subst e
    exact (List.nodup_append.1 hn).2.2 i (by simp [blk]) i (List.mem_flatMap.2 ⟨it, hi, hk⟩) rfl
  refine ⟨e1.trans h.os, e2.trans h.tape, e3.trans h.output, by rw [e4]; exact h.size, fun k hk hnk => ?_, fun it hi => ?_, fun it hi i hk => ?_, ?_⟩
  · by_cases e : k = b
    · subst e
      rcases h.own (blk k cs T) (by simp) k (by simp [blk]) with h' | h'
      · exact absurd h' hnk
      · omega
    · rw [e5 k e]; exact h.frame k hk hnk
  · rcases List.mem_cons.1 hi with rfl | hi
    · exact e6
    · exact it.loc (fun i hk => e5 i (hb it hi i hk)) (h.all it (by simp [hi]))
  · rcases List.mem_cons.1 hi with rfl | hi
    · exact h.own (blk b cs T) (by simp) i (by simpa [blk] using hk)
    · exact h.own it (by simp [hi]) i hk
  · simpa [blk] using hn

theorem Chg.setCell {w0 w : World} {F : List Nat} {L : List It} {b : Nat} {cs : Array Value} {T : TypeId} (h : Chg w0 w F (blk b cs T :: L)) (k : Nat) (v : Value) :
    Chg w0 (w.setCell ⟨b, k, none⟩ v) F (blk b (cs.setIfInBounds k v) T :: L) :=
  h.setBlk rfl rfl rfl (by simp) (fun i hi => Below.heap_setCell _ _ _ _ hi) (heap_setCell_same w b k cs T v h.head)

/-- What a call does to what it is given, seen by its caller. -/
theorem Chg.call {w0 w w' : World} {F F1 : List Nat} {L1 L1' L2 : List It} (h : Chg w0 w F (L1 ++ L2)) (hF : ∀ i, i ∈ F1 → i ∈ L1.flatMap It.ids) (hc : Chg w w' F1 L1') : Chg w0 w' F (L1' ++ L2) := by
  have hn := h.nodup
  rw [List.flatMap_append] at hn
  have hd := List.nodup_append.1 hn
  have h2 : ∀ it, it ∈ L2 → ∀ i, i ∈ it.ids → i ∉ F1 := fun it hi i hk hf => hd.2.2 i (hF i hf) i (List.mem_flatMap.2 ⟨it, hi, hk⟩) rfl
  have hlt : ∀ it, it ∈ L2 → ∀ i, i ∈ it.ids → i < w.heap.size := fun it hi i hk => h.lt (by simp [hi]) hk
  refine ⟨hc.os.trans h.os, hc.tape.trans h.tape, hc.output.trans h.output, Nat.le_trans h.size hc.size, fun b hb hnb => ?_, fun it hi => ?_, fun it hi i hk => ?_, ?_⟩
  · have hb1 : b ∉ F1 := fun hf => by
      obtain ⟨it, hi, hk⟩ := List.mem_flatMap.1 (hF b hf)
      rcases h.own it (by simp [hi]) b hk with h' | h'
      · exact hnb h'
      · omega
    rw [hc.frame b (Nat.lt_of_lt_of_le hb h.size) hb1]
    exact h.frame b hb hnb
  · rcases List.mem_append.1 hi with hi | hi
    · exact hc.all it hi
    · exact it.loc (fun i hk => hc.frame i (hlt it hi i hk) (h2 it hi i hk)) (h.all it (by simp [hi]))
  · rcases List.mem_append.1 hi with hi | hi
    · rcases hc.own it hi i hk with h' | h'
      · obtain ⟨it', hi', hk'⟩ := List.mem_flatMap.1 (hF i h')
        exact h.own it' (by simp [hi']) i hk'
      · exact .inr (Nat.le_trans h.size h')
    · exact h.own it (by simp [hi]) i hk
  · rw [List.flatMap_append]
    refine List.nodup_append.2 ⟨hc.nodup, hd.2.1, fun a ha b hb e => ?_⟩
    subst e
    obtain ⟨it, hi, hk⟩ := List.mem_flatMap.1 ha
    obtain ⟨it2, hi2, hk2⟩ := List.mem_flatMap.1 hb
    rcases hc.own it hi a hk with h' | h'
    · exact h2 it2 hi2 a hk2 h'
    · have := hlt it2 hi2 a hk2; omega

/-- A call that owns nothing of the caller's. -/
theorem Chg.pure {w0 w w' : World} {F : List Nat} {L L' : List It} (h : Chg w0 w F L) (hc : Chg w w' [] L') : Chg w0 w' F (L' ++ L) :=
  Chg.call (L1 := []) h (by simp) hc

theorem Chg.of_below {w w' : World} (h : Below w.heap.size w w') : Chg w w' [] [] :=
  ⟨h.os, h.tape, h.output, h.size, fun b hb _ => h.block b hb, by simp, by simp, by simp⟩

theorem Chg.bel {w0 w w' : World} {F : List Nat} {L : List It} (h : Chg w0 w F L) (hb : Below w.heap.size w w') : Chg w0 w' F L := h.pure (Chg.of_below hb)

theorem Chg.below {w w' : World} {L : List It} (h : Chg w w' [] L) : Below w.heap.size w w' :=
  ⟨h.os, h.tape, h.output, h.size, fun b hb => h.frame b hb (by simp)⟩

theorem Chg.forget {w0 w : World} {F : List Nat} {L : List It} (h : Chg w0 w F L) : Chg w0 w F [] :=
  ⟨h.os, h.tape, h.output, h.size, h.frame, by simp, by simp, by simp⟩

theorem sub_flatMap {α β : Type} (f : α → List β) {l l' : List α} (h : l'.Sublist l) : (l'.flatMap f).Sublist (l.flatMap f) := by
  induction h with
  | slnil => simp
  | cons a _ ih => simp only [List.flatMap_cons]; exact ih.trans (List.sublist_append_right _ _)
  | cons_cons a _ ih => simp only [List.flatMap_cons]; exact List.Sublist.append (List.Sublist.refl _) ih

theorem Chg.sub {w0 w : World} {F : List Nat} {L L' : List It} (h : Chg w0 w F L) (hs : L'.Sublist L) : Chg w0 w F L' :=
  ⟨h.os, h.tape, h.output, h.size, h.frame, fun it hi => h.all it (hs.subset hi), fun it hi => h.own it (hs.subset hi), List.Nodup.sublist (sub_flatMap _ hs) h.nodup⟩

/-- What was there and isn't owned is there. -/
theorem Chg.old {w0 w : World} {F : List Nat} {L : List It} (h : Chg w0 w F L) {a : Addr} {v : Value} (hc : w0.cell? a = some v) (hn : a.block ∉ F) : w.cell? a = some v := by
  have hb := h.frame a.block (World.block_lt_of_cell? w0 a hc) hn
  unfold World.cell? at hc ⊢
  rw [hb]; exact hc

theorem Chg.oldBlk {w0 w : World} {F : List Nat} {L : List It} (h : Chg w0 w F L) {b : Nat} {o : Obj} (hc : w0.heap[b]? = some o) (hn : b ∉ F) : w.heap[b]? = some o := by
  rw [h.frame b (Array.getElem?_eq_some_iff.1 hc).1 hn]; exact hc

theorem blk_cell {w : World} {b : Nat} {cs : Array Value} {T : TypeId} (h : (blk b cs T).ok w) (k : Nat) : w.cell? ⟨b, k, none⟩ = cs[k]? := cell_of_row w b k cs T (0, 0) h
theorem blk_frozen {w : World} {b : Nat} {cs : Array Value} {T : TypeId} (h : (blk b cs T).ok w) (k : Nat) : w.frozen? ⟨b, k, none⟩ = false := frozen_of_row w b k cs T h
end Go.Dyn
namespace Go.Dyn
open Go Go.RowKit

/-- A type of several cells, a struct or an array. -/
class IsRow (P : Program) (T : TypeId) (n : outParam Nat) : Prop where
  und : ∃ d, P.underlying T = some d ∧ d.isRow = true
  sz : (P.info? T).map (·.size) = some n
/-- A type of one cell. -/
class IsOne (P : Program) (T : TypeId) : Prop where
  und : ∃ d, P.underlying T = some d ∧ d.isRow = false
  sz : (P.info? T).map (·.size) = some 1
/-- A type's zero value. -/
class HasZero (P : Program) (T : TypeId) (z : outParam Value) : Prop where
  zero : (P.info? T).bind (·.zero) = some z

theorem IsOne.agg {P : Program} {T : TypeId} (i : IsOne P T) (w : World) : (isAgg T).run P w = .ok false w := by
  obtain ⟨d, hu, hd⟩ := i.und
  unfold isAgg
  rw [Sem.run_bind, run_underlying hu w]
  cases d <;> simp_all [TypeDesc.isRow]

theorem IsOne.size {P : Program} {T : TypeId} (i : IsOne P T) (w : World) : (sizeOf T).run P w = .ok 1 w := by
  have := i.sz
  cases hq : P.info? T with
  | none => simp [hq] at this
  | some x => simp [hq] at this; simp [sizeOf, typeInfo, hq, this]

theorem IsRow.size {P : Program} {T : TypeId} {n : Nat} (i : IsRow P T n) (w : World) : (sizeOf T).run P w = .ok n w := by
  have := i.sz
  cases hq : P.info? T with
  | none => simp [hq] at this
  | some x => simp [hq] at this; simp [sizeOf, typeInfo, hq, this]

theorem HasZero.run {P : Program} {T : TypeId} {z : Value} (i : HasZero P T z) (w : World) : (zeroValue T).run P w = .ok z w := by
  have := i.zero
  cases hq : P.info? T with
  | none => simp [hq] at this
  | some x => simp [hq] at this; simp [zeroValue, typeInfo, hq, this]

section
variable {P : Program} {w0 w : World} {F : List Nat} {L : List It} {ops : Array Oper} {Q : Exit → Act → World → Prop} {rest : List Oper} {o : Oper} {a : Act}

theorem run_newVar (T : TypeId) (v : Value) (w : World) : (newVar T v).run P w = .ok ⟨w.heap.size, 0, none⟩ (w.alloc (.cells v.cells T)) := by
  simp [newVar, newRow, newObj, Sem.run_bind, Sem.run]

theorem wl_box {T : TypeId} {x : Operand} (hS : Chg w0 w F L) (hgd : o.guard = none) (ho : o.op = .box T x) (v : Value) (hx : a.eval x = v)
    (h : ∀ b w', Chg w0 w' F (blk b v.cells T :: L) → wpList P ops Q rest (a.put o.dst (.pointer (some ⟨b, 0, none⟩))) w') : wpList P ops Q (o :: rest) a w :=
  wpList_plain hgd fun K hK => by
    unfold Oper.wp execOp
    simp only [ho, hx, Instr.box, Sem.run_bind, Sem.run_pure, Result.andThen_ok, run_newVar]
    exact hK _ _ (h _ _ (hS.alloc _ _))

theorem wl_alloc {T : TypeId} {z : Value} [hz : HasZero P T z] (hS : Chg w0 w F L) (hgd : o.guard = none) (ho : o.op = .alloc T)
    (h : ∀ b w', Chg w0 w' F (blk b z.cells T :: L) → wpList P ops Q rest (a.put o.dst (.pointer (some ⟨b, 0, none⟩))) w') : wpList P ops Q (o :: rest) a w :=
  wpList_plain hgd fun K hK => by
    unfold Oper.wp execOp
    simp only [ho, Instr.alloc, Sem.run_bind, Sem.run_pure, Result.andThen_ok, hz.run, run_newVar]
    exact hK _ _ (h _ _ (hS.alloc _ _))

theorem run_loadAt_one {T : TypeId} [i1 : IsOne P T] {ad : Addr} {v : Value} (hc : w.cell? ad = some v) : (Instr.loadAt T (.pointer (some ad))).run P w = .ok v w := by
  simp only [Instr.loadAt, Instr.sureAddr, Sem.run_bind, Sem.run_pure, Result.andThen_ok, loadVar, i1.agg, Bool.false_eq_true, ↓reduceIte]
  simp [load, Sem.run, hc]

theorem wl_load1 {T T' : TypeId} [i1 : IsOne P T] {x : Operand} {b k : Nat} {cs : Array Value} {v : Value} (i : Nat) (hS : Chg w0 w F L) (hi : L[i]? = some (blk b cs T')) (hgd : o.guard = none) (ho : o.op = .load T x)
    (hx : a.eval x = .pointer (some ⟨b, k, none⟩)) (hv : cs[k]? = some v) (h : wpList P ops Q rest (a.put o.dst v) w) : wpList P ops Q (o :: rest) a w :=
  wpList_plain hgd fun K hK => by
    unfold Oper.wp execOp
    simp only [ho, hx, Sem.run_bind, run_loadAt_one ((blk_cell (hS.get i hi) k).trans hv), Result.andThen_ok, Sem.run_pure]
    exact hK _ _ h

theorem wl_load1_cell {T : TypeId} [i1 : IsOne P T] {x : Operand} {ad : Addr} {v : Value} (hgd : o.guard = none) (ho : o.op = .load T x)
    (hx : a.eval x = .pointer (some ad)) (hc : w.cell? ad = some v) (h : wpList P ops Q rest (a.put o.dst v) w) : wpList P ops Q (o :: rest) a w :=
  wpList_plain hgd fun K hK => by
    unfold Oper.wp execOp
    simp only [ho, hx, Sem.run_bind, run_loadAt_one hc, Result.andThen_ok, Sem.run_pure]
    exact hK _ _ h

/-- n cells from k on. -/
def part (cs : Array Value) (k n : Nat) : Array Value := cs.extract k (k + n)

theorem run_loadAt_row {T T' : TypeId} {n : Nat} [ir : IsRow P T n] {b k : Nat} {cs : Array Value} (hb : w.heap[b]? = some (.cells cs T' (0, 0))) (hk : k + n ≤ cs.size) :
    (Instr.loadAt T (.pointer (some ⟨b, k, none⟩))).run P w = .ok (.agg (part cs k n)) w := by
  obtain ⟨d, hu, hd⟩ := ir.und
  have hl : (part cs k n).toList.length = n := by simp [part]; omega
  have := run_loadAt_mid (P := P) w b k T (part cs k n).toList d (fun j v hv => by
    have hj : j < n := by
      have := (List.getElem?_eq_some_iff.1 hv).1
      omega
    rw [cell_of_row w b (k + j) cs T' (0, 0) hb]
    have h2 : (part cs k n)[j]? = some v := by simpa using hv
    rw [part, Array.getElem?_extract] at h2
    rw [if_pos (by omega)] at h2
    exact h2) hu hd (by rw [hl]; exact ir.sz)
  simpa using this

theorem wl_loadr {T T' : TypeId} {n : Nat} [ir : IsRow P T n] {x : Operand} {b k : Nat} {cs : Array Value} {ps : Array Value} (i : Nat) (hS : Chg w0 w F L) (hi : L[i]? = some (blk b cs T')) (hgd : o.guard = none) (ho : o.op = .load T x)
    (hx : a.eval x = .pointer (some ⟨b, k, none⟩)) (hk : k + n ≤ cs.size) (hp : part cs k n = ps) (h : wpList P ops Q rest (a.put o.dst (.agg ps)) w) : wpList P ops Q (o :: rest) a w :=
  wpList_plain hgd fun K hK => by
    subst hp
    unfold Oper.wp execOp
    simp only [ho, hx, Sem.run_bind, run_loadAt_row (hS.get i hi) hk, Result.andThen_ok, Sem.run_pure]
    exact hK _ _ h

theorem run_storeAt_one {T T' : TypeId} [i1 : IsOne P T] {b k : Nat} {cs : Array Value} {v : Value} (hb : w.heap[b]? = some (.cells cs T' (0, 0))) (hk : k < cs.size) (h1 : v.oneCell' = true) :
    (Instr.storeAt T (.pointer (some ⟨b, k, none⟩)) v).run P w = .ok () (w.setCell ⟨b, k, none⟩ v) := by
  have hc : w.cell? ⟨b, k, none⟩ = some cs[k] := by rw [cell_of_row w b k cs T' (0, 0) hb]; simp [hk]
  have hf : w.frozen? ⟨b, k, none⟩ = false := frozen_of_row w b k cs T' hb
  have hcell : v.cells = #[v] := by cases v <;> simp_all [Value.cells, Value.oneCell']
  simp only [Instr.storeAt, Instr.sureAddr, Sem.run_bind, Sem.run_pure, Result.andThen_ok, storeVar, i1.size, hcell]
  simp only [List.size_toArray, List.length_cons, List.length_nil, Nat.zero_add, ne_eq, not_true_eq_false, ↓reduceIte, storeCells, Sem.run_bind, Sem.run_pure]
  have ha : (⟨b, k, none⟩ : Addr).add 0 = ⟨b, k, none⟩ := by simp [Addr.add]
  rw [ha, run_store P w _ v _ h1, hc]
  simp [hf]

theorem wl_store1 {T T' : TypeId} [i1 : IsOne P T] {x y : Operand} {b k : Nat} {cs : Array Value} {L' : List It} (i : Nat) (v : Value) (hS : Chg w0 w F L) (hi : L[i]? = some (blk b cs T')) (he : L.eraseIdx i = L') (hgd : o.guard = none) (ho : o.op = .store T x y)
    (hx : a.eval x = .pointer (some ⟨b, k, none⟩)) (hy : a.eval y = v) (h1 : v.oneCell' = true) (hk : k < cs.size)
    (h : ∀ w', Chg w0 w' F (blk b (cs.setIfInBounds k v) T' :: L') → wpList P ops Q rest (a.put o.dst undef) w') : wpList P ops Q (o :: rest) a w :=
  wpList_plain hgd fun K hK => by
    have hS1 := hS.front i hi he
    unfold Oper.wp execOp
    simp only [ho, hx, hy, Sem.run_bind, run_storeAt_one hS1.head hk h1, Result.andThen_ok, Sem.run_pure]
    exact hK _ _ (h _ (hS1.setCell k v))

/-- n cells put in from k on. -/
def lay (cs : Array Value) (k : Nat) (vs : Array Value) : Array Value := (cs.toList.take k ++ vs.toList ++ cs.toList.drop (k + vs.size)).toArray

theorem size_lay (cs : Array Value) (k : Nat) (vs : Array Value) (h : k + vs.size ≤ cs.size) : (lay cs k vs).size = cs.size := by
  simp [lay]; omega

theorem run_storeAt_row {T T' : TypeId} {n : Nat} [ir : IsRow P T n] {b k : Nat} {cs vs : Array Value} (hb : w.heap[b]? = some (.cells cs T' (0, 0))) (hn : vs.size = n) (hk : k + n ≤ cs.size) (h1 : ∀ v, v ∈ vs → v.oneCell' = true) :
    (Instr.storeAt T (.pointer (some ⟨b, k, none⟩)) (.agg vs)).run P w = .ok () (w.setRow b (lay cs k vs)) := by
  have := run_storeCells_at (P := P) b k T' vs.toList 0 cs w hb (by simp; omega) (fun v hv => h1 v (by simpa using hv))
  simp only [Instr.storeAt, Instr.sureAddr, Sem.run_bind, Sem.run_pure, Result.andThen_ok, storeVar, ir.size, Value.cells, hn]
  simp only [ne_eq, not_true_eq_false, ↓reduceIte]
  rw [this]
  simp [lay]

theorem Chg.setRow {b : Nat} {cs : Array Value} {T : TypeId} (h : Chg w0 w F (blk b cs T :: L)) (vs : Array Value) : Chg w0 (w.setRow b vs) F (blk b vs T :: L) :=
  h.setBlk rfl rfl rfl (by simp) (fun i hi => setRow_other w b i vs hi) (setRow_heap w b cs vs T (0, 0) h.head)

theorem wl_storer {T T' : TypeId} {n : Nat} [ir : IsRow P T n] {x y : Operand} {b k : Nat} {cs vs : Array Value} {L' : List It} (i : Nat) (hS : Chg w0 w F L) (hi : L[i]? = some (blk b cs T')) (he : L.eraseIdx i = L') (hgd : o.guard = none) (ho : o.op = .store T x y)
    (hx : a.eval x = .pointer (some ⟨b, k, none⟩)) (hy : a.eval y = .agg vs) (hn : vs.size = n) (h1 : ∀ v, v ∈ vs → v.oneCell' = true) (hk : k + n ≤ cs.size)
    (h : ∀ w', Chg w0 w' F (blk b (lay cs k vs) T' :: L') → wpList P ops Q rest (a.put o.dst undef) w') : wpList P ops Q (o :: rest) a w :=
  wpList_plain hgd fun K hK => by
    have hS1 := hS.front i hi he
    unfold Oper.wp execOp
    simp only [ho, hx, hy, Sem.run_bind, run_storeAt_row hS1.head hn hk h1, Result.andThen_ok, Sem.run_pure]
    exact hK _ _ (h _ (hS1.setRow _))
end
end Go.Dyn
namespace Go.Dyn
open Go Go.RowKit
section
variable {P : Program} {w0 w : World} {F : List Nat} {L : List It} {ops : Array Oper} {Q : Exit → Act → World → Prop} {rest : List Oper} {o : Oper} {a : Act}
theorem wl_box_agg {dst : Nat} (hdst : o.dst = some dst) {T : TypeId} {x : Operand} {cs : Array Value} (hS : Chg w0 w F L) (hgd : o.guard = none) (ho : o.op = .box T x) (hx : a.eval x = .agg cs)
    (h : ∀ b w', Chg w0 w' F (blk b cs T :: L) → wpList P ops Q rest (a.put o.dst (.pointer (some ⟨b, 0, none⟩))) w') : wpList P ops Q (o :: rest) a w := wl_box hS hgd ho _ hx h
theorem wl_box_int {dst : Nat} (hdst : o.dst = some dst) {T : TypeId} {x : Operand} {k : IntKind} {n : Int} (hS : Chg w0 w F L) (hgd : o.guard = none) (ho : o.op = .box T x) (hx : a.eval x = .int k n)
    (h : ∀ b w', Chg w0 w' F (blk b #[.int k n] T :: L) → wpList P ops Q rest (a.put o.dst (.pointer (some ⟨b, 0, none⟩))) w') : wpList P ops Q (o :: rest) a w := wl_box hS hgd ho _ hx h
theorem wl_box_str {dst : Nat} (hdst : o.dst = some dst) {T : TypeId} {x : Operand} {s : ByteArray} (hS : Chg w0 w F L) (hgd : o.guard = none) (ho : o.op = .box T x) (hx : a.eval x = .string s)
    (h : ∀ b w', Chg w0 w' F (blk b #[.string s] T :: L) → wpList P ops Q rest (a.put o.dst (.pointer (some ⟨b, 0, none⟩))) w') : wpList P ops Q (o :: rest) a w := wl_box hS hgd ho _ hx h
theorem wl_box_slice {dst : Nat} (hdst : o.dst = some dst) {T : TypeId} {x : Operand} {p : Option Addr} {n c : Nat} (hS : Chg w0 w F L) (hgd : o.guard = none) (ho : o.op = .box T x) (hx : a.eval x = .slice p n c)
    (h : ∀ b w', Chg w0 w' F (blk b #[.slice p n c] T :: L) → wpList P ops Q rest (a.put o.dst (.pointer (some ⟨b, 0, none⟩))) w') : wpList P ops Q (o :: rest) a w := wl_box hS hgd ho _ hx h
theorem wl_box_ptr {dst : Nat} (hdst : o.dst = some dst) {T : TypeId} {x : Operand} {p : Option Addr} (hS : Chg w0 w F L) (hgd : o.guard = none) (ho : o.op = .box T x) (hx : a.eval x = .pointer p)
    (h : ∀ b w', Chg w0 w' F (blk b #[.pointer p] T :: L) → wpList P ops Q rest (a.put o.dst (.pointer (some ⟨b, 0, none⟩))) w') : wpList P ops Q (o :: rest) a w := wl_box hS hgd ho _ hx h
theorem wl_alloc_agg {dst : Nat} (hdst : o.dst = some dst) {T : TypeId} {cs : Array Value} [hz : HasZero P T (.agg cs)] (hS : Chg w0 w F L) (hgd : o.guard = none) (ho : o.op = .alloc T)
    (h : ∀ b w', Chg w0 w' F (blk b cs T :: L) → wpList P ops Q rest (a.put o.dst (.pointer (some ⟨b, 0, none⟩))) w') : wpList P ops Q (o :: rest) a w := wl_alloc (z := .agg cs) hS hgd ho h
theorem wl_alloc_one {dst : Nat} (hdst : o.dst = some dst) {T : TypeId} {z : Value} [hz : HasZero P T z] (hz1 : z.cells = #[z]) (hS : Chg w0 w F L) (hgd : o.guard = none) (ho : o.op = .alloc T)
    (h : ∀ b w', Chg w0 w' F (blk b #[z] T :: L) → wpList P ops Q rest (a.put o.dst (.pointer (some ⟨b, 0, none⟩))) w') : wpList P ops Q (o :: rest) a w :=
  wl_alloc hS hgd ho (by rw [hz1]; exact h)
theorem run_part1 {e : TypeId} [i1 : IsOne P e] {cs : Array Value} {off : Nat} {v : Value} (h : cs[off]? = some v) (w : World) : (Go.part e cs off).run P w = .ok v w := by
  simp only [Go.part, Sem.run_bind, i1.agg, Result.andThen_ok, Bool.false_eq_true, ↓reduceIte, h, Sem.run_pure]
theorem wl_index1 {T e : TypeId} {len : Nat} [i1 : IsOne P e] {x ix : Operand} {cs : Array Value} {ki : IntKind} {n : Nat} {v : Value} (hu : P.underlying T = some (.array len e)) (hgd : o.guard = none) (ho : o.op = .index T x ix)
    (hx : a.eval x = .agg cs) (hi : a.eval ix = .int ki n) (hn : n < len) (hv : cs[n]? = some v) (h : wpList P ops Q rest (a.put o.dst v) w) : wpList P ops Q (o :: rest) a w :=
  wpList_plain hgd fun K hK => by
    unfold Oper.wp execOp
    have h1 : (0 : Int) ≤ (n : Int) ∧ ((n : Int) < (len : Int)) := by omega
    simp only [ho, hx, hi, Instr.index, asIntOf, Sem.run_bind, Sem.run_pure, Result.andThen_ok, run_underlying hu]
    rw [if_pos h1]
    simp only [Sem.run_bind, i1.size, Result.andThen_ok, Nat.mul_one, Int.toNat_natCast, run_part1 hv, Sem.run_pure]
    exact hK _ _ h
theorem wl_index_str {T : TypeId} {x ix : Operand} {s : ByteArray} {ki : IntKind} {n : Int} {c : UInt8} (hu : P.underlying T = some .string) (hgd : o.guard = none) (ho : o.op = .index T x ix)
    (hx : a.eval x = .string s) (hi : a.eval ix = .int ki n) (h0 : 0 ≤ n) (hv : s.data[n.toNat]? = some c) (h : wpList P ops Q rest (a.put o.dst (.int .u8 (c.toNat : Int))) w) : wpList P ops Q (o :: rest) a w :=
  wpList_plain hgd fun K hK => by
    unfold Oper.wp execOp
    have hv' : s[n.toNat]? = some c := hv
    simp only [ho, hx, hi, Instr.index, asIntOf, Sem.run_bind, Sem.run_pure, Result.andThen_ok, run_underlying hu]
    rw [if_pos h0, hv']
    simp only [Sem.run_bind, Result.andThen_ok, Sem.run_pure]
    exact hK _ _ h
/-- Nothing more is asked of a contract but its own end. -/
theorem Chg.calls {f : FuncId} {args : Array Value} {R : Ending → World → Prop} (h : Calls P f args w R) {R' : Ending → World → Prop} (hr : ∀ e w', R e w' → R' e w') : Calls P f args w R' := h.mono hr
end
end Go.Dyn
