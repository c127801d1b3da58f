/- Part of the proof that CheckWrong returns true, whatever the four bytes; tied to the program's own text (part 4 of 14) -/
import Derived.Test.YtgnkmahdcomjcaaGreatDoorCW03
import Derived.Test.YtgnkmahdcomjcaaGreatDoorRows
set_option linter.unusedVariables false
set_option linter.unusedSimpArgs false
namespace Go.Dyn
open Go Go.RowKit
/-- Cells laid one by one are laid at once. -/
theorem foldl_lay (off : Nat) (v cs : Array Value) (h : off + v.size ≤ cs.size) : v.zipIdx.foldl (fun cs (x : Value × Nat) => cs.setIfInBounds (off + x.2) x.1) cs = lay cs off v := by
  have key : ∀ (l : List Value) (s : Nat) (cs0 : Array Value), off + s + l.length ≤ cs0.size →
      ((l.zipIdx s).foldl (fun cs (x : Value × Nat) => cs.setIfInBounds (off + x.2) x.1) cs0).toList = cs0.toList.take (off + s) ++ l ++ cs0.toList.drop (off + s + l.length) := by
    intro l
    induction l with
    | nil => intro s cs0 _; simp
    | cons y l ih =>
      intro s cs0 hs
      simp only [List.length_cons] at hs
      simp only [List.zipIdx_cons, List.foldl_cons]
      rw [ih (s + 1) _ (by simp; omega)]
      simp only [Array.toList_setIfInBounds, List.length_cons]
      rw [show off + (s + 1) = off + s + 1 by omega]
      have hlt : off + s < cs0.toList.length := by simp; omega
      rw [List.take_succ_eq_append_getElem (by simp; omega), List.getElem_set_self, List.take_set_of_le (by omega), List.drop_set_of_lt (by omega)]
      simp
      congr 1
      omega
  apply Array.ext'
  have := key v.toList 0 cs (by simpa using h)
  rw [← Array.foldl_toList]
  simp only [Array.toList_zipIdx]
  rw [this]
  simp [lay]
theorem fill_cons {place : Nat → Option (Nat × Nat)} {cells : Array Value} {i off size : Nat} {v : Value} {rest : List (Nat × Value)} (hp : place i = some (off, size)) (hv : v.cells.size = size) (h : off + size ≤ cells.size) :
    Instr.fill place cells ((i, v) :: rest) = Instr.fill place (lay cells off v.cells) rest := by
  rw [Instr.fill]
  simp only [hp]
  rw [if_neg (by simp [hv]; omega)]
  have := foldl_lay off v.cells cells (by omega)
  rw [← this]
/-- A struct type: where its fields lie, and its zero. -/
class StructT (P : Program) (t : TypeId) (places : outParam (Array (Nat × Nat))) (z : outParam (Array Value)) : Prop where
  und : ∃ fs, P.underlying t = some (.struct fs) ∧ ∀ w, (fs.mapM fun f => (do pure (f.offset, ← sizeOf f.type) : Sem (Nat × Nat))).run P w = .ok places w
  zero : (P.info? t).bind (·.zero) = some (.agg z)
section
variable {P : Program} {w0 w : World} {F : List Nat} {L : List It} {ops : Array Oper} {Q : Exit → Act → World → Prop} {rest : List Oper} {o : Oper} {a : Act} {C : World → Prop}
theorem run_build {t : TypeId} {places : Array (Nat × Nat)} {z : Array Value} [st : StructT P t places z] {parts : Array (Nat × Value)} {cells : Array Value} (hf : Instr.fill (places[·]?) z parts.toList = some cells) (w : World) : (Instr.build t parts).run P w = .ok (.agg cells) w := by
  obtain ⟨fs, hu, hm⟩ := st.und
  have hz : ∀ w, (zeroValue t).run P w = .ok (.agg z) w := fun w => by
    have := st.zero
    cases hq : P.info? t with
    | none => simp [hq] at this
    | some x => simp [hq] at this; simp [zeroValue, typeInfo, hq, this]
  unfold Instr.build
  simp only [Sem.run_bind, hz, Result.andThen_ok, run_underlying hu, hm, Value.cells, hf, Sem.run_pure]
theorem wl_build {t : TypeId} {places : Array (Nat × Nat)} {z : Array Value} [st : StructT P t places z] {parts : Array (Nat × Operand)} {cells : Array Value} (hgd : o.guard = none) (ho : o.op = .build t parts) (hf : Instr.fill (places[·]?) z (parts.map fun (i, x) => (i, a.eval x)).toList = some cells)
    (h : wpList P ops Q rest (a.put o.dst (.agg cells)) w) : wpList P ops Q (o :: rest) a w :=
  wpList_plain hgd fun K hK => by
    unfold Oper.wp execOp
    simp only [ho, Sem.run_bind, run_build hf, Result.andThen_ok, Sem.run_pure]
    exact hK _ _ h
theorem wl_build0 {t : TypeId} {places : Array (Nat × Nat)} {z : Array Value} [st : StructT P t places z] {cells : Array Value} (hgd : o.guard = none) (ho : o.op = .build t #[]) (hz : z = cells) (h : wpList P ops Q rest (a.put o.dst (.agg cells)) w) : wpList P ops Q (o :: rest) a w :=
  wl_build (parts := #[]) hgd ho (by subst hz; simp [Instr.fill]) h
theorem wl_build1 {t : TypeId} {places : Array (Nat × Nat)} {z : Array Value} [st : StructT P t places z] {i0 : Nat} {x0 : Operand} {v0 : Value} {cells : Array Value} (hgd : o.guard = none) (ho : o.op = .build t #[(i0, x0)]) (h0 : a.eval x0 = v0)
    (hf : Instr.fill (places[·]?) z [(i0, v0)] = some cells) (h : wpList P ops Q rest (a.put o.dst (.agg cells)) w) : wpList P ops Q (o :: rest) a w :=
  wl_build hgd ho (by simp only [List.map_toArray, List.map_cons, List.map_nil, h0]; exact hf) h
theorem wl_build2 {t : TypeId} {places : Array (Nat × Nat)} {z : Array Value} [st : StructT P t places z] {i0 i1 : Nat} {x0 x1 : Operand} {v0 v1 : Value} {cells : Array Value} (hgd : o.guard = none) (ho : o.op = .build t #[(i0, x0), (i1, x1)]) (h0 : a.eval x0 = v0) (h1 : a.eval x1 = v1)
    (hf : Instr.fill (places[·]?) z [(i0, v0), (i1, v1)] = some cells) (h : wpList P ops Q rest (a.put o.dst (.agg cells)) w) : wpList P ops Q (o :: rest) a w :=
  wl_build hgd ho (by simp only [List.map_toArray, List.map_cons, List.map_nil, h0, h1]; exact hf) h
theorem quiet_build {t : TypeId} {places : Array (Nat × Nat)} {z : Array Value} [st : StructT P t places z] {parts : Array (Nat × Operand)} {cells : Array Value} {K : Act → Prop} (ho : o.op = .build t parts) (hf : Instr.fill (places[·]?) z (parts.map fun (i, x) => (i, a.eval x)).toList = some cells)
    (h : K (a.put o.dst (.agg cells))) : o.quiet P a C K := by
  refine ⟨_, fun w' hw' => ?_, h⟩
  unfold Oper.quietAt execOp
  simp only [ho, Sem.run_bind, run_build hf, Result.andThen_ok, Sem.run_pure]
  exact ⟨rfl, rfl⟩
theorem quiet_loadr {T T' : TypeId} {n : Nat} [ir : IsRow P T n] {x : Operand} {K : Act → Prop} (ho : o.op = .load T x) {b k : Nat} {cs ps : Array Value} (hx : a.eval x = .pointer (some ⟨b, k, none⟩)) (hc : ∀ w', C w' → (blk b cs T').ok w') (hk : k + n ≤ cs.size) (hp : part cs k n = ps) (h : K (a.put o.dst (.agg ps))) : o.quiet P a C K := by
  refine ⟨_, fun w' hw' => ?_, h⟩
  subst hp
  unfold Oper.quietAt execOp
  simp only [ho, hx, Sem.run_bind, run_loadAt_row (hc w' hw') hk, Result.andThen_ok, Sem.run_pure]
  exact ⟨rfl, rfl⟩
theorem quiet_build2 {t : TypeId} {places : Array (Nat × Nat)} {z : Array Value} [st : StructT P t places z] {i0 i1 : Nat} {x0 x1 : Operand} {v0 v1 : Value} {cells : Array Value} {K : Act → Prop} (ho : o.op = .build t #[(i0, x0), (i1, x1)]) (h0 : a.eval x0 = v0) (h1 : a.eval x1 = v1)
    (hf : Instr.fill (places[·]?) z [(i0, v0), (i1, v1)] = some cells) (h : K (a.put o.dst (.agg cells))) : o.quiet P a C K :=
  quiet_build ho (by simp only [List.map_toArray, List.map_cons, List.map_nil, h0, h1]; exact hf) h
theorem quiet_build3 {t : TypeId} {places : Array (Nat × Nat)} {z : Array Value} [st : StructT P t places z] {i0 i1 i2 : Nat} {x0 x1 x2 : Operand} {v0 v1 v2 : Value} {cells : Array Value} {K : Act → Prop} (ho : o.op = .build t #[(i0, x0), (i1, x1), (i2, x2)]) (h0 : a.eval x0 = v0) (h1 : a.eval x1 = v1) (h2 : a.eval x2 = v2)
    (hf : Instr.fill (places[·]?) z [(i0, v0), (i1, v1), (i2, v2)] = some cells) (h : K (a.put o.dst (.agg cells))) : o.quiet P a C K :=
  quiet_build ho (by simp only [List.map_toArray, List.map_cons, List.map_nil, h0, h1, h2]; exact hf) h
end
theorem lay_head {z u v : Array Value} (h : z.size = u.size + v.size) : lay (lay z 0 u) u.size v = u ++ v := by
  apply Array.ext'
  simp only [lay, List.take_zero, List.nil_append, Nat.zero_add, Array.toList_append]
  rw [List.take_append_of_le_length (by simp), List.take_of_length_le (by simp), List.drop_eq_nil_of_le (by simp; omega)]
  simp
end Go.Dyn
section
set_option linter.unusedVariables false
set_option maxRecDepth 20000
namespace Go.Dyn
open Go Go.Proofs
instance : IsOne Tryz.prog 1 := ⟨⟨_, Tryz.underlying1, rfl⟩, by kernel_rfl⟩
instance : HasZero Tryz.prog 1 (.nilFunc) := ⟨by kernel_rfl⟩
instance : IsOne Tryz.prog 2 := ⟨⟨_, Tryz.underlying2, rfl⟩, by kernel_rfl⟩
instance : HasZero Tryz.prog 2 (.int .i64 0) := ⟨by kernel_rfl⟩
instance : IsOne Tryz.prog 3 := ⟨⟨_, Tryz.underlying3, rfl⟩, by kernel_rfl⟩
instance : HasZero Tryz.prog 3 (.int .i64 0) := ⟨by kernel_rfl⟩
instance : IsOne Tryz.prog 4 := ⟨⟨_, Tryz.underlying4, rfl⟩, by kernel_rfl⟩
instance : HasZero Tryz.prog 4 (.bool false) := ⟨by kernel_rfl⟩
instance : IsOne Tryz.prog 5 := ⟨⟨_, Tryz.underlying5, rfl⟩, by kernel_rfl⟩
instance : HasZero Tryz.prog 5 (.int .u8 0) := ⟨by kernel_rfl⟩
instance : IsRow Tryz.prog 7 4 := ⟨⟨_, Tryz.underlying7, rfl⟩, by kernel_rfl⟩
instance : HasZero Tryz.prog 7 (.agg #[.int .i64 0, .int .i64 0, .bool false, .int .u8 0]) := ⟨by kernel_rfl⟩
instance : IsOne Tryz.prog 9 := ⟨⟨_, Tryz.underlying9, rfl⟩, by kernel_rfl⟩
instance : HasZero Tryz.prog 9 (.string ⟨#[]⟩) := ⟨by kernel_rfl⟩
instance : IsOne Tryz.prog 12 := ⟨⟨_, Tryz.underlying12, rfl⟩, by kernel_rfl⟩
instance : HasZero Tryz.prog 12 (.int .u64 0) := ⟨by kernel_rfl⟩
instance : IsRow Tryz.prog 13 2 := ⟨⟨_, Tryz.underlying13, rfl⟩, by kernel_rfl⟩
instance : HasZero Tryz.prog 13 (.agg #[.string ⟨#[]⟩, .int .u64 0]) := ⟨by kernel_rfl⟩
instance : IsRow Tryz.prog 18 1 := ⟨⟨_, Tryz.underlying18, rfl⟩, by kernel_rfl⟩
instance : HasZero Tryz.prog 18 (.agg #[.pointer none]) := ⟨by kernel_rfl⟩
instance : IsOne Tryz.prog 20 := ⟨⟨_, Tryz.underlying20, rfl⟩, by kernel_rfl⟩
instance : HasZero Tryz.prog 20 (.nilIface) := ⟨by kernel_rfl⟩
instance : IsOne Tryz.prog 21 := ⟨⟨_, Tryz.underlying21, rfl⟩, by kernel_rfl⟩
instance : HasZero Tryz.prog 21 (.int .i32 0) := ⟨by kernel_rfl⟩
instance : IsOne Tryz.prog 22 := ⟨⟨_, Tryz.underlying22, rfl⟩, by kernel_rfl⟩
instance : HasZero Tryz.prog 22 (.nilFunc) := ⟨by kernel_rfl⟩
instance : IsOne Tryz.prog 23 := ⟨⟨_, Tryz.underlying23, rfl⟩, by kernel_rfl⟩
instance : HasZero Tryz.prog 23 (.pointer none) := ⟨by kernel_rfl⟩
instance : IsOne Tryz.prog 24 := ⟨⟨_, Tryz.underlying24, rfl⟩, by kernel_rfl⟩
instance : HasZero Tryz.prog 24 (.nilIface) := ⟨by kernel_rfl⟩
instance : IsOne Tryz.prog 25 := ⟨⟨_, Tryz.underlying25, rfl⟩, by kernel_rfl⟩
instance : HasZero Tryz.prog 25 (.nilIface) := ⟨by kernel_rfl⟩
instance : IsOne Tryz.prog 27 := ⟨⟨_, Tryz.underlying27, rfl⟩, by kernel_rfl⟩
instance : HasZero Tryz.prog 27 (.nilFunc) := ⟨by kernel_rfl⟩
instance : IsOne Tryz.prog 28 := ⟨⟨_, Tryz.underlying28, rfl⟩, by kernel_rfl⟩
instance : HasZero Tryz.prog 28 (.pointer none) := ⟨by kernel_rfl⟩
instance : IsOne Tryz.prog 30 := ⟨⟨_, Tryz.underlying30, rfl⟩, by kernel_rfl⟩
instance : HasZero Tryz.prog 30 (.nilFunc) := ⟨by kernel_rfl⟩
instance : IsOne Tryz.prog 31 := ⟨⟨_, Tryz.underlying31, rfl⟩, by kernel_rfl⟩
instance : SlElem Tryz.prog 31 3 1 8 := SlElem.of (z := .int .i64 0) Tryz.underlying31 (by kernel_rfl) (by kernel_rfl) (by decide)
instance : HasZero Tryz.prog 31 (.slice none 0 0) := ⟨by kernel_rfl⟩
instance : IsOne Tryz.prog 32 := ⟨⟨_, Tryz.underlying32, rfl⟩, by kernel_rfl⟩
instance : SlElem Tryz.prog 32 9 1 16 := SlElem.of (z := .string ⟨#[]⟩) Tryz.underlying32 (by kernel_rfl) (by kernel_rfl) (by decide)
instance : HasZero Tryz.prog 32 (.slice none 0 0) := ⟨by kernel_rfl⟩
instance : IsRow Tryz.prog 33 3 := ⟨⟨_, Tryz.underlying33, rfl⟩, by kernel_rfl⟩
instance : HasZero Tryz.prog 33 (.agg #[.slice none 0 0, .slice none 0 0, .slice none 0 0]) := ⟨by kernel_rfl⟩
instance : IsRow Tryz.prog 34 3 := ⟨⟨_, Tryz.underlying34, rfl⟩, by kernel_rfl⟩
instance : HasZero Tryz.prog 34 (.agg #[.slice none 0 0, .slice none 0 0, .slice none 0 0]) := ⟨by kernel_rfl⟩
instance : IsOne Tryz.prog 36 := ⟨⟨_, Tryz.underlying36, rfl⟩, by kernel_rfl⟩
instance : HasZero Tryz.prog 36 (.nilFunc) := ⟨by kernel_rfl⟩
instance : IsOne Tryz.prog 38 := ⟨⟨_, Tryz.underlying38, rfl⟩, by kernel_rfl⟩
instance : HasZero Tryz.prog 38 (.nilFunc) := ⟨by kernel_rfl⟩
instance : IsOne Tryz.prog 39 := ⟨⟨_, Tryz.underlying39, rfl⟩, by kernel_rfl⟩
instance : HasZero Tryz.prog 39 (.nilFunc) := ⟨by kernel_rfl⟩
instance : IsOne Tryz.prog 40 := ⟨⟨_, Tryz.underlying40, rfl⟩, by kernel_rfl⟩
instance : HasZero Tryz.prog 40 (.nilFunc) := ⟨by kernel_rfl⟩
instance : IsOne Tryz.prog 41 := ⟨⟨_, Tryz.underlying41, rfl⟩, by kernel_rfl⟩
instance : HasZero Tryz.prog 41 (.nilFunc) := ⟨by kernel_rfl⟩
instance : IsOne Tryz.prog 43 := ⟨⟨_, Tryz.underlying43, rfl⟩, by kernel_rfl⟩
instance : HasZero Tryz.prog 43 (.nilFunc) := ⟨by kernel_rfl⟩
instance : IsOne Tryz.prog 44 := ⟨⟨_, Tryz.underlying44, rfl⟩, by kernel_rfl⟩
instance : HasZero Tryz.prog 44 (.nilFunc) := ⟨by kernel_rfl⟩
instance : IsOne Tryz.prog 45 := ⟨⟨_, Tryz.underlying45, rfl⟩, by kernel_rfl⟩
instance : HasZero Tryz.prog 45 (.nilFunc) := ⟨by kernel_rfl⟩
instance : IsOne Tryz.prog 46 := ⟨⟨_, Tryz.underlying46, rfl⟩, by kernel_rfl⟩
instance : HasZero Tryz.prog 46 (.nilFunc) := ⟨by kernel_rfl⟩
instance : IsOne Tryz.prog 47 := ⟨⟨_, Tryz.underlying47, rfl⟩, by kernel_rfl⟩
instance : HasZero Tryz.prog 47 (.nilFunc) := ⟨by kernel_rfl⟩
instance : IsOne Tryz.prog 48 := ⟨⟨_, Tryz.underlying48, rfl⟩, by kernel_rfl⟩
instance : SlElem Tryz.prog 48 52 3 8 := SlElem.of (z := .agg #[.int .u8 0, .int .u8 0, .int .u32 0]) Tryz.underlying48 (by kernel_rfl) (by kernel_rfl) (by decide)
instance : HasZero Tryz.prog 48 (.slice none 0 0) := ⟨by kernel_rfl⟩
instance : IsOne Tryz.prog 49 := ⟨⟨_, Tryz.underlying49, rfl⟩, by kernel_rfl⟩
instance : HasZero Tryz.prog 49 (.nilFunc) := ⟨by kernel_rfl⟩
instance : IsOne Tryz.prog 50 := ⟨⟨_, Tryz.underlying50, rfl⟩, by kernel_rfl⟩
instance : HasZero Tryz.prog 50 (.int .u32 0) := ⟨by kernel_rfl⟩
instance : IsRow Tryz.prog 51 3 := ⟨⟨_, Tryz.underlying51, rfl⟩, by kernel_rfl⟩
instance : HasZero Tryz.prog 51 (.agg #[.int .u8 0, .int .u8 0, .int .u32 0]) := ⟨by kernel_rfl⟩
instance : IsRow Tryz.prog 52 3 := ⟨⟨_, Tryz.underlying52, rfl⟩, by kernel_rfl⟩
instance : HasZero Tryz.prog 52 (.agg #[.int .u8 0, .int .u8 0, .int .u32 0]) := ⟨by kernel_rfl⟩
instance : IsOne Tryz.prog 53 := ⟨⟨_, Tryz.underlying53, rfl⟩, by kernel_rfl⟩
instance : HasZero Tryz.prog 53 (.nilFunc) := ⟨by kernel_rfl⟩
instance : IsOne Tryz.prog 54 := ⟨⟨_, Tryz.underlying54, rfl⟩, by kernel_rfl⟩
instance : SlElem Tryz.prog 54 81 2 24 := SlElem.of (z := .agg #[.int .i64 0, .string ⟨#[]⟩]) Tryz.underlying54 (by kernel_rfl) (by kernel_rfl) (by decide)
instance : HasZero Tryz.prog 54 (.slice none 0 0) := ⟨by kernel_rfl⟩
instance : IsOne Tryz.prog 56 := ⟨⟨_, Tryz.underlying56, rfl⟩, by kernel_rfl⟩
instance : HasZero Tryz.prog 56 (.nilFunc) := ⟨by kernel_rfl⟩
instance : IsOne Tryz.prog 57 := ⟨⟨_, Tryz.underlying57, rfl⟩, by kernel_rfl⟩
instance : HasZero Tryz.prog 57 (.nilFunc) := ⟨by kernel_rfl⟩
instance : IsRow Tryz.prog 58 30 := ⟨⟨_, Tryz.underlying58, rfl⟩, by kernel_rfl⟩
instance : HasZero Tryz.prog 58 (.agg (Array.replicate 30 (.int .u8 0))) := ⟨by kernel_rfl⟩
instance : IsRow Tryz.prog 59 30 := ⟨⟨_, Tryz.underlying59, rfl⟩, by kernel_rfl⟩
instance : HasZero Tryz.prog 59 (.agg (Array.replicate 30 (.int .u8 0))) := ⟨by kernel_rfl⟩
instance : IsOne Tryz.prog 60 := ⟨⟨_, Tryz.underlying60, rfl⟩, by kernel_rfl⟩
instance : HasZero Tryz.prog 60 (.nilFunc) := ⟨by kernel_rfl⟩
instance : IsOne Tryz.prog 61 := ⟨⟨_, Tryz.underlying61, rfl⟩, by kernel_rfl⟩
instance : HasZero Tryz.prog 61 (.nilFunc) := ⟨by kernel_rfl⟩
instance : IsOne Tryz.prog 62 := ⟨⟨_, Tryz.underlying62, rfl⟩, by kernel_rfl⟩
instance : HasZero Tryz.prog 62 (.nilFunc) := ⟨by kernel_rfl⟩
instance : IsOne Tryz.prog 63 := ⟨⟨_, Tryz.underlying63, rfl⟩, by kernel_rfl⟩
instance : HasZero Tryz.prog 63 (.nilFunc) := ⟨by kernel_rfl⟩
instance : IsOne Tryz.prog 64 := ⟨⟨_, Tryz.underlying64, rfl⟩, by kernel_rfl⟩
instance : HasZero Tryz.prog 64 (.nilFunc) := ⟨by kernel_rfl⟩
instance : IsOne Tryz.prog 65 := ⟨⟨_, Tryz.underlying65, rfl⟩, by kernel_rfl⟩
instance : HasZero Tryz.prog 65 (.nilFunc) := ⟨by kernel_rfl⟩
instance : IsOne Tryz.prog 66 := ⟨⟨_, Tryz.underlying66, rfl⟩, by kernel_rfl⟩
instance : SlElem Tryz.prog 66 77 5 64 := SlElem.of (z := .agg #[.slice none 0 0, .slice none 0 0, .bool false, .int .u32 0, .int .i64 0]) Tryz.underlying66 (by kernel_rfl) (by kernel_rfl) (by decide)
instance : HasZero Tryz.prog 66 (.slice none 0 0) := ⟨by kernel_rfl⟩
instance : IsOne Tryz.prog 67 := ⟨⟨_, Tryz.underlying67, rfl⟩, by kernel_rfl⟩
instance : HasZero Tryz.prog 67 (.pointer none) := ⟨by kernel_rfl⟩
instance : IsOne Tryz.prog 69 := ⟨⟨_, Tryz.underlying69, rfl⟩, by kernel_rfl⟩
instance : HasZero Tryz.prog 69 (.nilFunc) := ⟨by kernel_rfl⟩
instance : IsOne Tryz.prog 70 := ⟨⟨_, Tryz.underlying70, rfl⟩, by kernel_rfl⟩
instance : SlElem Tryz.prog 70 86 2 24 := SlElem.of (z := .agg #[.int .i64 0, .string ⟨#[]⟩]) Tryz.underlying70 (by kernel_rfl) (by kernel_rfl) (by decide)
instance : HasZero Tryz.prog 70 (.slice none 0 0) := ⟨by kernel_rfl⟩
instance : IsOne Tryz.prog 71 := ⟨⟨_, Tryz.underlying71, rfl⟩, by kernel_rfl⟩
instance : SlElem Tryz.prog 71 88 2 24 := SlElem.of (z := .agg #[.int .i64 0, .string ⟨#[]⟩]) Tryz.underlying71 (by kernel_rfl) (by kernel_rfl) (by decide)
instance : HasZero Tryz.prog 71 (.slice none 0 0) := ⟨by kernel_rfl⟩
instance : IsOne Tryz.prog 73 := ⟨⟨_, Tryz.underlying73, rfl⟩, by kernel_rfl⟩
instance : HasZero Tryz.prog 73 (.nilFunc) := ⟨by kernel_rfl⟩
instance : IsOne Tryz.prog 74 := ⟨⟨_, Tryz.underlying74, rfl⟩, by kernel_rfl⟩
instance : SlElem Tryz.prog 74 5 1 1 := SlElem.of (z := .int .u8 0) Tryz.underlying74 (by kernel_rfl) (by kernel_rfl) (by decide)
instance : HasZero Tryz.prog 74 (.slice none 0 0) := ⟨by kernel_rfl⟩
instance : IsOne Tryz.prog 75 := ⟨⟨_, Tryz.underlying75, rfl⟩, by kernel_rfl⟩
instance : SlElem Tryz.prog 75 50 1 4 := SlElem.of (z := .int .u32 0) Tryz.underlying75 (by kernel_rfl) (by kernel_rfl) (by decide)
instance : HasZero Tryz.prog 75 (.slice none 0 0) := ⟨by kernel_rfl⟩
instance : IsRow Tryz.prog 76 5 := ⟨⟨_, Tryz.underlying76, rfl⟩, by kernel_rfl⟩
instance : HasZero Tryz.prog 76 (.agg #[.slice none 0 0, .slice none 0 0, .bool false, .int .u32 0, .int .i64 0]) := ⟨by kernel_rfl⟩
instance : IsRow Tryz.prog 77 5 := ⟨⟨_, Tryz.underlying77, rfl⟩, by kernel_rfl⟩
instance : HasZero Tryz.prog 77 (.agg #[.slice none 0 0, .slice none 0 0, .bool false, .int .u32 0, .int .i64 0]) := ⟨by kernel_rfl⟩
instance : IsOne Tryz.prog 78 := ⟨⟨_, Tryz.underlying78, rfl⟩, by kernel_rfl⟩
instance : HasZero Tryz.prog 78 (.nilFunc) := ⟨by kernel_rfl⟩
instance : IsOne Tryz.prog 79 := ⟨⟨_, Tryz.underlying79, rfl⟩, by kernel_rfl⟩
instance : HasZero Tryz.prog 79 (.nilFunc) := ⟨by kernel_rfl⟩
instance : IsRow Tryz.prog 80 2 := ⟨⟨_, Tryz.underlying80, rfl⟩, by kernel_rfl⟩
instance : HasZero Tryz.prog 80 (.agg #[.int .i64 0, .string ⟨#[]⟩]) := ⟨by kernel_rfl⟩
instance : IsRow Tryz.prog 81 2 := ⟨⟨_, Tryz.underlying81, rfl⟩, by kernel_rfl⟩
instance : HasZero Tryz.prog 81 (.agg #[.int .i64 0, .string ⟨#[]⟩]) := ⟨by kernel_rfl⟩
instance : IsOne Tryz.prog 82 := ⟨⟨_, Tryz.underlying82, rfl⟩, by kernel_rfl⟩
instance : HasZero Tryz.prog 82 (.nilFunc) := ⟨by kernel_rfl⟩
instance : IsOne Tryz.prog 83 := ⟨⟨_, Tryz.underlying83, rfl⟩, by kernel_rfl⟩
instance : HasZero Tryz.prog 83 (.nilFunc) := ⟨by kernel_rfl⟩
instance : IsOne Tryz.prog 84 := ⟨⟨_, Tryz.underlying84, rfl⟩, by kernel_rfl⟩
instance : HasZero Tryz.prog 84 (.nilFunc) := ⟨by kernel_rfl⟩
instance : IsOne Tryz.prog 85 := ⟨⟨_, Tryz.underlying85, rfl⟩, by kernel_rfl⟩
instance : HasZero Tryz.prog 85 (.nilFunc) := ⟨by kernel_rfl⟩
instance : IsRow Tryz.prog 86 2 := ⟨⟨_, Tryz.underlying86, rfl⟩, by kernel_rfl⟩
instance : HasZero Tryz.prog 86 (.agg #[.int .i64 0, .string ⟨#[]⟩]) := ⟨by kernel_rfl⟩
instance : IsOne Tryz.prog 87 := ⟨⟨_, Tryz.underlying87, rfl⟩, by kernel_rfl⟩
instance : HasZero Tryz.prog 87 (.nilFunc) := ⟨by kernel_rfl⟩
instance : IsRow Tryz.prog 88 2 := ⟨⟨_, Tryz.underlying88, rfl⟩, by kernel_rfl⟩
instance : HasZero Tryz.prog 88 (.agg #[.int .i64 0, .string ⟨#[]⟩]) := ⟨by kernel_rfl⟩
instance : IsOne Tryz.prog 89 := ⟨⟨_, Tryz.underlying89, rfl⟩, by kernel_rfl⟩
instance : HasZero Tryz.prog 89 (.nilFunc) := ⟨by kernel_rfl⟩
instance : IsOne Tryz.prog 90 := ⟨⟨_, Tryz.underlying90, rfl⟩, by kernel_rfl⟩
instance : HasZero Tryz.prog 90 (.nilFunc) := ⟨by kernel_rfl⟩
instance : IsRow Tryz.prog 91 128 := ⟨⟨_, Tryz.underlying91, rfl⟩, by kernel_rfl⟩
instance : HasZero Tryz.prog 91 (.agg (Array.replicate 128 (.int .u8 0))) := ⟨by kernel_rfl⟩
instance : IsRow Tryz.prog 92 128 := ⟨⟨_, Tryz.underlying92, rfl⟩, by kernel_rfl⟩
instance : HasZero Tryz.prog 92 (.agg (Array.replicate 128 (.int .u8 0))) := ⟨by kernel_rfl⟩
instance : IsOne Tryz.prog 94 := ⟨⟨_, Tryz.underlying94, rfl⟩, by kernel_rfl⟩
instance : HasZero Tryz.prog 94 (.nilFunc) := ⟨by kernel_rfl⟩
instance : IsOne Tryz.prog 95 := ⟨⟨_, Tryz.underlying95, rfl⟩, by kernel_rfl⟩
instance : HasZero Tryz.prog 95 (.nilFunc) := ⟨by kernel_rfl⟩
instance : IsOne Tryz.prog 96 := ⟨⟨_, Tryz.underlying96, rfl⟩, by kernel_rfl⟩
instance : HasZero Tryz.prog 96 (.nilFunc) := ⟨by kernel_rfl⟩
instance : IsOne Tryz.prog 97 := ⟨⟨_, Tryz.underlying97, rfl⟩, by kernel_rfl⟩
instance : HasZero Tryz.prog 97 (.nilFunc) := ⟨by kernel_rfl⟩
instance : IsOne Tryz.prog 98 := ⟨⟨_, Tryz.underlying98, rfl⟩, by kernel_rfl⟩
instance : HasZero Tryz.prog 98 (.nilFunc) := ⟨by kernel_rfl⟩
instance : IsOne Tryz.prog 99 := ⟨⟨_, Tryz.underlying99, rfl⟩, by kernel_rfl⟩
instance : HasZero Tryz.prog 99 (.int .i64 0) := ⟨by kernel_rfl⟩
instance : IsOne Tryz.prog 100 := ⟨⟨_, Tryz.underlying100, rfl⟩, by kernel_rfl⟩
instance : SlElem Tryz.prog 100 92 128 128 := SlElem.of (z := .agg (Array.replicate 128 (.int .u8 0))) Tryz.underlying100 (by kernel_rfl) (by kernel_rfl) (by decide)
instance : HasZero Tryz.prog 100 (.slice none 0 0) := ⟨by kernel_rfl⟩
instance : IsOne Tryz.prog 101 := ⟨⟨_, Tryz.underlying101, rfl⟩, by kernel_rfl⟩
instance : SlElem Tryz.prog 101 143 129 136 := SlElem.of (z := .agg (#[.int .i64 0] ++ (Array.replicate 128 (.int .u8 0)))) Tryz.underlying101 (by kernel_rfl) (by kernel_rfl) (by decide)
instance : HasZero Tryz.prog 101 (.slice none 0 0) := ⟨by kernel_rfl⟩
instance : IsRow Tryz.prog 102 3 := ⟨⟨_, Tryz.underlying102, rfl⟩, by kernel_rfl⟩
instance : HasZero Tryz.prog 102 (.agg #[.slice none 0 0, .slice none 0 0, .bool false]) := ⟨by kernel_rfl⟩
instance : IsRow Tryz.prog 103 3 := ⟨⟨_, Tryz.underlying103, rfl⟩, by kernel_rfl⟩
instance : HasZero Tryz.prog 103 (.agg #[.slice none 0 0, .slice none 0 0, .bool false]) := ⟨by kernel_rfl⟩
instance : IsRow Tryz.prog 104 32 := ⟨⟨_, Tryz.underlying104, rfl⟩, by kernel_rfl⟩
instance : HasZero Tryz.prog 104 (.agg (#[.int .u32 0] ++ #[.int .i64 0] ++ (Array.replicate 30 (.int .u8 0)))) := ⟨by kernel_rfl⟩
instance : IsRow Tryz.prog 105 32 := ⟨⟨_, Tryz.underlying105, rfl⟩, by kernel_rfl⟩
instance : HasZero Tryz.prog 105 (.agg (#[.int .u32 0] ++ #[.int .i64 0] ++ (Array.replicate 30 (.int .u8 0)))) := ⟨by kernel_rfl⟩
instance : IsOne Tryz.prog 107 := ⟨⟨_, Tryz.underlying107, rfl⟩, by kernel_rfl⟩
instance : HasZero Tryz.prog 107 (.nilFunc) := ⟨by kernel_rfl⟩
instance : IsOne Tryz.prog 108 := ⟨⟨_, Tryz.underlying108, rfl⟩, by kernel_rfl⟩
instance : HasZero Tryz.prog 108 (.nilFunc) := ⟨by kernel_rfl⟩
instance : IsOne Tryz.prog 109 := ⟨⟨_, Tryz.underlying109, rfl⟩, by kernel_rfl⟩
instance : HasZero Tryz.prog 109 (.nilFunc) := ⟨by kernel_rfl⟩
instance : IsRow Tryz.prog 110 93 := ⟨⟨_, Tryz.underlying110, rfl⟩, by kernel_rfl⟩
instance : HasZero Tryz.prog 110 (.agg (#[.pointer none] ++ (#[.int .u32 0] ++ #[.int .i64 0] ++ (Array.replicate 30 (.int .u8 0))) ++ (Array.replicate 30 (.int .u8 0)) ++ (Array.replicate 30 (.int .u8 0)))) := ⟨by kernel_rfl⟩
instance : IsRow Tryz.prog 111 93 := ⟨⟨_, Tryz.underlying111, rfl⟩, by kernel_rfl⟩
instance : HasZero Tryz.prog 111 (.agg (#[.pointer none] ++ (#[.int .u32 0] ++ #[.int .i64 0] ++ (Array.replicate 30 (.int .u8 0))) ++ (Array.replicate 30 (.int .u8 0)) ++ (Array.replicate 30 (.int .u8 0)))) := ⟨by kernel_rfl⟩
instance : IsOne Tryz.prog 112 := ⟨⟨_, Tryz.underlying112, rfl⟩, by kernel_rfl⟩
instance : HasZero Tryz.prog 112 (.nilFunc) := ⟨by kernel_rfl⟩
instance : IsOne Tryz.prog 113 := ⟨⟨_, Tryz.underlying113, rfl⟩, by kernel_rfl⟩
instance : HasZero Tryz.prog 113 (.nilFunc) := ⟨by kernel_rfl⟩
instance : IsOne Tryz.prog 115 := ⟨⟨_, Tryz.underlying115, rfl⟩, by kernel_rfl⟩
instance : HasZero Tryz.prog 115 (.nilFunc) := ⟨by kernel_rfl⟩
instance : IsOne Tryz.prog 116 := ⟨⟨_, Tryz.underlying116, rfl⟩, by kernel_rfl⟩
instance : HasZero Tryz.prog 116 (.nilFunc) := ⟨by kernel_rfl⟩
instance : IsOne Tryz.prog 117 := ⟨⟨_, Tryz.underlying117, rfl⟩, by kernel_rfl⟩
instance : HasZero Tryz.prog 117 (.nilFunc) := ⟨by kernel_rfl⟩
instance : IsOne Tryz.prog 118 := ⟨⟨_, Tryz.underlying118, rfl⟩, by kernel_rfl⟩
instance : HasZero Tryz.prog 118 (.nilFunc) := ⟨by kernel_rfl⟩
instance : IsOne Tryz.prog 119 := ⟨⟨_, Tryz.underlying119, rfl⟩, by kernel_rfl⟩
instance : HasZero Tryz.prog 119 (.nilFunc) := ⟨by kernel_rfl⟩
instance : IsOne Tryz.prog 120 := ⟨⟨_, Tryz.underlying120, rfl⟩, by kernel_rfl⟩
instance : HasZero Tryz.prog 120 (.pointer none) := ⟨by kernel_rfl⟩
instance : IsOne Tryz.prog 121 := ⟨⟨_, Tryz.underlying121, rfl⟩, by kernel_rfl⟩
instance : HasZero Tryz.prog 121 (.pointer none) := ⟨by kernel_rfl⟩
instance : IsOne Tryz.prog 123 := ⟨⟨_, Tryz.underlying123, rfl⟩, by kernel_rfl⟩
instance : HasZero Tryz.prog 123 (.nilFunc) := ⟨by kernel_rfl⟩
instance : IsOne Tryz.prog 124 := ⟨⟨_, Tryz.underlying124, rfl⟩, by kernel_rfl⟩
instance : HasZero Tryz.prog 124 (.nilFunc) := ⟨by kernel_rfl⟩
instance : IsOne Tryz.prog 125 := ⟨⟨_, Tryz.underlying125, rfl⟩, by kernel_rfl⟩
instance : HasZero Tryz.prog 125 (.nilFunc) := ⟨by kernel_rfl⟩
instance : IsOne Tryz.prog 126 := ⟨⟨_, Tryz.underlying126, rfl⟩, by kernel_rfl⟩
instance : HasZero Tryz.prog 126 (.nilFunc) := ⟨by kernel_rfl⟩
instance : IsOne Tryz.prog 127 := ⟨⟨_, Tryz.underlying127, rfl⟩, by kernel_rfl⟩
instance : HasZero Tryz.prog 127 (.nilFunc) := ⟨by kernel_rfl⟩
instance : IsOne Tryz.prog 128 := ⟨⟨_, Tryz.underlying128, rfl⟩, by kernel_rfl⟩
instance : HasZero Tryz.prog 128 (.map none) := ⟨by kernel_rfl⟩
instance : IsRow Tryz.prog 129 3 := ⟨⟨_, Tryz.underlying129, rfl⟩, by kernel_rfl⟩
instance : HasZero Tryz.prog 129 (.agg #[.pointer none, .map none, .int .i64 0]) := ⟨by kernel_rfl⟩
instance : IsRow Tryz.prog 130 3 := ⟨⟨_, Tryz.underlying130, rfl⟩, by kernel_rfl⟩
instance : HasZero Tryz.prog 130 (.agg #[.pointer none, .map none, .int .i64 0]) := ⟨by kernel_rfl⟩
instance : IsOne Tryz.prog 131 := ⟨⟨_, Tryz.underlying131, rfl⟩, by kernel_rfl⟩
instance : HasZero Tryz.prog 131 (.nilFunc) := ⟨by kernel_rfl⟩
instance : IsOne Tryz.prog 132 := ⟨⟨_, Tryz.underlying132, rfl⟩, by kernel_rfl⟩
instance : HasZero Tryz.prog 132 (.nilFunc) := ⟨by kernel_rfl⟩
instance : IsRow Tryz.prog 133 4 := ⟨⟨_, Tryz.underlying133, rfl⟩, by kernel_rfl⟩
instance : HasZero Tryz.prog 133 (.agg #[.int .i64 0, .int .i64 0, .int .i64 0, .bool false]) := ⟨by kernel_rfl⟩
instance : IsRow Tryz.prog 134 4 := ⟨⟨_, Tryz.underlying134, rfl⟩, by kernel_rfl⟩
instance : HasZero Tryz.prog 134 (.agg #[.int .i64 0, .int .i64 0, .int .i64 0, .bool false]) := ⟨by kernel_rfl⟩
instance : IsOne Tryz.prog 136 := ⟨⟨_, Tryz.underlying136, rfl⟩, by kernel_rfl⟩
instance : HasZero Tryz.prog 136 (.nilFunc) := ⟨by kernel_rfl⟩
instance : IsOne Tryz.prog 137 := ⟨⟨_, Tryz.underlying137, rfl⟩, by kernel_rfl⟩
instance : HasZero Tryz.prog 137 (.nilFunc) := ⟨by kernel_rfl⟩
instance : IsOne Tryz.prog 139 := ⟨⟨_, Tryz.underlying139, rfl⟩, by kernel_rfl⟩
instance : HasZero Tryz.prog 139 (.nilFunc) := ⟨by kernel_rfl⟩
instance : IsOne Tryz.prog 140 := ⟨⟨_, Tryz.underlying140, rfl⟩, by kernel_rfl⟩
instance : HasZero Tryz.prog 140 (.nilFunc) := ⟨by kernel_rfl⟩
instance : IsOne Tryz.prog 141 := ⟨⟨_, Tryz.underlying141, rfl⟩, by kernel_rfl⟩
instance : HasZero Tryz.prog 141 (.nilFunc) := ⟨by kernel_rfl⟩
instance : IsRow Tryz.prog 142 129 := ⟨⟨_, Tryz.underlying142, rfl⟩, by kernel_rfl⟩
instance : HasZero Tryz.prog 142 (.agg (#[.int .i64 0] ++ (Array.replicate 128 (.int .u8 0)))) := ⟨by kernel_rfl⟩
instance : IsRow Tryz.prog 143 129 := ⟨⟨_, Tryz.underlying143, rfl⟩, by kernel_rfl⟩
instance : HasZero Tryz.prog 143 (.agg (#[.int .i64 0] ++ (Array.replicate 128 (.int .u8 0)))) := ⟨by kernel_rfl⟩
instance : IsRow Tryz.prog 144 1 := ⟨⟨_, Tryz.underlying144, rfl⟩, by kernel_rfl⟩
instance : HasZero Tryz.prog 144 (.agg #[.pointer none]) := ⟨by kernel_rfl⟩
instance : IsRow Tryz.prog 145 1 := ⟨⟨_, Tryz.underlying145, rfl⟩, by kernel_rfl⟩
instance : HasZero Tryz.prog 145 (.agg #[.pointer none]) := ⟨by kernel_rfl⟩
instance : IsOne Tryz.prog 146 := ⟨⟨_, Tryz.underlying146, rfl⟩, by kernel_rfl⟩
instance : HasZero Tryz.prog 146 (.nilFunc) := ⟨by kernel_rfl⟩
instance : IsOne Tryz.prog 147 := ⟨⟨_, Tryz.underlying147, rfl⟩, by kernel_rfl⟩
instance : HasZero Tryz.prog 147 (.nilFunc) := ⟨by kernel_rfl⟩
instance : IsOne Tryz.prog 148 := ⟨⟨_, Tryz.underlying148, rfl⟩, by kernel_rfl⟩
instance : HasZero Tryz.prog 148 (.nilFunc) := ⟨by kernel_rfl⟩
instance : IsOne Tryz.prog 149 := ⟨⟨_, Tryz.underlying149, rfl⟩, by kernel_rfl⟩
instance : HasZero Tryz.prog 149 (.nilFunc) := ⟨by kernel_rfl⟩
instance : IsOne Tryz.prog 150 := ⟨⟨_, Tryz.underlying150, rfl⟩, by kernel_rfl⟩
instance : HasZero Tryz.prog 150 (.pointer none) := ⟨by kernel_rfl⟩
instance : IsRow Tryz.prog 151 2 := ⟨⟨_, Tryz.underlying151, rfl⟩, by kernel_rfl⟩
instance : HasZero Tryz.prog 151 (.agg #[.string ⟨#[]⟩, .nilIface]) := ⟨by kernel_rfl⟩
instance : IsRow Tryz.prog 152 2 := ⟨⟨_, Tryz.underlying152, rfl⟩, by kernel_rfl⟩
instance : HasZero Tryz.prog 152 (.agg #[.string ⟨#[]⟩, .nilIface]) := ⟨by kernel_rfl⟩
instance : IsOne Tryz.prog 153 := ⟨⟨_, Tryz.underlying153, rfl⟩, by kernel_rfl⟩
instance : HasZero Tryz.prog 153 (.nilFunc) := ⟨by kernel_rfl⟩
instance : IsOne Tryz.prog 154 := ⟨⟨_, Tryz.underlying154, rfl⟩, by kernel_rfl⟩
instance : HasZero Tryz.prog 154 (.nilFunc) := ⟨by kernel_rfl⟩
instance : IsOne Tryz.prog 155 := ⟨⟨_, Tryz.underlying155, rfl⟩, by kernel_rfl⟩
instance : HasZero Tryz.prog 155 (.nilFunc) := ⟨by kernel_rfl⟩
instance : IsOne Tryz.prog 156 := ⟨⟨_, Tryz.underlying156, rfl⟩, by kernel_rfl⟩
instance : HasZero Tryz.prog 156 (.nilFunc) := ⟨by kernel_rfl⟩
instance : IsOne Tryz.prog 157 := ⟨⟨_, Tryz.underlying157, rfl⟩, by kernel_rfl⟩
instance : HasZero Tryz.prog 157 (.nilFunc) := ⟨by kernel_rfl⟩
instance : IsOne Tryz.prog 158 := ⟨⟨_, Tryz.underlying158, rfl⟩, by kernel_rfl⟩
instance : HasZero Tryz.prog 158 (.nilFunc) := ⟨by kernel_rfl⟩
instance : IsOne Tryz.prog 159 := ⟨⟨_, Tryz.underlying159, rfl⟩, by kernel_rfl⟩
instance : HasZero Tryz.prog 159 (.nilFunc) := ⟨by kernel_rfl⟩
instance : IsOne Tryz.prog 160 := ⟨⟨_, Tryz.underlying160, rfl⟩, by kernel_rfl⟩
instance : HasZero Tryz.prog 160 (.nilFunc) := ⟨by kernel_rfl⟩
instance : IsOne Tryz.prog 161 := ⟨⟨_, Tryz.underlying161, rfl⟩, by kernel_rfl⟩
instance : HasZero Tryz.prog 161 (.nilFunc) := ⟨by kernel_rfl⟩
instance : IsOne Tryz.prog 162 := ⟨⟨_, Tryz.underlying162, rfl⟩, by kernel_rfl⟩
instance : HasZero Tryz.prog 162 (.nilFunc) := ⟨by kernel_rfl⟩
instance : IsRow Tryz.prog 165 3 := ⟨⟨_, Tryz.underlying165, rfl⟩, by kernel_rfl⟩
instance : HasZero Tryz.prog 165 (.agg #[.pointer none, .pointer none, .int .u64 0]) := ⟨by kernel_rfl⟩
instance : IsOne Tryz.prog 167 := ⟨⟨_, Tryz.underlying167, rfl⟩, by kernel_rfl⟩
instance : HasZero Tryz.prog 167 (.nilFunc) := ⟨by kernel_rfl⟩
instance : IsOne Tryz.prog 168 := ⟨⟨_, Tryz.underlying168, rfl⟩, by kernel_rfl⟩
instance : HasZero Tryz.prog 168 (.nilIface) := ⟨by kernel_rfl⟩
instance : IsOne Tryz.prog 170 := ⟨⟨_, Tryz.underlying170, rfl⟩, by kernel_rfl⟩
instance : HasZero Tryz.prog 170 (.nilFunc) := ⟨by kernel_rfl⟩
instance : IsOne Tryz.prog 172 := ⟨⟨_, Tryz.underlying172, rfl⟩, by kernel_rfl⟩
instance : HasZero Tryz.prog 172 (.nilFunc) := ⟨by kernel_rfl⟩
instance : IsOne Tryz.prog 173 := ⟨⟨_, Tryz.underlying173, rfl⟩, by kernel_rfl⟩
instance : HasZero Tryz.prog 173 (.nilFunc) := ⟨by kernel_rfl⟩
instance : IsOne Tryz.prog 174 := ⟨⟨_, Tryz.underlying174, rfl⟩, by kernel_rfl⟩
instance : HasZero Tryz.prog 174 (.nilFunc) := ⟨by kernel_rfl⟩
instance : IsOne Tryz.prog 175 := ⟨⟨_, Tryz.underlying175, rfl⟩, by kernel_rfl⟩
instance : HasZero Tryz.prog 175 (.nilFunc) := ⟨by kernel_rfl⟩
instance : IsOne Tryz.prog 176 := ⟨⟨_, Tryz.underlying176, rfl⟩, by kernel_rfl⟩
instance : HasZero Tryz.prog 176 (.nilFunc) := ⟨by kernel_rfl⟩
instance : IsOne Tryz.prog 177 := ⟨⟨_, Tryz.underlying177, rfl⟩, by kernel_rfl⟩
instance : HasZero Tryz.prog 177 (.nilFunc) := ⟨by kernel_rfl⟩
instance : IsOne Tryz.prog 178 := ⟨⟨_, Tryz.underlying178, rfl⟩, by kernel_rfl⟩
instance : HasZero Tryz.prog 178 (.nilFunc) := ⟨by kernel_rfl⟩
instance : IsOne Tryz.prog 179 := ⟨⟨_, Tryz.underlying179, rfl⟩, by kernel_rfl⟩
instance : HasZero Tryz.prog 179 (.nilFunc) := ⟨by kernel_rfl⟩
instance : IsOne Tryz.prog 180 := ⟨⟨_, Tryz.underlying180, rfl⟩, by kernel_rfl⟩
instance : HasZero Tryz.prog 180 (.nilFunc) := ⟨by kernel_rfl⟩
instance : IsOne Tryz.prog 181 := ⟨⟨_, Tryz.underlying181, rfl⟩, by kernel_rfl⟩
instance : HasZero Tryz.prog 181 (.nilFunc) := ⟨by kernel_rfl⟩
instance : IsOne Tryz.prog 182 := ⟨⟨_, Tryz.underlying182, rfl⟩, by kernel_rfl⟩
instance : HasZero Tryz.prog 182 (.nilFunc) := ⟨by kernel_rfl⟩
instance : IsOne Tryz.prog 183 := ⟨⟨_, Tryz.underlying183, rfl⟩, by kernel_rfl⟩
instance : HasZero Tryz.prog 183 (.nilFunc) := ⟨by kernel_rfl⟩
instance : IsOne Tryz.prog 184 := ⟨⟨_, Tryz.underlying184, rfl⟩, by kernel_rfl⟩
instance : HasZero Tryz.prog 184 (.nilFunc) := ⟨by kernel_rfl⟩
instance : IsOne Tryz.prog 185 := ⟨⟨_, Tryz.underlying185, rfl⟩, by kernel_rfl⟩
instance : HasZero Tryz.prog 185 (.nilFunc) := ⟨by kernel_rfl⟩
instance : IsOne Tryz.prog 186 := ⟨⟨_, Tryz.underlying186, rfl⟩, by kernel_rfl⟩
instance : HasZero Tryz.prog 186 (.nilFunc) := ⟨by kernel_rfl⟩
instance : IsOne Tryz.prog 187 := ⟨⟨_, Tryz.underlying187, rfl⟩, by kernel_rfl⟩
instance : HasZero Tryz.prog 187 (.nilFunc) := ⟨by kernel_rfl⟩
instance : IsOne Tryz.prog 188 := ⟨⟨_, Tryz.underlying188, rfl⟩, by kernel_rfl⟩
instance : HasZero Tryz.prog 188 (.nilFunc) := ⟨by kernel_rfl⟩
instance : IsOne Tryz.prog 189 := ⟨⟨_, Tryz.underlying189, rfl⟩, by kernel_rfl⟩
instance : HasZero Tryz.prog 189 (.nilFunc) := ⟨by kernel_rfl⟩
instance : IsOne Tryz.prog 190 := ⟨⟨_, Tryz.underlying190, rfl⟩, by kernel_rfl⟩
instance : HasZero Tryz.prog 190 (.nilFunc) := ⟨by kernel_rfl⟩
instance : IsOne Tryz.prog 191 := ⟨⟨_, Tryz.underlying191, rfl⟩, by kernel_rfl⟩
instance : HasZero Tryz.prog 191 (.nilFunc) := ⟨by kernel_rfl⟩
instance : IsOne Tryz.prog 192 := ⟨⟨_, Tryz.underlying192, rfl⟩, by kernel_rfl⟩
instance : HasZero Tryz.prog 192 (.nilFunc) := ⟨by kernel_rfl⟩
instance : IsOne Tryz.prog 193 := ⟨⟨_, Tryz.underlying193, rfl⟩, by kernel_rfl⟩
instance : HasZero Tryz.prog 193 (.nilFunc) := ⟨by kernel_rfl⟩
instance : IsRow Tryz.prog 194 1 := ⟨⟨_, Tryz.underlying194, rfl⟩, by kernel_rfl⟩
instance : HasZero Tryz.prog 194 (.agg #[.pointer none]) := ⟨by kernel_rfl⟩
instance : IsOne Tryz.prog 196 := ⟨⟨_, Tryz.underlying196, rfl⟩, by kernel_rfl⟩
instance : HasZero Tryz.prog 196 (.pointer none) := ⟨by kernel_rfl⟩
instance : IsOne Tryz.prog 197 := ⟨⟨_, Tryz.underlying197, rfl⟩, by kernel_rfl⟩
instance : HasZero Tryz.prog 197 (.nilFunc) := ⟨by kernel_rfl⟩
instance : IsOne Tryz.prog 198 := ⟨⟨_, Tryz.underlying198, rfl⟩, by kernel_rfl⟩
instance : HasZero Tryz.prog 198 (.nilFunc) := ⟨by kernel_rfl⟩
instance : IsOne Tryz.prog 199 := ⟨⟨_, Tryz.underlying199, rfl⟩, by kernel_rfl⟩
instance : HasZero Tryz.prog 199 (.nilIface) := ⟨by kernel_rfl⟩
instance : IsOne Tryz.prog 201 := ⟨⟨_, Tryz.underlying201, rfl⟩, by kernel_rfl⟩
instance : HasZero Tryz.prog 201 (.nilFunc) := ⟨by kernel_rfl⟩
instance : IsOne Tryz.prog 202 := ⟨⟨_, Tryz.underlying202, rfl⟩, by kernel_rfl⟩
instance : HasZero Tryz.prog 202 (.nilIface) := ⟨by kernel_rfl⟩
instance : IsOne Tryz.prog 203 := ⟨⟨_, Tryz.underlying203, rfl⟩, by kernel_rfl⟩
instance : HasZero Tryz.prog 203 (.nilIface) := ⟨by kernel_rfl⟩
instance : IsOne Tryz.prog 204 := ⟨⟨_, Tryz.underlying204, rfl⟩, by kernel_rfl⟩
instance : SlElem Tryz.prog 204 25 1 16 := SlElem.of (z := .nilIface) Tryz.underlying204 (by kernel_rfl) (by kernel_rfl) (by decide)
instance : HasZero Tryz.prog 204 (.slice none 0 0) := ⟨by kernel_rfl⟩
instance : IsOne Tryz.prog 205 := ⟨⟨_, Tryz.underlying205, rfl⟩, by kernel_rfl⟩
instance : HasZero Tryz.prog 205 (.nilFunc) := ⟨by kernel_rfl⟩
instance : IsOne Tryz.prog 206 := ⟨⟨_, Tryz.underlying206, rfl⟩, by kernel_rfl⟩
instance : HasZero Tryz.prog 206 (.nilFunc) := ⟨by kernel_rfl⟩
instance : IsOne Tryz.prog 207 := ⟨⟨_, Tryz.underlying207, rfl⟩, by kernel_rfl⟩
instance : HasZero Tryz.prog 207 (.nilFunc) := ⟨by kernel_rfl⟩
instance : IsOne Tryz.prog 208 := ⟨⟨_, Tryz.underlying208, rfl⟩, by kernel_rfl⟩
instance : HasZero Tryz.prog 208 (.nilFunc) := ⟨by kernel_rfl⟩
instance : IsOne Tryz.prog 209 := ⟨⟨_, Tryz.underlying209, rfl⟩, by kernel_rfl⟩
instance : HasZero Tryz.prog 209 (.nilFunc) := ⟨by kernel_rfl⟩
instance : IsOne Tryz.prog 210 := ⟨⟨_, Tryz.underlying210, rfl⟩, by kernel_rfl⟩
instance : HasZero Tryz.prog 210 (.nilFunc) := ⟨by kernel_rfl⟩
instance : IsOne Tryz.prog 211 := ⟨⟨_, Tryz.underlying211, rfl⟩, by kernel_rfl⟩
instance : HasZero Tryz.prog 211 (.int .u64 0) := ⟨by kernel_rfl⟩
instance : IsOne Tryz.prog 212 := ⟨⟨_, Tryz.underlying212, rfl⟩, by kernel_rfl⟩
instance : HasZero Tryz.prog 212 (.nilFunc) := ⟨by kernel_rfl⟩
instance : IsOne Tryz.prog 213 := ⟨⟨_, Tryz.underlying213, rfl⟩, by kernel_rfl⟩
instance : HasZero Tryz.prog 213 (.nilFunc) := ⟨by kernel_rfl⟩
instance : IsOne Tryz.prog 214 := ⟨⟨_, Tryz.underlying214, rfl⟩, by kernel_rfl⟩
instance : HasZero Tryz.prog 214 (.nilFunc) := ⟨by kernel_rfl⟩
instance : IsOne Tryz.prog 215 := ⟨⟨_, Tryz.underlying215, rfl⟩, by kernel_rfl⟩
instance : HasZero Tryz.prog 215 (.nilFunc) := ⟨by kernel_rfl⟩
instance : IsOne Tryz.prog 216 := ⟨⟨_, Tryz.underlying216, rfl⟩, by kernel_rfl⟩
instance : HasZero Tryz.prog 216 (.nilFunc) := ⟨by kernel_rfl⟩
instance : IsOne Tryz.prog 218 := ⟨⟨_, Tryz.underlying218, rfl⟩, by kernel_rfl⟩
instance : HasZero Tryz.prog 218 (.nilFunc) := ⟨by kernel_rfl⟩
instance : IsOne Tryz.prog 219 := ⟨⟨_, Tryz.underlying219, rfl⟩, by kernel_rfl⟩
instance : HasZero Tryz.prog 219 (.nilFunc) := ⟨by kernel_rfl⟩
instance : IsOne Tryz.prog 220 := ⟨⟨_, Tryz.underlying220, rfl⟩, by kernel_rfl⟩
instance : HasZero Tryz.prog 220 (.nilFunc) := ⟨by kernel_rfl⟩
instance : IsOne Tryz.prog 222 := ⟨⟨_, Tryz.underlying222, rfl⟩, by kernel_rfl⟩
instance : HasZero Tryz.prog 222 (.nilFunc) := ⟨by kernel_rfl⟩
instance : IsOne Tryz.prog 224 := ⟨⟨_, Tryz.underlying224, rfl⟩, by kernel_rfl⟩
instance : HasZero Tryz.prog 224 (.nilFunc) := ⟨by kernel_rfl⟩
instance : IsOne Tryz.prog 225 := ⟨⟨_, Tryz.underlying225, rfl⟩, by kernel_rfl⟩
instance : HasZero Tryz.prog 225 (.nilFunc) := ⟨by kernel_rfl⟩
instance : IsOne Tryz.prog 226 := ⟨⟨_, Tryz.underlying226, rfl⟩, by kernel_rfl⟩
instance : HasZero Tryz.prog 226 (.nilIface) := ⟨by kernel_rfl⟩
instance : IsOne Tryz.prog 228 := ⟨⟨_, Tryz.underlying228, rfl⟩, by kernel_rfl⟩
instance : HasZero Tryz.prog 228 (.nilFunc) := ⟨by kernel_rfl⟩
instance : IsOne Tryz.prog 229 := ⟨⟨_, Tryz.underlying229, rfl⟩, by kernel_rfl⟩
instance : HasZero Tryz.prog 229 (.nilFunc) := ⟨by kernel_rfl⟩
instance : IsOne Tryz.prog 230 := ⟨⟨_, Tryz.underlying230, rfl⟩, by kernel_rfl⟩
instance : HasZero Tryz.prog 230 (.nilFunc) := ⟨by kernel_rfl⟩
instance : IsOne Tryz.prog 231 := ⟨⟨_, Tryz.underlying231, rfl⟩, by kernel_rfl⟩
instance : HasZero Tryz.prog 231 (.nilFunc) := ⟨by kernel_rfl⟩
instance : IsOne Tryz.prog 232 := ⟨⟨_, Tryz.underlying232, rfl⟩, by kernel_rfl⟩
instance : HasZero Tryz.prog 232 (.int .i64 0) := ⟨by kernel_rfl⟩
instance : IsOne Tryz.prog 234 := ⟨⟨_, Tryz.underlying234, rfl⟩, by kernel_rfl⟩
instance : HasZero Tryz.prog 234 (.nilFunc) := ⟨by kernel_rfl⟩
instance : IsOne Tryz.prog 235 := ⟨⟨_, Tryz.underlying235, rfl⟩, by kernel_rfl⟩
instance : HasZero Tryz.prog 235 (.nilFunc) := ⟨by kernel_rfl⟩
instance : IsOne Tryz.prog 236 := ⟨⟨_, Tryz.underlying236, rfl⟩, by kernel_rfl⟩
instance : HasZero Tryz.prog 236 (.nilFunc) := ⟨by kernel_rfl⟩
instance : IsOne Tryz.prog 237 := ⟨⟨_, Tryz.underlying237, rfl⟩, by kernel_rfl⟩
instance : HasZero Tryz.prog 237 (.nilFunc) := ⟨by kernel_rfl⟩
instance : IsOne Tryz.prog 238 := ⟨⟨_, Tryz.underlying238, rfl⟩, by kernel_rfl⟩
instance : HasZero Tryz.prog 238 (.nilFunc) := ⟨by kernel_rfl⟩
instance : IsOne Tryz.prog 239 := ⟨⟨_, Tryz.underlying239, rfl⟩, by kernel_rfl⟩
instance : HasZero Tryz.prog 239 (.nilFunc) := ⟨by kernel_rfl⟩
instance : IsOne Tryz.prog 240 := ⟨⟨_, Tryz.underlying240, rfl⟩, by kernel_rfl⟩
instance : HasZero Tryz.prog 240 (.int .u64 0) := ⟨by kernel_rfl⟩
instance : IsOne Tryz.prog 241 := ⟨⟨_, Tryz.underlying241, rfl⟩, by kernel_rfl⟩
instance : HasZero Tryz.prog 241 (.nilFunc) := ⟨by kernel_rfl⟩
instance : IsOne Tryz.prog 242 := ⟨⟨_, Tryz.underlying242, rfl⟩, by kernel_rfl⟩
instance : HasZero Tryz.prog 242 (.nilFunc) := ⟨by kernel_rfl⟩
instance : IsOne Tryz.prog 243 := ⟨⟨_, Tryz.underlying243, rfl⟩, by kernel_rfl⟩
instance : HasZero Tryz.prog 243 (.nilFunc) := ⟨by kernel_rfl⟩
instance : IsOne Tryz.prog 244 := ⟨⟨_, Tryz.underlying244, rfl⟩, by kernel_rfl⟩
instance : HasZero Tryz.prog 244 (.nilFunc) := ⟨by kernel_rfl⟩
instance : IsOne Tryz.prog 245 := ⟨⟨_, Tryz.underlying245, rfl⟩, by kernel_rfl⟩
instance : HasZero Tryz.prog 245 (.nilFunc) := ⟨by kernel_rfl⟩
instance : IsOne Tryz.prog 246 := ⟨⟨_, Tryz.underlying246, rfl⟩, by kernel_rfl⟩
instance : SlElem Tryz.prog 246 31 1 24 := SlElem.of (z := .slice none 0 0) Tryz.underlying246 (by kernel_rfl) (by kernel_rfl) (by decide)
instance : HasZero Tryz.prog 246 (.slice none 0 0) := ⟨by kernel_rfl⟩
instance : IsOne Tryz.prog 247 := ⟨⟨_, Tryz.underlying247, rfl⟩, by kernel_rfl⟩
instance : HasZero Tryz.prog 247 (.nilFunc) := ⟨by kernel_rfl⟩
instance : IsOne Tryz.prog 248 := ⟨⟨_, Tryz.underlying248, rfl⟩, by kernel_rfl⟩
instance : HasZero Tryz.prog 248 (.int .u64 0) := ⟨by kernel_rfl⟩
instance : IsOne Tryz.prog 249 := ⟨⟨_, Tryz.underlying249, rfl⟩, by kernel_rfl⟩
instance : HasZero Tryz.prog 249 (.nilFunc) := ⟨by kernel_rfl⟩
instance : IsOne Tryz.prog 250 := ⟨⟨_, Tryz.underlying250, rfl⟩, by kernel_rfl⟩
instance : HasZero Tryz.prog 250 (.nilFunc) := ⟨by kernel_rfl⟩
instance : IsOne Tryz.prog 251 := ⟨⟨_, Tryz.underlying251, rfl⟩, by kernel_rfl⟩
instance : HasZero Tryz.prog 251 (.nilFunc) := ⟨by kernel_rfl⟩
instance : IsOne Tryz.prog 252 := ⟨⟨_, Tryz.underlying252, rfl⟩, by kernel_rfl⟩
instance : HasZero Tryz.prog 252 (.pointer none) := ⟨by kernel_rfl⟩
instance : IsOne Tryz.prog 253 := ⟨⟨_, Tryz.underlying253, rfl⟩, by kernel_rfl⟩
instance : HasZero Tryz.prog 253 (.nilFunc) := ⟨by kernel_rfl⟩
instance : IsOne Tryz.prog 254 := ⟨⟨_, Tryz.underlying254, rfl⟩, by kernel_rfl⟩
instance : HasZero Tryz.prog 254 (.nilFunc) := ⟨by kernel_rfl⟩
instance : IsOne Tryz.prog 255 := ⟨⟨_, Tryz.underlying255, rfl⟩, by kernel_rfl⟩
instance : SlElem Tryz.prog 255 32 1 24 := SlElem.of (z := .slice none 0 0) Tryz.underlying255 (by kernel_rfl) (by kernel_rfl) (by decide)
instance : HasZero Tryz.prog 255 (.slice none 0 0) := ⟨by kernel_rfl⟩
instance : IsOne Tryz.prog 256 := ⟨⟨_, Tryz.underlying256, rfl⟩, by kernel_rfl⟩
instance : HasZero Tryz.prog 256 (.nilFunc) := ⟨by kernel_rfl⟩
instance : IsRow Tryz.prog 257 16 := ⟨⟨_, Tryz.underlying257, rfl⟩, by kernel_rfl⟩
instance : HasZero Tryz.prog 257 (.agg (Array.replicate 16 (.int .u32 0))) := ⟨by kernel_rfl⟩
instance : IsOne Tryz.prog 258 := ⟨⟨_, Tryz.underlying258, rfl⟩, by kernel_rfl⟩
instance : HasZero Tryz.prog 258 (.nilFunc) := ⟨by kernel_rfl⟩
instance : IsOne Tryz.prog 259 := ⟨⟨_, Tryz.underlying259, rfl⟩, by kernel_rfl⟩
instance : HasZero Tryz.prog 259 (.pointer none) := ⟨by kernel_rfl⟩
instance : IsOne Tryz.prog 261 := ⟨⟨_, Tryz.underlying261, rfl⟩, by kernel_rfl⟩
instance : HasZero Tryz.prog 261 (.nilFunc) := ⟨by kernel_rfl⟩
instance : IsOne Tryz.prog 262 := ⟨⟨_, Tryz.underlying262, rfl⟩, by kernel_rfl⟩
instance : HasZero Tryz.prog 262 (.nilFunc) := ⟨by kernel_rfl⟩
instance : IsOne Tryz.prog 263 := ⟨⟨_, Tryz.underlying263, rfl⟩, by kernel_rfl⟩
instance : HasZero Tryz.prog 263 (.nilFunc) := ⟨by kernel_rfl⟩
instance : IsRow Tryz.prog 264 4 := ⟨⟨_, Tryz.underlying264, rfl⟩, by kernel_rfl⟩
instance : HasZero Tryz.prog 264 (.agg #[.pointer none, .pointer none, .pointer none, .string ⟨#[]⟩]) := ⟨by kernel_rfl⟩
instance : IsRow Tryz.prog 266 0 := ⟨⟨_, Tryz.underlying266, rfl⟩, by kernel_rfl⟩
instance : HasZero Tryz.prog 266 (.agg #[]) := ⟨by kernel_rfl⟩
instance : IsRow Tryz.prog 267 0 := ⟨⟨_, Tryz.underlying267, rfl⟩, by kernel_rfl⟩
instance : HasZero Tryz.prog 267 (.agg #[]) := ⟨by kernel_rfl⟩
instance : IsOne Tryz.prog 269 := ⟨⟨_, Tryz.underlying269, rfl⟩, by kernel_rfl⟩
instance : HasZero Tryz.prog 269 (.nilFunc) := ⟨by kernel_rfl⟩
instance : IsOne Tryz.prog 271 := ⟨⟨_, Tryz.underlying271, rfl⟩, by kernel_rfl⟩
instance : HasZero Tryz.prog 271 (.nilFunc) := ⟨by kernel_rfl⟩
instance : IsOne Tryz.prog 272 := ⟨⟨_, Tryz.underlying272, rfl⟩, by kernel_rfl⟩
instance : HasZero Tryz.prog 272 (.pointer none) := ⟨by kernel_rfl⟩
instance : IsRow Tryz.prog 275 11 := ⟨⟨_, Tryz.underlying275, rfl⟩, by kernel_rfl⟩
instance : HasZero Tryz.prog 275 (.agg #[.int .u64 0, .int .u64 0, .int .u32 0, .int .u8 0, .int .u8 0, .int .u8 0, .int .u8 0, .nilFunc, .pointer none, .int .i32 0, .int .i32 0]) := ⟨by kernel_rfl⟩
instance : IsOne Tryz.prog 277 := ⟨⟨_, Tryz.underlying277, rfl⟩, by kernel_rfl⟩
instance : HasZero Tryz.prog 277 (.nilFunc) := ⟨by kernel_rfl⟩
instance : IsOne Tryz.prog 278 := ⟨⟨_, Tryz.underlying278, rfl⟩, by kernel_rfl⟩
instance : HasZero Tryz.prog 278 (.nilFunc) := ⟨by kernel_rfl⟩
instance : IsRow Tryz.prog 279 2 := ⟨⟨_, Tryz.underlying279, rfl⟩, by kernel_rfl⟩
instance : HasZero Tryz.prog 279 (.agg #[.string ⟨#[]⟩, .int .u8 0]) := ⟨by kernel_rfl⟩
instance : IsOne Tryz.prog 282 := ⟨⟨_, Tryz.underlying282, rfl⟩, by kernel_rfl⟩
instance : HasZero Tryz.prog 282 (.nilFunc) := ⟨by kernel_rfl⟩
instance : IsOne Tryz.prog 283 := ⟨⟨_, Tryz.underlying283, rfl⟩, by kernel_rfl⟩
instance : HasZero Tryz.prog 283 (.int .u16 0) := ⟨by kernel_rfl⟩
instance : IsRow Tryz.prog 284 5 := ⟨⟨_, Tryz.underlying284, rfl⟩, by kernel_rfl⟩
instance : HasZero Tryz.prog 284 (.agg #[.int .i32 0, .int .u16 0, .int .u16 0, .int .u32 0, .int .u32 0]) := ⟨by kernel_rfl⟩
instance : IsOne Tryz.prog 286 := ⟨⟨_, Tryz.underlying286, rfl⟩, by kernel_rfl⟩
instance : SlElem Tryz.prog 286 289 4 16 := SlElem.of (z := .agg #[.int .i32 0, .int .i32 0, .int .i32 0, .int .i32 0]) Tryz.underlying286 (by kernel_rfl) (by kernel_rfl) (by decide)
instance : HasZero Tryz.prog 286 (.slice none 0 0) := ⟨by kernel_rfl⟩
instance : IsRow Tryz.prog 288 4 := ⟨⟨_, Tryz.underlying288, rfl⟩, by kernel_rfl⟩
instance : HasZero Tryz.prog 288 (.agg #[.int .i32 0, .int .i32 0, .int .i32 0, .int .i32 0]) := ⟨by kernel_rfl⟩
instance : IsOne Tryz.prog 290 := ⟨⟨_, Tryz.underlying290, rfl⟩, by kernel_rfl⟩
instance : HasZero Tryz.prog 290 (.pointer none) := ⟨by kernel_rfl⟩
end Go.Dyn
end
