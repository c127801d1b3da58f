/- Part of the proof that CheckWrong returns true, whatever the four bytes; tied to the program's own text (part 2 of 14) -/
import Derived.Test.YtgnkmahdcomjcaaGreatDoorCW01
import Derived.Maps.AppendAt
import Derived.Lib.Hide
set_option linter.unusedVariables false
set_option linter.unusedSimpArgs false
namespace Go.Dyn
open Go Go.RowKit
section
variable {P : Program} {w0 w : World} {F : List Nat} {L : List It} {ops : Array Oper} {Q : Exit → Act → World → Prop} {rest : List Oper} {o : Oper} {a : Act}
theorem part_all {cs : Array Value} {n : Nat} (h : cs.size = n) : part cs 0 n = cs := by subst h; simp [part]
theorem lay_all {cs vs : Array Value} (h : vs.size = cs.size) : lay cs 0 vs = vs := by
  unfold lay
  rw [List.drop_eq_nil_of_le (by simp; omega)]
  simp
theorem ret_row {fn : Func} {R : Ending → World → Prop} {p : Tmp} {T T' : TypeId} {n : Nat} [ir : IsRow P T n] {b : Nat} {cs : Array Value} (i : Nat) (hS : Chg w0 w F L) (hi : L[i]? = some (blk b cs T')) (hr : fn.results = #[.cell p T]) (hp : a.tmps.getD p undef = .pointer (some ⟨b, 0, none⟩)) (hn : cs.size = n) (hd : a.defers = []) (h : R (.returned (.agg cs)) w) : bodyPost P fn R .ret a w := by
  refine ⟨hd, .agg cs, ?_, h⟩
  obtain ⟨d, hu, hd⟩ := ir.und
  exact results_cell_row hr a.tmps w b T' cs (0, 0) d hp (hS.get i hi) hu (by cases d <;> simp_all [TypeDesc.isRow]) (by rw [hn]; exact ir.sz)
theorem wl_load1_0  {T T' : TypeId} [i1 : IsOne P T] {x : Operand} {b k : Nat} {cs : Array Value} {v : Value} (hS : Chg w0 w F (blk b cs T' :: L)) (hgd : o.guard = none) (ho : o.op = .load T x) (hx : a.eval x = .pointer (some ⟨b, k, none⟩)) (hv : cs[k]? = some v) (h : wpList P ops Q rest (a.put o.dst v) w) : wpList P ops Q (o :: rest) a w := wl_load1 0 hS rfl hgd ho hx hv h
theorem wl_loadw_0  {T T' : TypeId} {n : Nat} [ir : IsRow P T n] {x : Operand} {b : Nat} {cs : Array Value} (hS : Chg w0 w F (blk b cs T' :: L)) (hgd : o.guard = none) (ho : o.op = .load T x) (hx : a.eval x = .pointer (some ⟨b, 0, none⟩)) (hn : cs.size = n) (h : wpList P ops Q rest (a.put o.dst (.agg cs)) w) : wpList P ops Q (o :: rest) a w := wl_loadr 0 hS rfl hgd ho hx (by omega) (part_all hn) h
theorem wl_loadr_0  {T T' : TypeId} {n : Nat} [ir : IsRow P T n] {x : Operand} {b k : Nat} {cs ps : Array Value} (hS : Chg w0 w F (blk b cs T' :: L)) (hgd : o.guard = none) (ho : o.op = .load T x) (hx : a.eval x = .pointer (some ⟨b, k, none⟩)) (hk : k + n ≤ cs.size) (hp : part cs k n = ps) (h : wpList P ops Q rest (a.put o.dst (.agg ps)) w) : wpList P ops Q (o :: rest) a w := wl_loadr 0 hS rfl hgd ho hx hk hp h
theorem wl_store1_0  {T T' : TypeId} [i1 : IsOne P T] {x y : Operand} {b k : Nat} {cs : Array Value} {v : Value} (hS : Chg w0 w F (blk b cs T' :: L)) (hgd : o.guard = none) (ho : o.op = .store T x y) (hx : a.eval x = .pointer (some ⟨b, k, none⟩)) (hy : a.eval y = v) (h1 : v.oneCell' = true) (hk : k < cs.size) (h : ∀ w', Chg w0 w' F (blk b (cs.setIfInBounds k v) T' :: L) → wpList P ops Q rest (a.put o.dst undef) w') : wpList P ops Q (o :: rest) a w := wl_store1 0 v hS rfl rfl hgd ho hx hy h1 hk h
theorem wl_storer_0  {T T' : TypeId} {n : Nat} [ir : IsRow P T n] {x y : Operand} {b k : Nat} {cs vs : Array Value} (hS : Chg w0 w F (blk b cs T' :: L)) (hgd : o.guard = none) (ho : o.op = .store T x y) (hx : a.eval x = .pointer (some ⟨b, k, none⟩)) (hy : a.eval y = .agg vs) (hn : vs.size = n) (h1 : ∀ v, v ∈ vs → v.oneCell' = true) (hk : k + n ≤ cs.size) (h : ∀ w', Chg w0 w' F (blk b (lay cs k vs) T' :: L) → wpList P ops Q rest (a.put o.dst undef) w') : wpList P ops Q (o :: rest) a w := wl_storer 0 hS rfl rfl hgd ho hx hy hn h1 hk h
theorem wl_storew_0  {T T' : TypeId} {n : Nat} [ir : IsRow P T n] {x y : Operand} {b : Nat} {cs vs : Array Value} (hS : Chg w0 w F (blk b cs T' :: L)) (hgd : o.guard = none) (ho : o.op = .store T x y) (hx : a.eval x = .pointer (some ⟨b, 0, none⟩)) (hy : a.eval y = .agg vs) (hn : vs.size = n) (h1 : ∀ v, v ∈ vs → v.oneCell' = true) (hc : cs.size = n) (h : ∀ w', Chg w0 w' F (blk b vs T' :: L) → wpList P ops Q rest (a.put o.dst undef) w') : wpList P ops Q (o :: rest) a w := wl_storer 0 hS rfl rfl hgd ho hx hy hn h1 (by omega) (fun w' hw => h w' (by rw [lay_all (by omega)] at hw; exact hw))
theorem Chg.get_0  {it : It} (hS : Chg w0 w F (it :: L)) : it.ok w := hS.get 0 rfl
theorem Chg.front_0  {it : It} (hS : Chg w0 w F (it :: L)) : Chg w0 w F (it :: L) := hS.front 0 rfl rfl
theorem Chg.drop_0  {it : It} (hS : Chg w0 w F (it :: L)) : Chg w0 w F (L) := (hS.front 0 rfl rfl).tail
theorem wl_load1_1 {x0 : It} {T T' : TypeId} [i1 : IsOne P T] {x : Operand} {b k : Nat} {cs : Array Value} {v : Value} (hS : Chg w0 w F (x0 :: blk b cs T' :: L)) (hgd : o.guard = none) (ho : o.op = .load T x) (hx : a.eval x = .pointer (some ⟨b, k, none⟩)) (hv : cs[k]? = some v) (h : wpList P ops Q rest (a.put o.dst v) w) : wpList P ops Q (o :: rest) a w := wl_load1 1 hS rfl hgd ho hx hv h
theorem wl_loadw_1 {x0 : It} {T T' : TypeId} {n : Nat} [ir : IsRow P T n] {x : Operand} {b : Nat} {cs : Array Value} (hS : Chg w0 w F (x0 :: blk b cs T' :: L)) (hgd : o.guard = none) (ho : o.op = .load T x) (hx : a.eval x = .pointer (some ⟨b, 0, none⟩)) (hn : cs.size = n) (h : wpList P ops Q rest (a.put o.dst (.agg cs)) w) : wpList P ops Q (o :: rest) a w := wl_loadr 1 hS rfl hgd ho hx (by omega) (part_all hn) h
theorem wl_loadr_1 {x0 : It} {T T' : TypeId} {n : Nat} [ir : IsRow P T n] {x : Operand} {b k : Nat} {cs ps : Array Value} (hS : Chg w0 w F (x0 :: blk b cs T' :: L)) (hgd : o.guard = none) (ho : o.op = .load T x) (hx : a.eval x = .pointer (some ⟨b, k, none⟩)) (hk : k + n ≤ cs.size) (hp : part cs k n = ps) (h : wpList P ops Q rest (a.put o.dst (.agg ps)) w) : wpList P ops Q (o :: rest) a w := wl_loadr 1 hS rfl hgd ho hx hk hp h
theorem wl_store1_1 {x0 : It} {T T' : TypeId} [i1 : IsOne P T] {x y : Operand} {b k : Nat} {cs : Array Value} {v : Value} (hS : Chg w0 w F (x0 :: blk b cs T' :: L)) (hgd : o.guard = none) (ho : o.op = .store T x y) (hx : a.eval x = .pointer (some ⟨b, k, none⟩)) (hy : a.eval y = v) (h1 : v.oneCell' = true) (hk : k < cs.size) (h : ∀ w', Chg w0 w' F (blk b (cs.setIfInBounds k v) T' :: x0 :: L) → wpList P ops Q rest (a.put o.dst undef) w') : wpList P ops Q (o :: rest) a w := wl_store1 1 v hS rfl rfl hgd ho hx hy h1 hk h
theorem wl_storer_1 {x0 : It} {T T' : TypeId} {n : Nat} [ir : IsRow P T n] {x y : Operand} {b k : Nat} {cs vs : Array Value} (hS : Chg w0 w F (x0 :: blk b cs T' :: L)) (hgd : o.guard = none) (ho : o.op = .store T x y) (hx : a.eval x = .pointer (some ⟨b, k, none⟩)) (hy : a.eval y = .agg vs) (hn : vs.size = n) (h1 : ∀ v, v ∈ vs → v.oneCell' = true) (hk : k + n ≤ cs.size) (h : ∀ w', Chg w0 w' F (blk b (lay cs k vs) T' :: x0 :: L) → wpList P ops Q rest (a.put o.dst undef) w') : wpList P ops Q (o :: rest) a w := wl_storer 1 hS rfl rfl hgd ho hx hy hn h1 hk h
theorem wl_storew_1 {x0 : It} {T T' : TypeId} {n : Nat} [ir : IsRow P T n] {x y : Operand} {b : Nat} {cs vs : Array Value} (hS : Chg w0 w F (x0 :: blk b cs T' :: L)) (hgd : o.guard = none) (ho : o.op = .store T x y) (hx : a.eval x = .pointer (some ⟨b, 0, none⟩)) (hy : a.eval y = .agg vs) (hn : vs.size = n) (h1 : ∀ v, v ∈ vs → v.oneCell' = true) (hc : cs.size = n) (h : ∀ w', Chg w0 w' F (blk b vs T' :: x0 :: L) → wpList P ops Q rest (a.put o.dst undef) w') : wpList P ops Q (o :: rest) a w := wl_storer 1 hS rfl rfl hgd ho hx hy hn h1 (by omega) (fun w' hw => h w' (by rw [lay_all (by omega)] at hw; exact hw))
theorem Chg.get_1 {x0 : It} {it : It} (hS : Chg w0 w F (x0 :: it :: L)) : it.ok w := hS.get 1 rfl
theorem Chg.front_1 {x0 : It} {it : It} (hS : Chg w0 w F (x0 :: it :: L)) : Chg w0 w F (it :: x0 :: L) := hS.front 1 rfl rfl
theorem Chg.drop_1 {x0 : It} {it : It} (hS : Chg w0 w F (x0 :: it :: L)) : Chg w0 w F (x0 :: L) := (hS.front 1 rfl rfl).tail
theorem wl_load1_2 {x0 x1 : It} {T T' : TypeId} [i1 : IsOne P T] {x : Operand} {b k : Nat} {cs : Array Value} {v : Value} (hS : Chg w0 w F (x0 :: x1 :: blk b cs T' :: L)) (hgd : o.guard = none) (ho : o.op = .load T x) (hx : a.eval x = .pointer (some ⟨b, k, none⟩)) (hv : cs[k]? = some v) (h : wpList P ops Q rest (a.put o.dst v) w) : wpList P ops Q (o :: rest) a w := wl_load1 2 hS rfl hgd ho hx hv h
theorem wl_loadw_2 {x0 x1 : It} {T T' : TypeId} {n : Nat} [ir : IsRow P T n] {x : Operand} {b : Nat} {cs : Array Value} (hS : Chg w0 w F (x0 :: x1 :: blk b cs T' :: L)) (hgd : o.guard = none) (ho : o.op = .load T x) (hx : a.eval x = .pointer (some ⟨b, 0, none⟩)) (hn : cs.size = n) (h : wpList P ops Q rest (a.put o.dst (.agg cs)) w) : wpList P ops Q (o :: rest) a w := wl_loadr 2 hS rfl hgd ho hx (by omega) (part_all hn) h
theorem wl_loadr_2 {x0 x1 : It} {T T' : TypeId} {n : Nat} [ir : IsRow P T n] {x : Operand} {b k : Nat} {cs ps : Array Value} (hS : Chg w0 w F (x0 :: x1 :: blk b cs T' :: L)) (hgd : o.guard = none) (ho : o.op = .load T x) (hx : a.eval x = .pointer (some ⟨b, k, none⟩)) (hk : k + n ≤ cs.size) (hp : part cs k n = ps) (h : wpList P ops Q rest (a.put o.dst (.agg ps)) w) : wpList P ops Q (o :: rest) a w := wl_loadr 2 hS rfl hgd ho hx hk hp h
theorem wl_store1_2 {x0 x1 : It} {T T' : TypeId} [i1 : IsOne P T] {x y : Operand} {b k : Nat} {cs : Array Value} {v : Value} (hS : Chg w0 w F (x0 :: x1 :: blk b cs T' :: L)) (hgd : o.guard = none) (ho : o.op = .store T x y) (hx : a.eval x = .pointer (some ⟨b, k, none⟩)) (hy : a.eval y = v) (h1 : v.oneCell' = true) (hk : k < cs.size) (h : ∀ w', Chg w0 w' F (blk b (cs.setIfInBounds k v) T' :: x0 :: x1 :: L) → wpList P ops Q rest (a.put o.dst undef) w') : wpList P ops Q (o :: rest) a w := wl_store1 2 v hS rfl rfl hgd ho hx hy h1 hk h
theorem wl_storer_2 {x0 x1 : It} {T T' : TypeId} {n : Nat} [ir : IsRow P T n] {x y : Operand} {b k : Nat} {cs vs : Array Value} (hS : Chg w0 w F (x0 :: x1 :: blk b cs T' :: L)) (hgd : o.guard = none) (ho : o.op = .store T x y) (hx : a.eval x = .pointer (some ⟨b, k, none⟩)) (hy : a.eval y = .agg vs) (hn : vs.size = n) (h1 : ∀ v, v ∈ vs → v.oneCell' = true) (hk : k + n ≤ cs.size) (h : ∀ w', Chg w0 w' F (blk b (lay cs k vs) T' :: x0 :: x1 :: L) → wpList P ops Q rest (a.put o.dst undef) w') : wpList P ops Q (o :: rest) a w := wl_storer 2 hS rfl rfl hgd ho hx hy hn h1 hk h
theorem wl_storew_2 {x0 x1 : It} {T T' : TypeId} {n : Nat} [ir : IsRow P T n] {x y : Operand} {b : Nat} {cs vs : Array Value} (hS : Chg w0 w F (x0 :: x1 :: blk b cs T' :: L)) (hgd : o.guard = none) (ho : o.op = .store T x y) (hx : a.eval x = .pointer (some ⟨b, 0, none⟩)) (hy : a.eval y = .agg vs) (hn : vs.size = n) (h1 : ∀ v, v ∈ vs → v.oneCell' = true) (hc : cs.size = n) (h : ∀ w', Chg w0 w' F (blk b vs T' :: x0 :: x1 :: L) → wpList P ops Q rest (a.put o.dst undef) w') : wpList P ops Q (o :: rest) a w := wl_storer 2 hS rfl rfl hgd ho hx hy hn h1 (by omega) (fun w' hw => h w' (by rw [lay_all (by omega)] at hw; exact hw))
theorem Chg.get_2 {x0 x1 : It} {it : It} (hS : Chg w0 w F (x0 :: x1 :: it :: L)) : it.ok w := hS.get 2 rfl
theorem Chg.front_2 {x0 x1 : It} {it : It} (hS : Chg w0 w F (x0 :: x1 :: it :: L)) : Chg w0 w F (it :: x0 :: x1 :: L) := hS.front 2 rfl rfl
theorem Chg.drop_2 {x0 x1 : It} {it : It} (hS : Chg w0 w F (x0 :: x1 :: it :: L)) : Chg w0 w F (x0 :: x1 :: L) := (hS.front 2 rfl rfl).tail
theorem wl_load1_3 {x0 x1 x2 : It} {T T' : TypeId} [i1 : IsOne P T] {x : Operand} {b k : Nat} {cs : Array Value} {v : Value} (hS : Chg w0 w F (x0 :: x1 :: x2 :: blk b cs T' :: L)) (hgd : o.guard = none) (ho : o.op = .load T x) (hx : a.eval x = .pointer (some ⟨b, k, none⟩)) (hv : cs[k]? = some v) (h : wpList P ops Q rest (a.put o.dst v) w) : wpList P ops Q (o :: rest) a w := wl_load1 3 hS rfl hgd ho hx hv h
theorem wl_loadw_3 {x0 x1 x2 : It} {T T' : TypeId} {n : Nat} [ir : IsRow P T n] {x : Operand} {b : Nat} {cs : Array Value} (hS : Chg w0 w F (x0 :: x1 :: x2 :: blk b cs T' :: L)) (hgd : o.guard = none) (ho : o.op = .load T x) (hx : a.eval x = .pointer (some ⟨b, 0, none⟩)) (hn : cs.size = n) (h : wpList P ops Q rest (a.put o.dst (.agg cs)) w) : wpList P ops Q (o :: rest) a w := wl_loadr 3 hS rfl hgd ho hx (by omega) (part_all hn) h
theorem wl_loadr_3 {x0 x1 x2 : It} {T T' : TypeId} {n : Nat} [ir : IsRow P T n] {x : Operand} {b k : Nat} {cs ps : Array Value} (hS : Chg w0 w F (x0 :: x1 :: x2 :: blk b cs T' :: L)) (hgd : o.guard = none) (ho : o.op = .load T x) (hx : a.eval x = .pointer (some ⟨b, k, none⟩)) (hk : k + n ≤ cs.size) (hp : part cs k n = ps) (h : wpList P ops Q rest (a.put o.dst (.agg ps)) w) : wpList P ops Q (o :: rest) a w := wl_loadr 3 hS rfl hgd ho hx hk hp h
theorem wl_store1_3 {x0 x1 x2 : It} {T T' : TypeId} [i1 : IsOne P T] {x y : Operand} {b k : Nat} {cs : Array Value} {v : Value} (hS : Chg w0 w F (x0 :: x1 :: x2 :: blk b cs T' :: L)) (hgd : o.guard = none) (ho : o.op = .store T x y) (hx : a.eval x = .pointer (some ⟨b, k, none⟩)) (hy : a.eval y = v) (h1 : v.oneCell' = true) (hk : k < cs.size) (h : ∀ w', Chg w0 w' F (blk b (cs.setIfInBounds k v) T' :: x0 :: x1 :: x2 :: L) → wpList P ops Q rest (a.put o.dst undef) w') : wpList P ops Q (o :: rest) a w := wl_store1 3 v hS rfl rfl hgd ho hx hy h1 hk h
theorem wl_storer_3 {x0 x1 x2 : It} {T T' : TypeId} {n : Nat} [ir : IsRow P T n] {x y : Operand} {b k : Nat} {cs vs : Array Value} (hS : Chg w0 w F (x0 :: x1 :: x2 :: blk b cs T' :: L)) (hgd : o.guard = none) (ho : o.op = .store T x y) (hx : a.eval x = .pointer (some ⟨b, k, none⟩)) (hy : a.eval y = .agg vs) (hn : vs.size = n) (h1 : ∀ v, v ∈ vs → v.oneCell' = true) (hk : k + n ≤ cs.size) (h : ∀ w', Chg w0 w' F (blk b (lay cs k vs) T' :: x0 :: x1 :: x2 :: L) → wpList P ops Q rest (a.put o.dst undef) w') : wpList P ops Q (o :: rest) a w := wl_storer 3 hS rfl rfl hgd ho hx hy hn h1 hk h
theorem wl_storew_3 {x0 x1 x2 : It} {T T' : TypeId} {n : Nat} [ir : IsRow P T n] {x y : Operand} {b : Nat} {cs vs : Array Value} (hS : Chg w0 w F (x0 :: x1 :: x2 :: blk b cs T' :: L)) (hgd : o.guard = none) (ho : o.op = .store T x y) (hx : a.eval x = .pointer (some ⟨b, 0, none⟩)) (hy : a.eval y = .agg vs) (hn : vs.size = n) (h1 : ∀ v, v ∈ vs → v.oneCell' = true) (hc : cs.size = n) (h : ∀ w', Chg w0 w' F (blk b vs T' :: x0 :: x1 :: x2 :: L) → wpList P ops Q rest (a.put o.dst undef) w') : wpList P ops Q (o :: rest) a w := wl_storer 3 hS rfl rfl hgd ho hx hy hn h1 (by omega) (fun w' hw => h w' (by rw [lay_all (by omega)] at hw; exact hw))
theorem Chg.get_3 {x0 x1 x2 : It} {it : It} (hS : Chg w0 w F (x0 :: x1 :: x2 :: it :: L)) : it.ok w := hS.get 3 rfl
theorem Chg.front_3 {x0 x1 x2 : It} {it : It} (hS : Chg w0 w F (x0 :: x1 :: x2 :: it :: L)) : Chg w0 w F (it :: x0 :: x1 :: x2 :: L) := hS.front 3 rfl rfl
theorem Chg.drop_3 {x0 x1 x2 : It} {it : It} (hS : Chg w0 w F (x0 :: x1 :: x2 :: it :: L)) : Chg w0 w F (x0 :: x1 :: x2 :: L) := (hS.front 3 rfl rfl).tail
theorem wl_load1_4 {x0 x1 x2 x3 : It} {T T' : TypeId} [i1 : IsOne P T] {x : Operand} {b k : Nat} {cs : Array Value} {v : Value} (hS : Chg w0 w F (x0 :: x1 :: x2 :: x3 :: blk b cs T' :: L)) (hgd : o.guard = none) (ho : o.op = .load T x) (hx : a.eval x = .pointer (some ⟨b, k, none⟩)) (hv : cs[k]? = some v) (h : wpList P ops Q rest (a.put o.dst v) w) : wpList P ops Q (o :: rest) a w := wl_load1 4 hS rfl hgd ho hx hv h
theorem wl_loadw_4 {x0 x1 x2 x3 : It} {T T' : TypeId} {n : Nat} [ir : IsRow P T n] {x : Operand} {b : Nat} {cs : Array Value} (hS : Chg w0 w F (x0 :: x1 :: x2 :: x3 :: blk b cs T' :: L)) (hgd : o.guard = none) (ho : o.op = .load T x) (hx : a.eval x = .pointer (some ⟨b, 0, none⟩)) (hn : cs.size = n) (h : wpList P ops Q rest (a.put o.dst (.agg cs)) w) : wpList P ops Q (o :: rest) a w := wl_loadr 4 hS rfl hgd ho hx (by omega) (part_all hn) h
theorem wl_loadr_4 {x0 x1 x2 x3 : It} {T T' : TypeId} {n : Nat} [ir : IsRow P T n] {x : Operand} {b k : Nat} {cs ps : Array Value} (hS : Chg w0 w F (x0 :: x1 :: x2 :: x3 :: blk b cs T' :: L)) (hgd : o.guard = none) (ho : o.op = .load T x) (hx : a.eval x = .pointer (some ⟨b, k, none⟩)) (hk : k + n ≤ cs.size) (hp : part cs k n = ps) (h : wpList P ops Q rest (a.put o.dst (.agg ps)) w) : wpList P ops Q (o :: rest) a w := wl_loadr 4 hS rfl hgd ho hx hk hp h
theorem wl_store1_4 {x0 x1 x2 x3 : It} {T T' : TypeId} [i1 : IsOne P T] {x y : Operand} {b k : Nat} {cs : Array Value} {v : Value} (hS : Chg w0 w F (x0 :: x1 :: x2 :: x3 :: blk b cs T' :: L)) (hgd : o.guard = none) (ho : o.op = .store T x y) (hx : a.eval x = .pointer (some ⟨b, k, none⟩)) (hy : a.eval y = v) (h1 : v.oneCell' = true) (hk : k < cs.size) (h : ∀ w', Chg w0 w' F (blk b (cs.setIfInBounds k v) T' :: x0 :: x1 :: x2 :: x3 :: L) → wpList P ops Q rest (a.put o.dst undef) w') : wpList P ops Q (o :: rest) a w := wl_store1 4 v hS rfl rfl hgd ho hx hy h1 hk h
theorem wl_storer_4 {x0 x1 x2 x3 : It} {T T' : TypeId} {n : Nat} [ir : IsRow P T n] {x y : Operand} {b k : Nat} {cs vs : Array Value} (hS : Chg w0 w F (x0 :: x1 :: x2 :: x3 :: blk b cs T' :: L)) (hgd : o.guard = none) (ho : o.op = .store T x y) (hx : a.eval x = .pointer (some ⟨b, k, none⟩)) (hy : a.eval y = .agg vs) (hn : vs.size = n) (h1 : ∀ v, v ∈ vs → v.oneCell' = true) (hk : k + n ≤ cs.size) (h : ∀ w', Chg w0 w' F (blk b (lay cs k vs) T' :: x0 :: x1 :: x2 :: x3 :: L) → wpList P ops Q rest (a.put o.dst undef) w') : wpList P ops Q (o :: rest) a w := wl_storer 4 hS rfl rfl hgd ho hx hy hn h1 hk h
theorem wl_storew_4 {x0 x1 x2 x3 : It} {T T' : TypeId} {n : Nat} [ir : IsRow P T n] {x y : Operand} {b : Nat} {cs vs : Array Value} (hS : Chg w0 w F (x0 :: x1 :: x2 :: x3 :: blk b cs T' :: L)) (hgd : o.guard = none) (ho : o.op = .store T x y) (hx : a.eval x = .pointer (some ⟨b, 0, none⟩)) (hy : a.eval y = .agg vs) (hn : vs.size = n) (h1 : ∀ v, v ∈ vs → v.oneCell' = true) (hc : cs.size = n) (h : ∀ w', Chg w0 w' F (blk b vs T' :: x0 :: x1 :: x2 :: x3 :: L) → wpList P ops Q rest (a.put o.dst undef) w') : wpList P ops Q (o :: rest) a w := wl_storer 4 hS rfl rfl hgd ho hx hy hn h1 (by omega) (fun w' hw => h w' (by rw [lay_all (by omega)] at hw; exact hw))
theorem Chg.get_4 {x0 x1 x2 x3 : It} {it : It} (hS : Chg w0 w F (x0 :: x1 :: x2 :: x3 :: it :: L)) : it.ok w := hS.get 4 rfl
theorem Chg.front_4 {x0 x1 x2 x3 : It} {it : It} (hS : Chg w0 w F (x0 :: x1 :: x2 :: x3 :: it :: L)) : Chg w0 w F (it :: x0 :: x1 :: x2 :: x3 :: L) := hS.front 4 rfl rfl
theorem Chg.drop_4 {x0 x1 x2 x3 : It} {it : It} (hS : Chg w0 w F (x0 :: x1 :: x2 :: x3 :: it :: L)) : Chg w0 w F (x0 :: x1 :: x2 :: x3 :: L) := (hS.front 4 rfl rfl).tail
theorem wl_load1_5 {x0 x1 x2 x3 x4 : It} {T T' : TypeId} [i1 : IsOne P T] {x : Operand} {b k : Nat} {cs : Array Value} {v : Value} (hS : Chg w0 w F (x0 :: x1 :: x2 :: x3 :: x4 :: blk b cs T' :: L)) (hgd : o.guard = none) (ho : o.op = .load T x) (hx : a.eval x = .pointer (some ⟨b, k, none⟩)) (hv : cs[k]? = some v) (h : wpList P ops Q rest (a.put o.dst v) w) : wpList P ops Q (o :: rest) a w := wl_load1 5 hS rfl hgd ho hx hv h
theorem wl_loadw_5 {x0 x1 x2 x3 x4 : It} {T T' : TypeId} {n : Nat} [ir : IsRow P T n] {x : Operand} {b : Nat} {cs : Array Value} (hS : Chg w0 w F (x0 :: x1 :: x2 :: x3 :: x4 :: blk b cs T' :: L)) (hgd : o.guard = none) (ho : o.op = .load T x) (hx : a.eval x = .pointer (some ⟨b, 0, none⟩)) (hn : cs.size = n) (h : wpList P ops Q rest (a.put o.dst (.agg cs)) w) : wpList P ops Q (o :: rest) a w := wl_loadr 5 hS rfl hgd ho hx (by omega) (part_all hn) h
theorem wl_loadr_5 {x0 x1 x2 x3 x4 : It} {T T' : TypeId} {n : Nat} [ir : IsRow P T n] {x : Operand} {b k : Nat} {cs ps : Array Value} (hS : Chg w0 w F (x0 :: x1 :: x2 :: x3 :: x4 :: blk b cs T' :: L)) (hgd : o.guard = none) (ho : o.op = .load T x) (hx : a.eval x = .pointer (some ⟨b, k, none⟩)) (hk : k + n ≤ cs.size) (hp : part cs k n = ps) (h : wpList P ops Q rest (a.put o.dst (.agg ps)) w) : wpList P ops Q (o :: rest) a w := wl_loadr 5 hS rfl hgd ho hx hk hp h
theorem wl_store1_5 {x0 x1 x2 x3 x4 : It} {T T' : TypeId} [i1 : IsOne P T] {x y : Operand} {b k : Nat} {cs : Array Value} {v : Value} (hS : Chg w0 w F (x0 :: x1 :: x2 :: x3 :: x4 :: blk b cs T' :: L)) (hgd : o.guard = none) (ho : o.op = .store T x y) (hx : a.eval x = .pointer (some ⟨b, k, none⟩)) (hy : a.eval y = v) (h1 : v.oneCell' = true) (hk : k < cs.size) (h : ∀ w', Chg w0 w' F (blk b (cs.setIfInBounds k v) T' :: x0 :: x1 :: x2 :: x3 :: x4 :: L) → wpList P ops Q rest (a.put o.dst undef) w') : wpList P ops Q (o :: rest) a w := wl_store1 5 v hS rfl rfl hgd ho hx hy h1 hk h
theorem wl_storer_5 {x0 x1 x2 x3 x4 : It} {T T' : TypeId} {n : Nat} [ir : IsRow P T n] {x y : Operand} {b k : Nat} {cs vs : Array Value} (hS : Chg w0 w F (x0 :: x1 :: x2 :: x3 :: x4 :: blk b cs T' :: L)) (hgd : o.guard = none) (ho : o.op = .store T x y) (hx : a.eval x = .pointer (some ⟨b, k, none⟩)) (hy : a.eval y = .agg vs) (hn : vs.size = n) (h1 : ∀ v, v ∈ vs → v.oneCell' = true) (hk : k + n ≤ cs.size) (h : ∀ w', Chg w0 w' F (blk b (lay cs k vs) T' :: x0 :: x1 :: x2 :: x3 :: x4 :: L) → wpList P ops Q rest (a.put o.dst undef) w') : wpList P ops Q (o :: rest) a w := wl_storer 5 hS rfl rfl hgd ho hx hy hn h1 hk h
theorem wl_storew_5 {x0 x1 x2 x3 x4 : It} {T T' : TypeId} {n : Nat} [ir : IsRow P T n] {x y : Operand} {b : Nat} {cs vs : Array Value} (hS : Chg w0 w F (x0 :: x1 :: x2 :: x3 :: x4 :: blk b cs T' :: L)) (hgd : o.guard = none) (ho : o.op = .store T x y) (hx : a.eval x = .pointer (some ⟨b, 0, none⟩)) (hy : a.eval y = .agg vs) (hn : vs.size = n) (h1 : ∀ v, v ∈ vs → v.oneCell' = true) (hc : cs.size = n) (h : ∀ w', Chg w0 w' F (blk b vs T' :: x0 :: x1 :: x2 :: x3 :: x4 :: L) → wpList P ops Q rest (a.put o.dst undef) w') : wpList P ops Q (o :: rest) a w := wl_storer 5 hS rfl rfl hgd ho hx hy hn h1 (by omega) (fun w' hw => h w' (by rw [lay_all (by omega)] at hw; exact hw))
theorem Chg.get_5 {x0 x1 x2 x3 x4 : It} {it : It} (hS : Chg w0 w F (x0 :: x1 :: x2 :: x3 :: x4 :: it :: L)) : it.ok w := hS.get 5 rfl
theorem Chg.front_5 {x0 x1 x2 x3 x4 : It} {it : It} (hS : Chg w0 w F (x0 :: x1 :: x2 :: x3 :: x4 :: it :: L)) : Chg w0 w F (it :: x0 :: x1 :: x2 :: x3 :: x4 :: L) := hS.front 5 rfl rfl
theorem Chg.drop_5 {x0 x1 x2 x3 x4 : It} {it : It} (hS : Chg w0 w F (x0 :: x1 :: x2 :: x3 :: x4 :: it :: L)) : Chg w0 w F (x0 :: x1 :: x2 :: x3 :: x4 :: L) := (hS.front 5 rfl rfl).tail
theorem wl_load1_6 {x0 x1 x2 x3 x4 x5 : It} {T T' : TypeId} [i1 : IsOne P T] {x : Operand} {b k : Nat} {cs : Array Value} {v : Value} (hS : Chg w0 w F (x0 :: x1 :: x2 :: x3 :: x4 :: x5 :: blk b cs T' :: L)) (hgd : o.guard = none) (ho : o.op = .load T x) (hx : a.eval x = .pointer (some ⟨b, k, none⟩)) (hv : cs[k]? = some v) (h : wpList P ops Q rest (a.put o.dst v) w) : wpList P ops Q (o :: rest) a w := wl_load1 6 hS rfl hgd ho hx hv h
theorem wl_loadw_6 {x0 x1 x2 x3 x4 x5 : It} {T T' : TypeId} {n : Nat} [ir : IsRow P T n] {x : Operand} {b : Nat} {cs : Array Value} (hS : Chg w0 w F (x0 :: x1 :: x2 :: x3 :: x4 :: x5 :: blk b cs T' :: L)) (hgd : o.guard = none) (ho : o.op = .load T x) (hx : a.eval x = .pointer (some ⟨b, 0, none⟩)) (hn : cs.size = n) (h : wpList P ops Q rest (a.put o.dst (.agg cs)) w) : wpList P ops Q (o :: rest) a w := wl_loadr 6 hS rfl hgd ho hx (by omega) (part_all hn) h
theorem wl_loadr_6 {x0 x1 x2 x3 x4 x5 : It} {T T' : TypeId} {n : Nat} [ir : IsRow P T n] {x : Operand} {b k : Nat} {cs ps : Array Value} (hS : Chg w0 w F (x0 :: x1 :: x2 :: x3 :: x4 :: x5 :: blk b cs T' :: L)) (hgd : o.guard = none) (ho : o.op = .load T x) (hx : a.eval x = .pointer (some ⟨b, k, none⟩)) (hk : k + n ≤ cs.size) (hp : part cs k n = ps) (h : wpList P ops Q rest (a.put o.dst (.agg ps)) w) : wpList P ops Q (o :: rest) a w := wl_loadr 6 hS rfl hgd ho hx hk hp h
theorem wl_store1_6 {x0 x1 x2 x3 x4 x5 : It} {T T' : TypeId} [i1 : IsOne P T] {x y : Operand} {b k : Nat} {cs : Array Value} {v : Value} (hS : Chg w0 w F (x0 :: x1 :: x2 :: x3 :: x4 :: x5 :: blk b cs T' :: L)) (hgd : o.guard = none) (ho : o.op = .store T x y) (hx : a.eval x = .pointer (some ⟨b, k, none⟩)) (hy : a.eval y = v) (h1 : v.oneCell' = true) (hk : k < cs.size) (h : ∀ w', Chg w0 w' F (blk b (cs.setIfInBounds k v) T' :: x0 :: x1 :: x2 :: x3 :: x4 :: x5 :: L) → wpList P ops Q rest (a.put o.dst undef) w') : wpList P ops Q (o :: rest) a w := wl_store1 6 v hS rfl rfl hgd ho hx hy h1 hk h
theorem wl_storer_6 {x0 x1 x2 x3 x4 x5 : It} {T T' : TypeId} {n : Nat} [ir : IsRow P T n] {x y : Operand} {b k : Nat} {cs vs : Array Value} (hS : Chg w0 w F (x0 :: x1 :: x2 :: x3 :: x4 :: x5 :: blk b cs T' :: L)) (hgd : o.guard = none) (ho : o.op = .store T x y) (hx : a.eval x = .pointer (some ⟨b, k, none⟩)) (hy : a.eval y = .agg vs) (hn : vs.size = n) (h1 : ∀ v, v ∈ vs → v.oneCell' = true) (hk : k + n ≤ cs.size) (h : ∀ w', Chg w0 w' F (blk b (lay cs k vs) T' :: x0 :: x1 :: x2 :: x3 :: x4 :: x5 :: L) → wpList P ops Q rest (a.put o.dst undef) w') : wpList P ops Q (o :: rest) a w := wl_storer 6 hS rfl rfl hgd ho hx hy hn h1 hk h
theorem wl_storew_6 {x0 x1 x2 x3 x4 x5 : It} {T T' : TypeId} {n : Nat} [ir : IsRow P T n] {x y : Operand} {b : Nat} {cs vs : Array Value} (hS : Chg w0 w F (x0 :: x1 :: x2 :: x3 :: x4 :: x5 :: blk b cs T' :: L)) (hgd : o.guard = none) (ho : o.op = .store T x y) (hx : a.eval x = .pointer (some ⟨b, 0, none⟩)) (hy : a.eval y = .agg vs) (hn : vs.size = n) (h1 : ∀ v, v ∈ vs → v.oneCell' = true) (hc : cs.size = n) (h : ∀ w', Chg w0 w' F (blk b vs T' :: x0 :: x1 :: x2 :: x3 :: x4 :: x5 :: L) → wpList P ops Q rest (a.put o.dst undef) w') : wpList P ops Q (o :: rest) a w := wl_storer 6 hS rfl rfl hgd ho hx hy hn h1 (by omega) (fun w' hw => h w' (by rw [lay_all (by omega)] at hw; exact hw))
theorem Chg.get_6 {x0 x1 x2 x3 x4 x5 : It} {it : It} (hS : Chg w0 w F (x0 :: x1 :: x2 :: x3 :: x4 :: x5 :: it :: L)) : it.ok w := hS.get 6 rfl
theorem Chg.front_6 {x0 x1 x2 x3 x4 x5 : It} {it : It} (hS : Chg w0 w F (x0 :: x1 :: x2 :: x3 :: x4 :: x5 :: it :: L)) : Chg w0 w F (it :: x0 :: x1 :: x2 :: x3 :: x4 :: x5 :: L) := hS.front 6 rfl rfl
theorem Chg.drop_6 {x0 x1 x2 x3 x4 x5 : It} {it : It} (hS : Chg w0 w F (x0 :: x1 :: x2 :: x3 :: x4 :: x5 :: it :: L)) : Chg w0 w F (x0 :: x1 :: x2 :: x3 :: x4 :: x5 :: L) := (hS.front 6 rfl rfl).tail
theorem wl_load1_7 {x0 x1 x2 x3 x4 x5 x6 : It} {T T' : TypeId} [i1 : IsOne P T] {x : Operand} {b k : Nat} {cs : Array Value} {v : Value} (hS : Chg w0 w F (x0 :: x1 :: x2 :: x3 :: x4 :: x5 :: x6 :: blk b cs T' :: L)) (hgd : o.guard = none) (ho : o.op = .load T x) (hx : a.eval x = .pointer (some ⟨b, k, none⟩)) (hv : cs[k]? = some v) (h : wpList P ops Q rest (a.put o.dst v) w) : wpList P ops Q (o :: rest) a w := wl_load1 7 hS rfl hgd ho hx hv h
theorem wl_loadw_7 {x0 x1 x2 x3 x4 x5 x6 : It} {T T' : TypeId} {n : Nat} [ir : IsRow P T n] {x : Operand} {b : Nat} {cs : Array Value} (hS : Chg w0 w F (x0 :: x1 :: x2 :: x3 :: x4 :: x5 :: x6 :: blk b cs T' :: L)) (hgd : o.guard = none) (ho : o.op = .load T x) (hx : a.eval x = .pointer (some ⟨b, 0, none⟩)) (hn : cs.size = n) (h : wpList P ops Q rest (a.put o.dst (.agg cs)) w) : wpList P ops Q (o :: rest) a w := wl_loadr 7 hS rfl hgd ho hx (by omega) (part_all hn) h
theorem wl_loadr_7 {x0 x1 x2 x3 x4 x5 x6 : It} {T T' : TypeId} {n : Nat} [ir : IsRow P T n] {x : Operand} {b k : Nat} {cs ps : Array Value} (hS : Chg w0 w F (x0 :: x1 :: x2 :: x3 :: x4 :: x5 :: x6 :: blk b cs T' :: L)) (hgd : o.guard = none) (ho : o.op = .load T x) (hx : a.eval x = .pointer (some ⟨b, k, none⟩)) (hk : k + n ≤ cs.size) (hp : part cs k n = ps) (h : wpList P ops Q rest (a.put o.dst (.agg ps)) w) : wpList P ops Q (o :: rest) a w := wl_loadr 7 hS rfl hgd ho hx hk hp h
theorem wl_store1_7 {x0 x1 x2 x3 x4 x5 x6 : It} {T T' : TypeId} [i1 : IsOne P T] {x y : Operand} {b k : Nat} {cs : Array Value} {v : Value} (hS : Chg w0 w F (x0 :: x1 :: x2 :: x3 :: x4 :: x5 :: x6 :: blk b cs T' :: L)) (hgd : o.guard = none) (ho : o.op = .store T x y) (hx : a.eval x = .pointer (some ⟨b, k, none⟩)) (hy : a.eval y = v) (h1 : v.oneCell' = true) (hk : k < cs.size) (h : ∀ w', Chg w0 w' F (blk b (cs.setIfInBounds k v) T' :: x0 :: x1 :: x2 :: x3 :: x4 :: x5 :: x6 :: L) → wpList P ops Q rest (a.put o.dst undef) w') : wpList P ops Q (o :: rest) a w := wl_store1 7 v hS rfl rfl hgd ho hx hy h1 hk h
theorem wl_storer_7 {x0 x1 x2 x3 x4 x5 x6 : It} {T T' : TypeId} {n : Nat} [ir : IsRow P T n] {x y : Operand} {b k : Nat} {cs vs : Array Value} (hS : Chg w0 w F (x0 :: x1 :: x2 :: x3 :: x4 :: x5 :: x6 :: blk b cs T' :: L)) (hgd : o.guard = none) (ho : o.op = .store T x y) (hx : a.eval x = .pointer (some ⟨b, k, none⟩)) (hy : a.eval y = .agg vs) (hn : vs.size = n) (h1 : ∀ v, v ∈ vs → v.oneCell' = true) (hk : k + n ≤ cs.size) (h : ∀ w', Chg w0 w' F (blk b (lay cs k vs) T' :: x0 :: x1 :: x2 :: x3 :: x4 :: x5 :: x6 :: L) → wpList P ops Q rest (a.put o.dst undef) w') : wpList P ops Q (o :: rest) a w := wl_storer 7 hS rfl rfl hgd ho hx hy hn h1 hk h
theorem wl_storew_7 {x0 x1 x2 x3 x4 x5 x6 : It} {T T' : TypeId} {n : Nat} [ir : IsRow P T n] {x y : Operand} {b : Nat} {cs vs : Array Value} (hS : Chg w0 w F (x0 :: x1 :: x2 :: x3 :: x4 :: x5 :: x6 :: blk b cs T' :: L)) (hgd : o.guard = none) (ho : o.op = .store T x y) (hx : a.eval x = .pointer (some ⟨b, 0, none⟩)) (hy : a.eval y = .agg vs) (hn : vs.size = n) (h1 : ∀ v, v ∈ vs → v.oneCell' = true) (hc : cs.size = n) (h : ∀ w', Chg w0 w' F (blk b vs T' :: x0 :: x1 :: x2 :: x3 :: x4 :: x5 :: x6 :: L) → wpList P ops Q rest (a.put o.dst undef) w') : wpList P ops Q (o :: rest) a w := wl_storer 7 hS rfl rfl hgd ho hx hy hn h1 (by omega) (fun w' hw => h w' (by rw [lay_all (by omega)] at hw; exact hw))
theorem Chg.get_7 {x0 x1 x2 x3 x4 x5 x6 : It} {it : It} (hS : Chg w0 w F (x0 :: x1 :: x2 :: x3 :: x4 :: x5 :: x6 :: it :: L)) : it.ok w := hS.get 7 rfl
theorem Chg.front_7 {x0 x1 x2 x3 x4 x5 x6 : It} {it : It} (hS : Chg w0 w F (x0 :: x1 :: x2 :: x3 :: x4 :: x5 :: x6 :: it :: L)) : Chg w0 w F (it :: x0 :: x1 :: x2 :: x3 :: x4 :: x5 :: x6 :: L) := hS.front 7 rfl rfl
theorem Chg.drop_7 {x0 x1 x2 x3 x4 x5 x6 : It} {it : It} (hS : Chg w0 w F (x0 :: x1 :: x2 :: x3 :: x4 :: x5 :: x6 :: it :: L)) : Chg w0 w F (x0 :: x1 :: x2 :: x3 :: x4 :: x5 :: x6 :: L) := (hS.front 7 rfl rfl).tail
theorem wl_load1_8 {x0 x1 x2 x3 x4 x5 x6 x7 : It} {T T' : TypeId} [i1 : IsOne P T] {x : Operand} {b k : Nat} {cs : Array Value} {v : Value} (hS : Chg w0 w F (x0 :: x1 :: x2 :: x3 :: x4 :: x5 :: x6 :: x7 :: blk b cs T' :: L)) (hgd : o.guard = none) (ho : o.op = .load T x) (hx : a.eval x = .pointer (some ⟨b, k, none⟩)) (hv : cs[k]? = some v) (h : wpList P ops Q rest (a.put o.dst v) w) : wpList P ops Q (o :: rest) a w := wl_load1 8 hS rfl hgd ho hx hv h
theorem wl_loadw_8 {x0 x1 x2 x3 x4 x5 x6 x7 : It} {T T' : TypeId} {n : Nat} [ir : IsRow P T n] {x : Operand} {b : Nat} {cs : Array Value} (hS : Chg w0 w F (x0 :: x1 :: x2 :: x3 :: x4 :: x5 :: x6 :: x7 :: blk b cs T' :: L)) (hgd : o.guard = none) (ho : o.op = .load T x) (hx : a.eval x = .pointer (some ⟨b, 0, none⟩)) (hn : cs.size = n) (h : wpList P ops Q rest (a.put o.dst (.agg cs)) w) : wpList P ops Q (o :: rest) a w := wl_loadr 8 hS rfl hgd ho hx (by omega) (part_all hn) h
theorem wl_loadr_8 {x0 x1 x2 x3 x4 x5 x6 x7 : It} {T T' : TypeId} {n : Nat} [ir : IsRow P T n] {x : Operand} {b k : Nat} {cs ps : Array Value} (hS : Chg w0 w F (x0 :: x1 :: x2 :: x3 :: x4 :: x5 :: x6 :: x7 :: blk b cs T' :: L)) (hgd : o.guard = none) (ho : o.op = .load T x) (hx : a.eval x = .pointer (some ⟨b, k, none⟩)) (hk : k + n ≤ cs.size) (hp : part cs k n = ps) (h : wpList P ops Q rest (a.put o.dst (.agg ps)) w) : wpList P ops Q (o :: rest) a w := wl_loadr 8 hS rfl hgd ho hx hk hp h
theorem wl_store1_8 {x0 x1 x2 x3 x4 x5 x6 x7 : It} {T T' : TypeId} [i1 : IsOne P T] {x y : Operand} {b k : Nat} {cs : Array Value} {v : Value} (hS : Chg w0 w F (x0 :: x1 :: x2 :: x3 :: x4 :: x5 :: x6 :: x7 :: blk b cs T' :: L)) (hgd : o.guard = none) (ho : o.op = .store T x y) (hx : a.eval x = .pointer (some ⟨b, k, none⟩)) (hy : a.eval y = v) (h1 : v.oneCell' = true) (hk : k < cs.size) (h : ∀ w', Chg w0 w' F (blk b (cs.setIfInBounds k v) T' :: x0 :: x1 :: x2 :: x3 :: x4 :: x5 :: x6 :: x7 :: L) → wpList P ops Q rest (a.put o.dst undef) w') : wpList P ops Q (o :: rest) a w := wl_store1 8 v hS rfl rfl hgd ho hx hy h1 hk h
theorem wl_storer_8 {x0 x1 x2 x3 x4 x5 x6 x7 : It} {T T' : TypeId} {n : Nat} [ir : IsRow P T n] {x y : Operand} {b k : Nat} {cs vs : Array Value} (hS : Chg w0 w F (x0 :: x1 :: x2 :: x3 :: x4 :: x5 :: x6 :: x7 :: blk b cs T' :: L)) (hgd : o.guard = none) (ho : o.op = .store T x y) (hx : a.eval x = .pointer (some ⟨b, k, none⟩)) (hy : a.eval y = .agg vs) (hn : vs.size = n) (h1 : ∀ v, v ∈ vs → v.oneCell' = true) (hk : k + n ≤ cs.size) (h : ∀ w', Chg w0 w' F (blk b (lay cs k vs) T' :: x0 :: x1 :: x2 :: x3 :: x4 :: x5 :: x6 :: x7 :: L) → wpList P ops Q rest (a.put o.dst undef) w') : wpList P ops Q (o :: rest) a w := wl_storer 8 hS rfl rfl hgd ho hx hy hn h1 hk h
theorem wl_storew_8 {x0 x1 x2 x3 x4 x5 x6 x7 : It} {T T' : TypeId} {n : Nat} [ir : IsRow P T n] {x y : Operand} {b : Nat} {cs vs : Array Value} (hS : Chg w0 w F (x0 :: x1 :: x2 :: x3 :: x4 :: x5 :: x6 :: x7 :: blk b cs T' :: L)) (hgd : o.guard = none) (ho : o.op = .store T x y) (hx : a.eval x = .pointer (some ⟨b, 0, none⟩)) (hy : a.eval y = .agg vs) (hn : vs.size = n) (h1 : ∀ v, v ∈ vs → v.oneCell' = true) (hc : cs.size = n) (h : ∀ w', Chg w0 w' F (blk b vs T' :: x0 :: x1 :: x2 :: x3 :: x4 :: x5 :: x6 :: x7 :: L) → wpList P ops Q rest (a.put o.dst undef) w') : wpList P ops Q (o :: rest) a w := wl_storer 8 hS rfl rfl hgd ho hx hy hn h1 (by omega) (fun w' hw => h w' (by rw [lay_all (by omega)] at hw; exact hw))
theorem Chg.get_8 {x0 x1 x2 x3 x4 x5 x6 x7 : It} {it : It} (hS : Chg w0 w F (x0 :: x1 :: x2 :: x3 :: x4 :: x5 :: x6 :: x7 :: it :: L)) : it.ok w := hS.get 8 rfl
theorem Chg.front_8 {x0 x1 x2 x3 x4 x5 x6 x7 : It} {it : It} (hS : Chg w0 w F (x0 :: x1 :: x2 :: x3 :: x4 :: x5 :: x6 :: x7 :: it :: L)) : Chg w0 w F (it :: x0 :: x1 :: x2 :: x3 :: x4 :: x5 :: x6 :: x7 :: L) := hS.front 8 rfl rfl
theorem Chg.drop_8 {x0 x1 x2 x3 x4 x5 x6 x7 : It} {it : It} (hS : Chg w0 w F (x0 :: x1 :: x2 :: x3 :: x4 :: x5 :: x6 :: x7 :: it :: L)) : Chg w0 w F (x0 :: x1 :: x2 :: x3 :: x4 :: x5 :: x6 :: x7 :: L) := (hS.front 8 rfl rfl).tail
theorem wl_load1_9 {x0 x1 x2 x3 x4 x5 x6 x7 x8 : It} {T T' : TypeId} [i1 : IsOne P T] {x : Operand} {b k : Nat} {cs : Array Value} {v : Value} (hS : Chg w0 w F (x0 :: x1 :: x2 :: x3 :: x4 :: x5 :: x6 :: x7 :: x8 :: blk b cs T' :: L)) (hgd : o.guard = none) (ho : o.op = .load T x) (hx : a.eval x = .pointer (some ⟨b, k, none⟩)) (hv : cs[k]? = some v) (h : wpList P ops Q rest (a.put o.dst v) w) : wpList P ops Q (o :: rest) a w := wl_load1 9 hS rfl hgd ho hx hv h
theorem wl_loadw_9 {x0 x1 x2 x3 x4 x5 x6 x7 x8 : It} {T T' : TypeId} {n : Nat} [ir : IsRow P T n] {x : Operand} {b : Nat} {cs : Array Value} (hS : Chg w0 w F (x0 :: x1 :: x2 :: x3 :: x4 :: x5 :: x6 :: x7 :: x8 :: blk b cs T' :: L)) (hgd : o.guard = none) (ho : o.op = .load T x) (hx : a.eval x = .pointer (some ⟨b, 0, none⟩)) (hn : cs.size = n) (h : wpList P ops Q rest (a.put o.dst (.agg cs)) w) : wpList P ops Q (o :: rest) a w := wl_loadr 9 hS rfl hgd ho hx (by omega) (part_all hn) h
theorem wl_loadr_9 {x0 x1 x2 x3 x4 x5 x6 x7 x8 : It} {T T' : TypeId} {n : Nat} [ir : IsRow P T n] {x : Operand} {b k : Nat} {cs ps : Array Value} (hS : Chg w0 w F (x0 :: x1 :: x2 :: x3 :: x4 :: x5 :: x6 :: x7 :: x8 :: blk b cs T' :: L)) (hgd : o.guard = none) (ho : o.op = .load T x) (hx : a.eval x = .pointer (some ⟨b, k, none⟩)) (hk : k + n ≤ cs.size) (hp : part cs k n = ps) (h : wpList P ops Q rest (a.put o.dst (.agg ps)) w) : wpList P ops Q (o :: rest) a w := wl_loadr 9 hS rfl hgd ho hx hk hp h
theorem wl_store1_9 {x0 x1 x2 x3 x4 x5 x6 x7 x8 : It} {T T' : TypeId} [i1 : IsOne P T] {x y : Operand} {b k : Nat} {cs : Array Value} {v : Value} (hS : Chg w0 w F (x0 :: x1 :: x2 :: x3 :: x4 :: x5 :: x6 :: x7 :: x8 :: blk b cs T' :: L)) (hgd : o.guard = none) (ho : o.op = .store T x y) (hx : a.eval x = .pointer (some ⟨b, k, none⟩)) (hy : a.eval y = v) (h1 : v.oneCell' = true) (hk : k < cs.size) (h : ∀ w', Chg w0 w' F (blk b (cs.setIfInBounds k v) T' :: x0 :: x1 :: x2 :: x3 :: x4 :: x5 :: x6 :: x7 :: x8 :: L) → wpList P ops Q rest (a.put o.dst undef) w') : wpList P ops Q (o :: rest) a w := wl_store1 9 v hS rfl rfl hgd ho hx hy h1 hk h
theorem wl_storer_9 {x0 x1 x2 x3 x4 x5 x6 x7 x8 : It} {T T' : TypeId} {n : Nat} [ir : IsRow P T n] {x y : Operand} {b k : Nat} {cs vs : Array Value} (hS : Chg w0 w F (x0 :: x1 :: x2 :: x3 :: x4 :: x5 :: x6 :: x7 :: x8 :: blk b cs T' :: L)) (hgd : o.guard = none) (ho : o.op = .store T x y) (hx : a.eval x = .pointer (some ⟨b, k, none⟩)) (hy : a.eval y = .agg vs) (hn : vs.size = n) (h1 : ∀ v, v ∈ vs → v.oneCell' = true) (hk : k + n ≤ cs.size) (h : ∀ w', Chg w0 w' F (blk b (lay cs k vs) T' :: x0 :: x1 :: x2 :: x3 :: x4 :: x5 :: x6 :: x7 :: x8 :: L) → wpList P ops Q rest (a.put o.dst undef) w') : wpList P ops Q (o :: rest) a w := wl_storer 9 hS rfl rfl hgd ho hx hy hn h1 hk h
theorem wl_storew_9 {x0 x1 x2 x3 x4 x5 x6 x7 x8 : It} {T T' : TypeId} {n : Nat} [ir : IsRow P T n] {x y : Operand} {b : Nat} {cs vs : Array Value} (hS : Chg w0 w F (x0 :: x1 :: x2 :: x3 :: x4 :: x5 :: x6 :: x7 :: x8 :: blk b cs T' :: L)) (hgd : o.guard = none) (ho : o.op = .store T x y) (hx : a.eval x = .pointer (some ⟨b, 0, none⟩)) (hy : a.eval y = .agg vs) (hn : vs.size = n) (h1 : ∀ v, v ∈ vs → v.oneCell' = true) (hc : cs.size = n) (h : ∀ w', Chg w0 w' F (blk b vs T' :: x0 :: x1 :: x2 :: x3 :: x4 :: x5 :: x6 :: x7 :: x8 :: L) → wpList P ops Q rest (a.put o.dst undef) w') : wpList P ops Q (o :: rest) a w := wl_storer 9 hS rfl rfl hgd ho hx hy hn h1 (by omega) (fun w' hw => h w' (by rw [lay_all (by omega)] at hw; exact hw))
theorem Chg.get_9 {x0 x1 x2 x3 x4 x5 x6 x7 x8 : It} {it : It} (hS : Chg w0 w F (x0 :: x1 :: x2 :: x3 :: x4 :: x5 :: x6 :: x7 :: x8 :: it :: L)) : it.ok w := hS.get 9 rfl
theorem Chg.front_9 {x0 x1 x2 x3 x4 x5 x6 x7 x8 : It} {it : It} (hS : Chg w0 w F (x0 :: x1 :: x2 :: x3 :: x4 :: x5 :: x6 :: x7 :: x8 :: it :: L)) : Chg w0 w F (it :: x0 :: x1 :: x2 :: x3 :: x4 :: x5 :: x6 :: x7 :: x8 :: L) := hS.front 9 rfl rfl
theorem Chg.drop_9 {x0 x1 x2 x3 x4 x5 x6 x7 x8 : It} {it : It} (hS : Chg w0 w F (x0 :: x1 :: x2 :: x3 :: x4 :: x5 :: x6 :: x7 :: x8 :: it :: L)) : Chg w0 w F (x0 :: x1 :: x2 :: x3 :: x4 :: x5 :: x6 :: x7 :: x8 :: L) := (hS.front 9 rfl rfl).tail
end
end Go.Dyn
namespace Go.Dyn
open Go Go.RowKit

/-- A slice type, its element's type, and how many cells and bytes an element has. -/
class SlElem (P : Program) (t : TypeId) (e k bytes : outParam Nat) : Prop where
  und : P.underlying t = some (.slice e)
  info : ∃ i z, P.info? e = some i ∧ i.zero = some z ∧ i.size = k ∧ i.bytes = bytes ∧ z.cells.size = k
  pos : 0 < k
  small : k ≤ 16777216

theorem SlElem.of {P : Program} {t e k bytes : Nat} {z : Value} (hu : P.underlying t = some (.slice e)) (h : (P.info? e).map (fun i => (i.zero, i.size, i.bytes)) = some (some z, k, bytes)) (hz : z.cells.size = k) (hp : 0 < k ∧ k ≤ 16777216) : SlElem P t e k bytes := by
  refine ⟨hu, ?_, hp.1, hp.2⟩
  cases hq : P.info? e with
  | none => rw [hq] at h; cases h
  | some i =>
    rw [hq] at h
    simp only [Option.map_some, Option.some.injEq, Prod.mk.injEq] at h
    exact ⟨i, z, rfl, h.1, h.2.1, h.2.2, hz⟩
/-- A slice that owns its row: k cells an element, n elements, whose cells are xs. -/
def slIt (k : Nat) (e : TypeId) (A : Option Addr) (n c : Nat) (xs : List Value) : It where
  ids := (Value.slice A n c).ownBlock.toList
  ok w := w.ownsRow 0 e k (.slice A n c) n xs
  loc {w w'} h k := by
    refine ⟨k.1, ?_⟩
    rcases k.2 with hn | ⟨g, cap, cur, hv, hb, hg, rest⟩
    · exact .inl hn
    · refine .inr ⟨g, cap, cur, hv, hb, ?_, rest⟩
      rw [h g (by rw [hv]; simp [Value.ownBlock])]
      exact hg
  inb {w} h i hi := by
    have := h.lt i (by simpa using hi)
    exact this.2

theorem slIt_nil (k : Nat) (e : TypeId) (w : World) : (slIt k e none 0 0 []).ok w := ⟨by simp, .inl ⟨rfl, rfl⟩⟩

theorem Chg.addNil {w0 w : World} {F : List Nat} {L : List It} (h : Chg w0 w F L) (k : Nat) (e : TypeId) : Chg w0 w F (slIt k e none 0 0 [] :: L) := by
  refine ⟨h.os, h.tape, h.output, h.size, h.frame, fun it hi => ?_, fun it hi i hk => ?_, ?_⟩
  · rcases List.mem_cons.1 hi with rfl | hi
    · exact slIt_nil k e w
    · exact h.all it hi
  · rcases List.mem_cons.1 hi with rfl | hi
    · simp [slIt, Value.ownBlock] at hk
    · exact h.own it hi i hk
  · simpa [slIt, Value.ownBlock] using h.nodup

/-- A block that is a whole row becomes a slice's row. -/
theorem slIt_of_blk {w : World} {b k n c : Nat} {cs : Array Value} {e : TypeId} {xs : List Value} (h : (blk b cs e).ok w) (hc : cs.size = c * k) (hn : n ≤ c) (hm : c ≤ maxLen) (hx : cs.toList.take (n * k) = xs) : (slIt k e (some ⟨b, 0, none⟩) n c xs).ok w := by
  refine ⟨?_, .inr ⟨b, c, cs, rfl, Nat.zero_le _, h, hn, hm, hc, hx⟩⟩
  rw [← hx, List.length_take]
  have : n * k ≤ c * k := Nat.mul_le_mul_right _ hn
  simp
  omega
theorem Chg.toSl {w0 w : World} {F : List Nat} {L : List It} {b : Nat} {cs : Array Value} {e : TypeId} (h : Chg w0 w F (blk b cs e :: L)) (k n c : Nat) (xs : List Value) (hc : cs.size = c * k) (hn : n ≤ c) (hm : c ≤ maxLen) (hx : cs.toList.take (n * k) = xs) :
    Chg w0 w F (slIt k e (some ⟨b, 0, none⟩) n c xs :: L) := by
  refine ⟨h.os, h.tape, h.output, h.size, h.frame, fun it hi => ?_, fun it hi i hk => ?_, ?_⟩
  · rcases List.mem_cons.1 hi with rfl | hi
    · exact slIt_of_blk h.head hc hn hm hx
    · exact h.all it (by simp [hi])
  · rcases List.mem_cons.1 hi with rfl | hi
    · exact h.own (blk b cs e) (by simp) i (by simpa [slIt, Value.ownBlock, blk] using hk)
    · exact h.own it (by simp [hi]) i hk
  · simpa [slIt, Value.ownBlock, blk] using h.nodup

/-- What a slice's row reads as. -/
theorem slIt_cell {w : World} {k n c : Nat} {e : TypeId} {b : Nat} {xs : List Value} (h : (slIt k e (some ⟨b, 0, none⟩) n c xs).ok w) (j : Nat) (hj : j < xs.length) : w.cell? ⟨b, j, none⟩ = some (xs[j]) := by
  have := World.ownsRow.cells h (g := b) rfl j xs[j] (by simp [hj])
  rwa [Addr.add_mid, Nat.zero_add] at this
theorem slIt_form {w : World} {k n c : Nat} {e : TypeId} {A : Option Addr} {xs : List Value} (h : (slIt k e A n c xs).ok w) : (A = none ∧ n = 0 ∧ c = 0 ∧ xs = []) ∨ ∃ b, A = some ⟨b, 0, none⟩ := by
  rcases h.2 with ⟨h1, h2⟩ | ⟨g, cap, cur, hv, _⟩
  · injection h1 with h1 h3 h4
    have := h.1
    subst h2
    exact .inl ⟨h1, rfl, h4, List.eq_nil_of_length_eq_zero (by simpa using this)⟩
  · injection hv with hv
    exact .inr ⟨g, hv⟩
theorem slIt_len {w : World} {k n c : Nat} {e : TypeId} {A : Option Addr} {xs : List Value} (h : (slIt k e A n c xs).ok w) : xs.length = n * k := h.1
theorem slIt_cap {w : World} {k n c : Nat} {e : TypeId} {A : Option Addr} {xs : List Value} (h : (slIt k e A n c xs).ok w) : n ≤ c ∧ c ≤ maxLen := by
  rcases h.2 with ⟨h1, h2⟩ | ⟨g, cap, cur, hv, _, _, h1, h2, _⟩
  · injection h1 with h1 h3 h4
    subst h2; subst h4
    exact ⟨Nat.le_refl _, Nat.zero_le _⟩
  · injection hv with hv h3 h4
    subst h4
    exact ⟨h1, h2⟩

section
variable {P : Program} {w0 w : World} {F : List Nat} {L : List It} {ops : Array Oper} {Q : Exit → Act → World → Prop} {rest : List Oper} {o : Oper} {a : Act}

theorem Chg.append {k n c m : Nat} {e : TypeId} {A A' : Option Addr} {c' : Nat} {xs ys : List Value} {w' : World} (h : Chg w0 w F (slIt k e A n c xs :: L)) (ho : w'.ownsRow 0 e k (.slice A' m c') m ys) (hg : w.grownBy w' (Value.slice A n c).ownBlock)
    (hat : (Value.slice A' m c').ownBlock = (Value.slice A n c).ownBlock ∨ (Value.slice A' m c').ownBlock = some w.heap.size) : Chg w0 w' F (slIt k e A' m c' ys :: L) := by
  have hn := h.nodup
  simp only [List.flatMap_cons] at hn
  have hsp := List.nodup_append.1 hn
  have hne : ∀ it, it ∈ L → ∀ i, i ∈ it.ids → some i ≠ (Value.slice A n c).ownBlock := fun it hi i hk he => hsp.2.2 i (by simp [slIt, ← he]) i (List.mem_flatMap.2 ⟨it, hi, hk⟩) rfl
  refine ⟨hg.os.trans h.os, hg.tape.trans h.tape, hg.output.trans h.output, Nat.le_trans h.size hg.size, fun b hb hnb => ?_, fun it hi => ?_, fun it hi i hk => ?_, ?_⟩
  · rw [hg.block b (Nat.lt_of_lt_of_le hb h.size) (fun he => ?_)]
    · exact h.frame b hb hnb
    · rcases h.own (slIt k e A n c xs) (by simp) b (by simp [slIt, ← he]) with h' | h'
      · exact hnb h'
      · omega
  · rcases List.mem_cons.1 hi with rfl | hi
    · exact ho
    · exact it.loc (fun i hk => hg.block i (h.lt (by simp [hi]) hk) (hne it hi i hk)) (h.all it (by simp [hi]))
  · rcases List.mem_cons.1 hi with rfl | hi
    · have hk' : (Value.slice A' m c').ownBlock = some i := by simpa [slIt] using hk
      rcases hat with e1 | e1
      · exact h.own (slIt k e A n c xs) (by simp) i (by simp [slIt, ← e1, hk'])
      · rw [hk'] at e1
        injection e1 with e1
        exact .inr (by have := h.size; omega)
    · exact h.own it (by simp [hi]) i hk
  · simp only [List.flatMap_cons]
    refine List.nodup_append.2 ⟨by simp only [slIt]; cases (Value.slice A' m c').ownBlock <;> simp, hsp.2.1, fun i hi j hj he => ?_⟩
    subst he
    have hk' : (Value.slice A' m c').ownBlock = some i := by simpa [slIt] using hi
    obtain ⟨it, hit, hij⟩ := List.mem_flatMap.1 hj
    rcases hat with e1 | e1
    · exact hne it hit i hij (by rw [← e1, hk'])
    · rw [hk'] at e1
      injection e1 with e1
      have := h.lt (it := it) (by simp [hit]) hij
      omega

theorem wl_append {t e k bytes : Nat} [se : SlElem P t e k bytes] {A : Option Addr} {n c m c1 : Nat} {xs : List Value} (i : Nat) {L' : List It} (hS : Chg w0 w F L) (hi : L[i]? = some (slIt k e A n c xs)) (he : L.eraseIdx i = L') (hgd : o.guard = none) {s x : Operand}
    (ho : o.op = .call { callee := .builtin .append, args := #[s, x], argTypes := #[t, t] }) (hs : a.eval s = .slice A n c) {ad : Addr} (hx : a.eval x = .slice (some ad) m c1) (news : List Value) (hl : news.length = m * k)
    (hnews : ∀ j u, news[j]? = some u → w.cell? (ad.add j) = some u) (h1 : ∀ u ∈ news, u.oneCell' = true) (hb : (n + m) * bytes ≤ 140737488355328) (hm : n + m ≤ maxLen)
    (h : ∀ A' c' w', Chg w0 w' F (slIt k e A' (n + m) c' (xs ++ news) :: L') → wpList P ops Q rest (a.put o.dst (.slice A' (n + m) c')) w') : wpList P ops Q (o :: rest) a w := by
  obtain ⟨i0, z, h2, h3, h4, h5, h6⟩ := se.info
  have hS1 := hS.front i hi he
  refine wpList_append_own_at w hgd s x t ho 0 e i0 z k bytes se.und h2 h3 h4 h5 h6 se.pos _ n xs hs hS1.head ad m c1 news hx hl hnews h1 hm hb (Nat.zero_le _) ?_
  intro v' w' hown hg hnil hat
  obtain ⟨A', c', rfl⟩ : ∃ A' c', v' = .slice A' (n + m) c' := by
    rcases hown.2 with ⟨rfl, h0⟩ | ⟨g, cap, cur, rfl, _⟩
    · rw [h0]; exact ⟨_, _, rfl⟩
    · exact ⟨_, _, rfl⟩
  exact h A' c' w' (hS1.append hown hg hat)

/-- The block that a one-element literal made is what is appended. -/
theorem wl_append1 {t e k bytes : Nat} [se : SlElem P t e k bytes] {A : Option Addr} {n c c1 b : Nat} {xs : List Value} {cs : Array Value} (i : Nat) {L' : List It} (hS : Chg w0 w F (blk b cs e :: L)) (hi : L[i]? = some (slIt k e A n c xs)) (he : L.eraseIdx i = L') (hgd : o.guard = none) {s x : Operand}
    (ho : o.op = .call { callee := .builtin .append, args := #[s, x], argTypes := #[t, t] }) (hs : a.eval s = .slice A n c) (hx : a.eval x = .slice (some ⟨b, 0, none⟩) 1 c1) (hl : cs.size = k)
    (h1 : ∀ u, u ∈ cs → u.oneCell' = true) (hb : (n + 1) * bytes ≤ 140737488355328) (hm : n + 1 ≤ maxLen)
    (h : ∀ A' c' w', Chg w0 w' F (slIt k e A' (n + 1) c' (xs ++ cs.toList) :: L') → wpList P ops Q rest (a.put o.dst (.slice A' (n + 1) c')) w') : wpList P ops Q (o :: rest) a w := by
  refine wl_append (i + 1) hS (by simpa using hi) (by simp [he]; rfl) hgd ho hs hx cs.toList (by simp [hl]) (fun j u hu => ?_) (fun u hu => h1 u (by simpa using hu)) hb hm (fun A' c' w' hw => h A' c' w' ?_)
  · rw [Addr.add_mid, Nat.zero_add, blk_cell hS.head]
    simpa using hu
  · exact hw.drop_1

/-- A literal slice of one element. -/
theorem wl_buildSlice1 {t e k bytes : Nat} [se : SlElem P t e k bytes] {x : Operand} (hS : Chg w0 w F L) (hgd : o.guard = none) (ho : o.op = .buildSlice t 1 #[(0, x)]) {v : Value} (hx : a.eval x = v) {cs : Array Value} (hcs : v.cells = cs) (hk : cs.size = k)
    (h : ∀ b w', Chg w0 w' F (blk b cs e :: L) → wpList P ops Q rest (a.put o.dst (.slice (some ⟨b, 0, none⟩) 1 1)) w') : wpList P ops Q (o :: rest) a w :=
  wpList_plain hgd fun K hK => by
    obtain ⟨i0, z, h2, h3, h4, h5, h6⟩ := se.info
    have hpos := se.pos
    have hk2 := se.small
    have hfill : ∀ (zs : Array Value), zs.size = k → Instr.fill (fun i => some (i * k, k)) zs [(0, v)] = some cs := by
      intro zs hzs
      have hv : v.cells.size = k := by rw [hcs, hk]
      suffices hsuf : cs.zipIdx.foldl (fun cs (x : Value × Nat) => cs.setIfInBounds (0 + x.2) x.1) zs = cs by
        simp only [Instr.fill, Nat.zero_mul]
        rw [hcs, if_neg (by simp [hk, hzs]), hsuf]
      simp only [Nat.zero_add]
      have key : ∀ (l : List (Value × Nat)) (cs0 : Array Value), (l.foldl (fun cs (x : Value × Nat) => cs.setIfInBounds x.2 x.1) cs0).size = cs0.size ∧ ∀ j, (l.foldl (fun cs (x : Value × Nat) => cs.setIfInBounds x.2 x.1) cs0)[j]? = (if j < cs0.size then (match l.reverse.find? (fun x => x.2 == j) with | some x => some x.1 | none => cs0[j]?) else none) := by
        intro l
        induction l with
        | nil => intro cs0; refine ⟨rfl, fun j => ?_⟩; by_cases hj : j < cs0.size <;> simp [hj]
        | cons y l ih =>
          intro cs0
          obtain ⟨ih1, ih2⟩ := ih (cs0.setIfInBounds y.2 y.1)
          refine ⟨by simp only [List.foldl_cons]; rw [ih1]; simp, fun j => ?_⟩
          simp only [List.foldl_cons]
          rw [ih2 j]
          by_cases hj : j < cs0.size
          · simp only [Array.size_setIfInBounds, hj, ↓reduceIte, List.reverse_cons, List.find?_append, List.find?_cons, List.find?_nil]
            cases hq : l.reverse.find? (fun x => x.2 == j) with
            | some u => simp
            | none =>
              by_cases e : y.2 = j
              · subst e; simp [hj]
              · have e' : (y.2 == j) = false := by simp [e]
                simp only [Option.none_or, e', Array.getElem?_setIfInBounds, e, ↓reduceIte]
          · simp [hj]
      rw [← Array.foldl_toList]
      simp only [Array.toList_zipIdx]
      obtain ⟨k1, k2⟩ := key (cs.toList.zipIdx) zs
      apply Array.ext_getElem?
      intro j
      rw [k2 j]
      by_cases hj : j < k
      · rw [hzs, if_pos hj]
        have hjc : j < cs.size := by omega
        have hmem : (cs[j], j) ∈ cs.toList.zipIdx.reverse := by
          rw [List.mem_reverse, List.mem_zipIdx_iff_getElem?]
          simp [hjc]
        cases hq : cs.toList.zipIdx.reverse.find? (fun x => x.2 == j) with
        | none =>
          have := List.find?_eq_none.1 hq _ hmem
          simp at this
        | some u =>
          have hu1 : u.2 = j := by have := List.find?_some hq; simpa using this
          have hu2 : u ∈ cs.toList.zipIdx := by have := List.mem_of_find?_eq_some hq; simpa using this
          rw [List.mem_zipIdx_iff_getElem?] at hu2
          rw [hu1] at hu2
          simpa using hu2.symm
      · rw [hzs, if_neg hj]
        simp; omega
    unfold Oper.wp execOp
    have hzv : ∀ w, (zeroValue e).run P w = .ok z w := fun w => by simp [zeroValue, typeInfo, h2, h3]
    have hso : ∀ w, (sizeOf e).run P w = .ok k w := fun w => by simp [sizeOf, typeInfo, h2, h4]
    simp only [ho, Instr.buildSlice, List.map_toArray, List.map_cons, List.map_nil, hx, Sem.run_bind, Sem.run_pure, Result.andThen_ok, run_underlying se.und, hso, Nat.one_mul]
    rw [if_neg (by omega), if_neg (by omega)]
    simp only [Sem.run_bind, hzv, Sem.run_pure, Result.andThen_ok]
    rw [hfill _ (by simp)]
    simp only [newRow, newObj, Sem.run_bind, Sem.run, Result.andThen_ok, Sem.run_pure]
    exact hK _ _ (h _ _ (hS.alloc _ _))
end
end Go.Dyn
