/- Part of the proof that CheckWrong returns true, whatever the four bytes; tied to the program's own text (part 6 of 14) -/
import Derived.Test.YtgnkmahdcomjcaaGreatDoorCW05
import Derived.Laws.MakeOwn
import Derived.Laws.Concat
import Derived.Lib.Hide
import Derived.LoopTactic
import Derived.Deep.Cut
import Derived.Deep.DeepMust
set_option linter.unusedVariables false
set_option linter.unusedSimpArgs false
namespace Go.Dyn
open Go Go.RowKit Go.Proofs
set_option maxRecDepth 20000
set_option maxHeartbeats 400000

theorem looseV_snoc (l : List (Nat × Pg)) (x : Nat × Pg) : looseV (l ++ [x]) = looseV l ++ looseC x := by simp [looseV]
theorem loose_fill (i : Nat) (p : Pg) : Instr.fill ((#[(0, 1), (1, 128)] : Array (Nat × Nat))[·]?) (#[.int .i64 0] ++ Array.replicate 128 (.int .u8 0)) [(0, .int .i64 (i : Int)), (1, .agg p.enc)] = some (looseC (i, p)).toArray := by
  rw [fill_cons (off := 0) (size := 1) rfl (by rfl) (by simp)]
  rw [fill_cons (off := 1) (size := 128) rfl (by simp [Value.cells]) (by rw [size_lay _ _ _ (by simp [Value.cells])]; simp)]
  have := lay_head (z := #[.int .i64 0] ++ Array.replicate 128 (.int .u8 0)) (u := #[.int .i64 (i : Int)]) (v := p.enc) (by simp)
  simp only [Value.cells]
  have h1 : (#[Value.int .i64 (i : Int)] : Array Value).size = 1 := rfl
  rw [h1] at this
  rw [this]
  simp only [Instr.fill, Option.some.injEq]
  apply Array.ext'
  simp [looseC]
set_option maxRecDepth 20000 in
theorem disk_Write {d bf : Nat} {A : Option Addr} {c : Nat} {D : Disk} {w : World} (hO : Own w (diskL d bf A c D)) (hd : D.down = false) (i : Nat) (p : Pg) (hi : i < D.firm.length) (hn : D.firm.length ≤ 1000) (hk : D.loose.length ≤ 1000000) :
    Calls Tryz.prog 46 #[ptr d, .int .i64 i, .agg p.enc] w fun e w' => ∃ A' c', e = .returned .nilIface ∧ Chg w w' (ids (diskL d bf A c D)) (diskL d bf A' c' (D.write i p)) := by
  have hS0 := hO.start
  generalize hF : ids (diskL d bf A c D) = F at *
  clear hF hO
  unfold diskL at hS0
  have Hsn := Lib.hid (looseV_snoc D.loose (i, p))
  have Hlf := Lib.hid (loose_fill i p)
  go_enter Tryz.func46, Tryz.ntmps46
  go_wp2_with (first | ((guard_target = wpList _ _ _ (Oper.mk _ (Op.box _ _) _ _ _ none :: _) _ _; (first | refine wl_box_agg (dst := 5) rfl ‹Chg _ _ _ _› rfl rfl rfl ?_ | refine wl_box_int (dst := 5) rfl ‹Chg _ _ _ _› rfl rfl rfl ?_ | refine wl_box_str (dst := 5) rfl ‹Chg _ _ _ _› rfl rfl rfl ?_ | refine wl_box_slice (dst := 5) rfl ‹Chg _ _ _ _› rfl rfl rfl ?_ | refine wl_box_ptr (dst := 5) rfl ‹Chg _ _ _ _› rfl rfl rfl ?_); intro b5 w1 hS1); clear hS0) | (go_at_call 80; refine (disk_may (hS1.get 1 rfl) hd i hi hn).mono ?_; rintro e w' ⟨rfl, rfl⟩))
  refine wp_region_moves 10 (Held [blk d (diskV bf A c D) 103, blk b5 p.enc 92]) (by kernel_rfl) (by kernel_rfl) ?_
  intro hwt
  refine wpM_quiet hwt [0, 1, 2, 3, 4, 5, 6, 7] [] _ (by kernel_rfl) (hS1.drew.held [1, 0] rfl) ?_
  simp only [pick_cons, pick_nil, consO_some, List.getElem?_cons_zero, List.getElem?_cons_succ]
  (go_big_quiet_want; go_big_quiet_op; first | go_big_quiet_on | (refine ⟨_, fun _ _ => rfl, ?_⟩; go_big_quiet_on))
  (go_big_quiet_want; go_big_quiet_op; first | go_big_quiet_on | (refine ⟨_, fun _ _ => rfl, ?_⟩; go_big_quiet_on))
  (go_big_quiet_want; go_big_quiet_op; first | go_big_quiet_on | (refine ⟨_, fun _ _ => rfl, ?_⟩; go_big_quiet_on))
  (go_big_quiet_want; go_big_quiet_op; first | go_big_quiet_on | (refine ⟨_, fun _ _ => rfl, ?_⟩; go_big_quiet_on))
  go_big_quiet_want
  refine quiet_load1 (v := .slice A D.loose.length c) rfl rfl (fun w' hw' => blk_cell (hw'.get 0 rfl) 1) ?_
  go_frame
  go_big_quiet_on
  (go_big_quiet_want; go_big_quiet_op; first | go_big_quiet_on | (refine ⟨_, fun _ _ => rfl, ?_⟩; go_big_quiet_on))
  go_big_quiet_want
  refine quiet_loadw rfl rfl (fun w' hw' => hw'.get 1 rfl) (by simp) ?_
  go_frame
  go_big_quiet_on
  go_big_quiet_want
  refine quiet_build2 rfl rfl rfl Hlf.out ?_
  go_frame
  go_big_quiet_on
  refine wpQuiet_nil ?_
  have hS2 := hS1.drew
  clear hS1
  refine wpM_one 8 (by kernel_rfl) ?_
  simp only [pick_cons, pick_nil, consO_some, List.getElem?_cons_zero, List.getElem?_cons_succ]
  refine wl_buildSlice1 (v := .agg (looseC (i, p)).toArray) (cs := (looseC (i, p)).toArray) hS2 rfl rfl rfl rfl (by simp) ?_
  intro b6 w4 hS4
  refine wpList_nil ⟨hS4.held [2, 1] rfl, ?_⟩
  refine wpM_one 9 (by kernel_rfl) ?_
  simp only [pick_cons, pick_nil, consO_some, List.getElem?_cons_zero, List.getElem?_cons_succ]
  refine wl_append1 (cs := (looseC (i, p)).toArray) 3 hS4 rfl rfl rfl rfl rfl rfl (by simp) looseC_one (by omega) (by unfold maxLen; omega) ?_
  intro A' c' w5 hS5
  clear hS4 hS2
  simp only [Hsn.out.symm, List.eraseIdx_cons_zero, List.eraseIdx_cons_succ] at hS5
  refine wpList_nil ⟨hS5.held [2, 1] rfl, ?_⟩
  refine wpM_done (by kernel_rfl) ?_
  simp only [List.take_succ_cons, List.take_zero, List.drop_succ_cons, List.drop_zero]
  go_frame
  clear hwt Hlf Hsn
  generalize hm1 : D.loose.length + 1 = m1 at *
  have Hm1 := Lib.hid hm1
  clear hm1
  go_wp2_with (first | (refine wl_store1_2 (v := .slice A' m1 c') ‹Chg _ _ _ _› rfl rfl rfl rfl rfl (by simp [diskV]) ?_; intro w6 hS6))
  go_ret
  refine ⟨A', c', rfl, hS6.arr [0, 3, 1] ?_⟩
  have hm2 : (D.write i p).loose.length = m1 := by rw [← Hm1.out]; simp [Disk.write]
  unfold diskL diskV
  rw [hm2]
  rfl
end Go.Dyn
namespace Go.Dyn
open Go Go.RowKit
set_option maxRecDepth 20000
section
variable {P : Program} {w0 w : World} {F : List Nat} {L : List It} {ops : Array Oper} {Q : Exit → Act → World → Prop} {rest : List Oper} {o : Oper} {a : Act}
theorem run_make_k {t e k bytes : Nat} [se : SlElem P t e k bytes] {z : Value} [hz : HasZero P e z] {kl kc : IntKind} {n m : Nat} (hnm : n ≤ m) (hb : m * bytes ≤ 281474976710656) (hm : m ≤ 9223372036854775807) (w : World) :
    (Instr.makeSlice t (.int kl (n : Int)) (.int kc (m : Int))).run P w = .ok (.slice (some ⟨w.heap.size, 0, none⟩) n m) (w.alloc (.cells (madeCells z.cells (m * k)) e)) := by
  obtain ⟨i, z', h2, h3, h4, h5, h6⟩ := se.info
  have hzz : z' = z := by
    have := hz.zero
    rw [h2] at this
    simpa [h3] using this
  subst hzz
  have hb2 : i.bytes * m ≤ 281474976710656 := by rw [h5, Nat.mul_comm]; exact hb
  have hbi : (i.bytes : Int) * (m : Int) ≤ 281474976710656 := by
    have h : ((i.bytes * m : Nat) : Int) ≤ 281474976710656 := by omega
    rwa [Int.natCast_mul] at h
  have hr := run_make (P := P) w t e i z' se.und h2 h3 kl kc n m (by omega) (by omega) hbi (by omega)
  simp only [Int.toNat_natCast, h4] at hr
  exact hr
theorem wl_make {t e k bytes : Nat} [se : SlElem P t e k bytes] {z : Value} [hz : HasZero P e z] {l c : Operand} {kl kc : IntKind} {n m : Nat} (hS : Chg w0 w F L) (hgd : o.guard = none) (ho : o.op = .makeSlice t l c) (hl : a.eval l = .int kl (n : Int)) (hc : a.eval c = .int kc (m : Int)) (hnm : n ≤ m) (hb : m * bytes ≤ 281474976710656) (hm : m ≤ 9223372036854775807)
    (h : ∀ b w', Chg w0 w' F (blk b (madeCells z.cells (m * k)) e :: L) → wpList P ops Q rest (a.put o.dst (.slice (some ⟨b, 0, none⟩) n m)) w') : wpList P ops Q (o :: rest) a w :=
  wpList_plain hgd fun K hK => by
    unfold Oper.wp execOp
    simp only [ho, hl, hc, Sem.run_bind, run_make_k hnm hb hm, Result.andThen_ok, Sem.run_pure]
    exact hK _ _ (h _ _ (hS.alloc _ _))
end
theorem madeCells_rep {z : Array Value} {k : Nat} (hk : z.size = k) (hp : 0 < k) : ∀ n, (madeCells z (n * k)).toList = (List.replicate n z.toList).flatten
  | 0 => by simp [madeCells]
  | n + 1 => by
    have ih := madeCells_rep hk hp n
    unfold madeCells at *
    rw [List.replicate_succ', List.flatten_append, ← ih]
    apply List.ext_getElem
    · simp [Nat.add_mul, hk]
    · intro i h1 h2
      simp only [Array.toList_map, Array.toList_range, List.length_map, List.length_range, List.flatten_cons, List.flatten_nil, List.append_nil, List.getElem_map, List.getElem_range] at *
      rw [List.getElem_append]
      split
      · simp
      · rename_i hge
        simp only [List.length_map, List.length_range, Nat.not_lt] at hge
        have hi : i < (n + 1) * k := by simpa using h1
        have hlt : i - n * k < k := by rw [Nat.add_mul] at hi; omega
        have hmod : i % k = i - n * k := by
          have : i = (i - n * k) + n * k := by omega
          rw [this, Nat.add_mul_mod_self_right, Nat.mod_eq_of_lt hlt]
          omega
        simp only [hk, hmod, List.length_map, List.length_range, Array.getElem_toList]
        rw [getElem!_pos z _ (by omega)]
section
variable {P : Program} {w0 w : World} {F : List Nat} {L : List It} {ops : Array Oper} {Q : Exit → Act → World → Prop} {rest : List Oper} {o : Oper} {a : Act} {C : World → Prop}
theorem run_strcat (T : TypeId) (x y : Operand) (l m : List UInt8) (h : l.length + m.length ≤ 1000000) (w : World) : (do eqGuard .add T x y (.string ⟨l.toArray⟩) (.string ⟨m.toArray⟩); binOp .add T (.string ⟨l.toArray⟩) (.string ⟨m.toArray⟩) : Sem Value).run P w = .ok (.string ⟨(l ++ m).toArray⟩) w := by
  have := run_string_add_lists (P := P) w l m (by omega) (by omega)
  simp [eqGuard, binOp, this]
theorem quiet_strcat {T rt : TypeId} {x y : Operand} {K : Act → Prop} (ho : o.op = .binOp .add T x y rt) {l m : List UInt8} (hx : a.eval x = .string ⟨l.toArray⟩) (hy : a.eval y = .string ⟨m.toArray⟩) (hl : l.length + m.length ≤ 1000000) (h : K (a.put o.dst (.string ⟨(l ++ m).toArray⟩))) : o.quiet P a C K := by
  refine ⟨_, fun w' hw' => ?_, h⟩
  unfold Oper.quietAt execOp
  simp only [ho, hx, hy]
  have := run_strcat (P := P) T x y l m hl w'
  rw [Sem.run_bind, this]
  exact ⟨rfl, rfl⟩
end
end Go.Dyn
namespace Go.Dyn
open Go Go.RowKit Go.Proofs
set_option maxHeartbeats 400000
set_option maxRecDepth 20000 in
theorem disk_New (n : Nat) (w : World) (h1 : 1 ≤ n) (h2 : n ≤ 240) : Calls Tryz.prog 12 #[.int .i64 n] w fun e w' => ∃ d bf, e = .returned (.tuple #[ptr d, .nilIface]) ∧ Chg w w' [] (diskL d bf none 0 (Disk.new n)) := by
  have hS0 := Chg.nil w []
  have Hm : Hid (madeCells (Array.replicate 128 (.int .u8 0)) (n * 128) = (pagesV (Disk.new n).firm).toArray) := Lib.hid (by
    apply Array.ext'
    rw [madeCells_rep (by simp) (by omega)]
    simp only [pagesV, Disk.new, List.flatMap, List.map_replicate]
    have : Pg.zero.enc = Array.replicate 128 (.int .u8 0) := by rfl
    rw [this])
  go_enter Tryz.func12, Tryz.ntmps12
  go_wp2_with (first | (refine wl_make hS0 rfl rfl rfl rfl (by omega) (by omega) (by omega) ?_; intro bf w1 hS1; clear hS0) | (guard_target = wpList _ _ _ (Oper.mk _ (Op.box _ _) _ _ _ none :: _) _ _; (first | refine wl_box_agg (dst := 15) rfl ‹Chg _ _ _ _› rfl rfl rfl ?_ | refine wl_box_int (dst := 15) rfl ‹Chg _ _ _ _› rfl rfl rfl ?_ | refine wl_box_str (dst := 15) rfl ‹Chg _ _ _ _› rfl rfl rfl ?_ | refine wl_box_slice (dst := 15) rfl ‹Chg _ _ _ _› rfl rfl rfl ?_ | refine wl_box_ptr (dst := 15) rfl ‹Chg _ _ _ _› rfl rfl rfl ?_); intro d w2 hS2))
  rw [show (Value.agg (Array.replicate 128 (Value.int IntKind.u8 0))).cells = Array.replicate 128 (.int .u8 0) from rfl, Hm.out] at hS2
  go_ret2
  have hd : (Disk.new n).firm.length = n := by simp [Disk.new]
  have := (hS2.addNil 129 143).arr [1, 2, 0] rfl
  refine ⟨d, bf, rfl, ?_⟩
  unfold diskL diskV
  rw [hd]
  exact this
theorem applyTo_take (l : List (Nat × Pg)) (f : List Pg) (k : Nat) (h : k < l.length) : applyTo (l.take (k + 1)) f = (applyTo (l.take k) f).set l[k].1 l[k].2 := by
  unfold applyTo
  rw [List.take_succ_eq_append_getElem h, List.foldl_append]
  rfl
set_option maxRecDepth 20000 in
theorem disk_Flush {d bf : Nat} {A : Option Addr} {c : Nat} {D : Disk} {w : World} (hO : Own w (diskL d bf A c D)) (hd : D.down = false) (h1 : 1 ≤ D.firm.length) (hn : D.firm.length ≤ 1000) (hk : D.loose.length ≤ 1000000) (hL : ∀ x ∈ D.loose, x.1 < D.firm.length) :
    Calls Tryz.prog 84 #[ptr d] w fun e w' => e = .returned .nilIface ∧ Chg w w' (ids (diskL d bf A c D)) (diskL d bf none 0 D.flush) := by
  have hS0 := hO.start
  generalize hF : ids (diskL d bf A c D) = F at *
  clear hF hO
  unfold diskL at hS0
  go_enter Tryz.func84, Tryz.ntmps84
  have hc1 : w.cell? ⟨d, 1, none⟩ = some (.slice A D.loose.length c) := blk_cell (hS0.get 0 rfl) 1
  go_wp2_with (first | (go_at_call 80; refine (disk_may (i := 0) (hS0.get 0 rfl) hd (by omega) hn).mono ?_; rintro e w' ⟨rfl, rfl⟩))
  clear hc1
  go_loopw [16] (fun v w' => ∃ k : Nat, k ≤ D.loose.length ∧ v = .int .i64 k ∧ Chg w w' F [blk d (diskV bf A c D) 103, blk bf (pagesV (applyTo (D.loose.take k) D.firm)).toArray 92, slIt 129 143 A D.loose.length c (looseV D.loose)]) (fun v _ => D.loose.length - (intOf v).toNat)
  case atStart => exact ⟨0, by omega, rfl, hS0⟩
  case round =>
    obtain ⟨k, hk2, rfl, hS⟩ := hrel
    clear hS0
    by_cases hlt : k < D.loose.length
    · have hsl := hS.get 2 rfl
      obtain ⟨bA, rfl⟩ : ∃ bA, A = some ⟨bA, 0, none⟩ := by
        rcases slIt_form hsl with ⟨_, h0, _⟩ | h
        · omega
        · exact h
      have Hcx := Lib.hid (cellsAt_sl hsl (k * 129) (looseC D.loose[k]) (loose_part D.loose k hlt))
      have Hr := Lib.hid (applyTo_take D.loose D.firm k hlt)
      have Hpg := Lib.hid (looseC_page D.loose[k])
      have hx := hL D.loose[k] (by simp)
      have hfl : (applyTo (D.loose.take k) D.firm).length = D.firm.length := by simp
      clear hsl
      generalize D.loose[k] = x at *
      generalize applyTo (D.loose.take k) D.firm = fk at *
      have Hp := Lib.hid (pages_lay fk x.1 x.2 (by omega))
      go_wp2_with (first | (refine wl_loadc rfl rfl rfl Hcx.out (by simp) ?_) | (guard_target = wpList _ _ _ (Oper.mk _ (Op.alloc _) _ _ _ none :: _) _ _; (refine wl_alloc_agg (dst := 5) rfl ‹Chg _ _ _ _› rfl rfl ?_); intro b5 w4 hS4) | (refine wl_storew_0 hS4 rfl rfl rfl rfl (by simp) looseC_one (by simp) ?_; intro w5 hS5; clear hS4))
      go_frame
      refine wp_region_quiet_tail 9 (fun w' => Chg w w' F [blk b5 (looseC x).toArray 143, blk d (diskV bf (some ⟨bA, 0, none⟩) c D) 103, blk bf (pagesV fk).toArray 92, slIt 129 143 (some ⟨bA, 0, none⟩) D.loose.length c (looseV D.loose)]) (by kernel_rfl) (by kernel_rfl) hS5.drew ?_
      simp only [List.take_succ_cons, List.take_zero, List.drop_succ_cons, List.drop_zero]
      (go_big_quiet_want; go_big_quiet_op; first | go_big_quiet_on | (refine ⟨_, fun _ _ => rfl, ?_⟩; go_big_quiet_on))
      (go_big_quiet_want; go_big_quiet_op; first | go_big_quiet_on | (refine ⟨_, fun _ _ => rfl, ?_⟩; go_big_quiet_on))
      (go_big_quiet_want; go_big_quiet_op; first | go_big_quiet_on | (refine ⟨_, fun _ _ => rfl, ?_⟩; go_big_quiet_on))
      (go_big_quiet_want; refine quiet_load1 (v := .slice _ _ _) rfl rfl (fun w' hw' => blk_cell (hw'.get 1 rfl) 0) ?_; go_frame; go_big_quiet_on)
      (go_big_quiet_want; go_big_quiet_op; first | go_big_quiet_on | (refine ⟨_, fun _ _ => rfl, ?_⟩; go_big_quiet_on))
      (go_big_quiet_want; refine quiet_load1 (v := .int _ _) rfl rfl (fun w' hw' => blk_cell (hw'.get 0 rfl) 0) ?_; go_frame; go_big_quiet_on)
      (go_big_quiet_want; go_big_quiet_op; first | go_big_quiet_on | (refine ⟨_, fun _ _ => rfl, ?_⟩; go_big_quiet_on))
      (go_big_quiet_want; refine quiet_loadr rfl rfl (fun w' hw' => hw'.get 0 rfl) (by simp) Hpg.out ?_; go_frame; go_big_quiet_on)
      (go_big_quiet_want; go_big_quiet_op; first | go_big_quiet_on | (refine ⟨_, fun _ _ => rfl, ?_⟩; go_big_quiet_on))
      refine wpQuiet_nil ?_
      intro w6 hS6
      clear hS5
      go_wp2_with (first | (refine wl_storer_2 hS6 rfl rfl rfl rfl (by simp) Pg.one (by simp; omega) ?_; intro w7 hS7; clear hS6))
      rw [Hp.out, ← Hr.out] at hS7
      go_roundw
      case rel => exact ⟨k + 1, by omega, by go_num, hS7.arr [2, 0, 3] rfl⟩
      case measure => simp [intOf]; omega
    · have : k = D.loose.length := by omega
      subst this
      rw [List.take_length] at hS
      go_wp2_with (first | (refine wl_store1_0 (v := .slice none 0 0) hS rfl rfl rfl rfl rfl (by simp [diskV]) ?_; intro w5 hS5; clear hS))
      go_ret
      have := (hS5.addNil 129 143).arr [1, 2, 0] rfl
      refine ⟨rfl, ?_⟩
      have hl : (D.flush).firm.length = D.firm.length := by simp [Disk.flush]
      unfold diskL diskV
      rw [hl]
      exact this
end Go.Dyn
namespace Go.Dyn
open Go Go.RowKit Go.Proofs
set_option maxRecDepth 20000
set_option maxHeartbeats 400000

/-- The first k of w bytes of n, the greatest first. -/
def beTo (w n k : Nat) : List UInt8 := (List.range k).map fun i => UInt8.ofNat (n / 256 ^ (w - 1 - i))
def be (w n : Nat) : List UInt8 := beTo w n w
theorem beTo_succ (w n k : Nat) : beTo w n (k + 1) = beTo w n k ++ [UInt8.ofNat (n / 256 ^ (w - 1 - k))] := by simp [beTo, List.range_succ]
@[simp] theorem beTo_length (w n k : Nat) : (beTo w n k).length = k := by simp [beTo]
theorem pack_may (wd : Nat) (w : World) (h1 : 1 ≤ wd) (h4 : wd ≤ 4) : Calls Tryz.prog 118 #[.int .i64 wd] w fun e w' => e = .returned (.bool true) ∧ w = w' := by
  go_enter Tryz.func118, Tryz.ntmps118
  go_wp2
  go_ret
  refine ⟨?_, rfl⟩
  simp
  omega
theorem shr_zero (wd n : Nat) (h : n < 256 ^ wd) : ((n : Int) / 2 ^ (8 * wd)) = 0 := by
  have : (2 : Int) ^ (8 * wd) = ((256 ^ wd : Nat) : Int) := by
    rw [Int.natCast_pow, Int.pow_mul]; rfl
  rw [this]
  exact Int.ediv_eq_zero_of_lt (by omega) (by exact_mod_cast h)
theorem pack_fits (wd n : Nat) (w : World) (h1 : 1 ≤ wd) (h4 : wd ≤ 4) (hn : n < 256 ^ wd) : Calls Tryz.prog 89 #[.int .i64 wd, .int .i64 n] w fun e w' => e = .returned (.bool true) ∧ w = w' := by
  go_enter Tryz.func89, Tryz.ntmps89
  go_wp2_with (go_at_call 118; refine (pack_may wd _ h1 h4).mono ?_; rintro e w' ⟨rfl, rfl⟩)
  go_ret
  refine ⟨?_, rfl⟩
  simp [shr_zero wd n hn]
theorem byte_of_nat (m : Nat) : ((m : Int) % 256) = ((UInt8.ofNat m).toNat : Int) := by simp
theorem pack_Put (wd n : Nat) (w : World) (h1 : 1 ≤ wd) (h4 : wd ≤ 4) (hn : n < 256 ^ wd) : Calls Tryz.prog 53 #[.int .i64 wd, .int .i64 n] w fun e w' => e = .returned (.string ⟨(be wd n).toArray⟩) ∧ Below w.heap.size w w' := by
  have hS0 := (Chg.nil w []).addNil 1 5
  have hb : n < 4294967296 := Nat.lt_of_lt_of_le hn (Nat.le_trans (Nat.pow_le_pow_right (by omega) h4) (by decide))
  go_enter Tryz.func53, Tryz.ntmps53
  go_wp2_with (go_at_call 89; refine (pack_fits wd n _ h1 h4 hn).mono ?_; rintro e w' ⟨rfl, rfl⟩)
  clear hn
  go_loopw [5, 12] (fun v i w' => ∃ k : Nat, k ≤ wd ∧ i = .int .i64 k ∧ ∃ A c, v = .slice A k c ∧ Chg w w' [] [slIt 1 5 A k c (u8s (beTo wd n k))]) (fun _ i _ => wd - (intOf i).toNat)
  case atStart => exact ⟨0, by omega, rfl, none, 0, rfl, hS0⟩
  case round =>
    obtain ⟨k, hk, rfl, A, c, rfl, hS⟩ := hrel
    clear hS0
    by_cases hlt : k < wd
    · have e1 : ((n : Int) / 2 ^ (8 * (wd - 1 - k)) % 256) = ((UInt8.ofNat (n / 256 ^ (wd - 1 - k))).toNat : Int) := by
        rw [← byte_of_nat]
        congr 1
        have : (2 : Int) ^ (8 * (wd - 1 - k)) = ((256 ^ (wd - 1 - k) : Nat) : Int) := by rw [Int.natCast_pow, Int.pow_mul]; rfl
        rw [this]
        simp
      have E1 := Lib.hid e1
      have E2 := Lib.hid (beTo_succ wd n k)
      clear e1
      go_wp2_with (first | (refine wl_buildSlice1 (v := .int _ _) hS rfl rfl rfl rfl rfl ?_; intro b1 w1 hS1; rw [E1.out] at hS1; clear hS) | (refine wl_append1 0 hS1 rfl rfl rfl rfl rfl rfl rfl (by simp [Value.cells, Value.oneCell']) (by omega) (by unfold maxLen; omega) ?_; intro A' c' w2 hS2; clear hS1))
      go_roundw
      case rel => exact ⟨k + 1, by omega, by go_num, A', c', rfl, by rw [E2.out]; simpa [u8s, Value.cells] using hS2⟩
      case measure => simp [intOf]; omega
    · have : k = wd := by omega
      subst this
      rcases slIt_form hS.head with ⟨_, h0, _⟩ | ⟨b, rfl⟩
      · omega
      · have hc : CellsAt wr b 0 (u8s (beTo k n k)) := fun j hj => by rw [Nat.zero_add]; exact slIt_cell hS.head j hj
        have Hc := Lib.hid hc
        clear hc
        go_wp2_with (refine wl_bytesStr Tryz.underlying74 Tryz.underlying5 Tryz.underlying9 rfl rfl rfl (beTo k n k) (by simp) Hc.out ?_)
        go_ret
        exact ⟨rfl, hS.below⟩

/-- The number of bytes. -/
def beVal (l : List UInt8) : Nat := l.foldl (fun a x => a * 256 + x.toNat) 0
theorem beVal_snoc (l : List UInt8) (x : UInt8) : beVal (l ++ [x]) = beVal l * 256 + x.toNat := by simp [beVal]
theorem beVal_take (l : List UInt8) (k : Nat) (h : k < l.length) : beVal (l.take (k + 1)) = beVal (l.take k) * 256 + l[k].toNat := by
  rw [List.take_succ_eq_append_getElem h, beVal_snoc]
theorem beVal_take_lt (l : List UInt8) : ∀ k, k ≤ l.length → beVal (l.take k) < 256 ^ k
  | 0, _ => by simp [beVal]
  | k + 1, h => by
    have h1 := beVal_take_lt l k (by omega)
    have h2 := l[k].toNat_lt
    rw [beVal_take l k (by omega), Nat.pow_succ]
    omega
theorem beVal_be1 (n : Nat) (h : n < 256) : beVal (be 1 n) = n := by
  simp [be, beTo, beVal, List.range_succ]
  omega
theorem beVal_be4 (n : Nat) (h : n < 4294967296) : beVal (be 4 n) = n := by
  simp [be, beTo, beVal, List.range_succ]
  omega
theorem or_i64 (n x : Int) (h0 : 0 ≤ n) (h1 : n < 4294967296) (h2 : 0 ≤ x) (h3 : x < 256) : bits .or .i64 (n * 256) x = n * 256 + x := by
  have e62 : (2 : Int) ^ 62 = 4611686018427387904 := by decide
  refine bits_join .i64 62 (by decide) (fun m hm0 hm1 => ?_) 8 (n * 256) x (by omega) (by simp) (by rw [e62]; omega) h2 (by simpa using h3) (by rw [e62]; omega)
  rw [e62] at hm1
  rw [IntKind.wrap_i64]
  omega
theorem pack_Get (s : ByteArray) (wd : Nat) (w : World) (h1 : 1 ≤ wd) (h4 : wd ≤ 4) (hs : wd ≤ s.size) (hs2 : s.size ≤ 1000) : Calls Tryz.prog 139 #[.string s, .int .i64 wd] w fun e w' => e = .returned (.tuple #[.int .i64 (beVal (s.data.toList.take wd) : Nat), .nilIface]) ∧ w = w' := by
  have hl : s.data.toList.length = s.size := rfl
  go_enter Tryz.func139, Tryz.ntmps139
  go_wp2_with (go_at_call 118; refine (pack_may wd _ h1 h4).mono ?_; rintro e w' ⟨rfl, rfl⟩)
  go_loop [6, 22] (fun n i => ∃ k : Nat, k ≤ wd ∧ i = .int .i64 k ∧ n = .int .i64 (beVal (s.data.toList.take k) : Nat)) (fun _ i => wd - (intOf i).toNat)
  case atStart => exact ⟨0, by omega, rfl, rfl⟩
  case round =>
    obtain ⟨k, hk, rfl, rfl⟩ := hrel
    by_cases hlt : k < wd
    · have hb := beVal_take_lt s.data.toList k (by omega)
      have hb2 : beVal (s.data.toList.take k) < 16777216 := Nat.lt_of_lt_of_le hb (Nat.le_trans (Nat.pow_le_pow_right (by omega) (show k ≤ 3 by omega)) (by decide))
      have ht := beVal_take s.data.toList k (by omega)
      have Hv := Lib.hid (show s.data[((k : Int)).toNat]? = some (s.data.toList[k]'(by omega)) by simp)
      generalize s.data.toList[k]'(by omega) = x at *
      have hx := x.toNat_lt
      have Ht := Lib.hid ht
      have Ho := Lib.hid (or_i64 (beVal (s.data.toList.take k) : Nat) x.toNat (by omega) (by omega) (by omega) (by omega))
      clear hl hb ht
      generalize beVal (s.data.toList.take k) = m at *
      go_wp2_with (refine wl_index_str Tryz.underlying9 rfl rfl rfl rfl (by omega) Hv.out ?_)
      refine ⟨⟨_, _, _, ⟨k + 1, by omega, ?_, ?_⟩, rfl, rfl, rfl⟩, by simp [intOf]; omega⟩
      · go_num
      · rw [Ht.out, Ho.out]; go_num
    · have : k = wd := by omega
      subst this
      go_wp2
      go_ret2
      exact ⟨rfl, rfl⟩
end Go.Dyn
namespace Go.Dyn
open Go Go.RowKit Go.Proofs
set_option maxRecDepth 20000
set_option maxHeartbeats 400000

theorem bits_u32 (op : BinOp) (x y : Int) (h : op = .xor ∨ op = .and) : 0 ≤ bits op .u32 x y ∧ bits op .u32 x y < 4294967296 := by
  unfold bits
  rcases h with rfl | rfl <;> simp only [IntKind.wrap_u32] <;> omega
def halfStep (x : Int) : Int := bits .xor .u32 (x / 2) (3988292384 * bits .and .u32 x 1 % 4294967296)
theorem halfStep_range (x : Int) : 0 ≤ halfStep x ∧ halfStep x < 4294967296 := bits_u32 _ _ _ (.inl rfl)
def halfTo (r : Int) : Nat → Int
  | 0 => r
  | k + 1 => halfStep (halfTo r k)
theorem halfTo_range (r : Int) (h0 : 0 ≤ r) (h1 : r < 4294967296) : ∀ k, 0 ≤ halfTo r k ∧ halfTo r k < 4294967296
  | 0 => ⟨h0, h1⟩
  | _ + 1 => halfStep_range _
theorem crc_half (r : Int) (w : World) (h0 : 0 ≤ r) (h1 : r < 4294967296) : Calls Tryz.prog 173 #[.int .u32 r] w fun e w' => e = .returned (.int .u32 (halfTo r 4)) ∧ w = w' := by
  go_enter Tryz.func173, Tryz.ntmps173
  go_wp2
  go_loop [0, 3] (fun v i => ∃ (k : Nat) (x : Int), k ≤ 4 ∧ i = .int .i64 k ∧ 0 ≤ x ∧ x < 4294967296 ∧ v = .int .u32 x ∧ Hid (x = halfTo r k)) (fun _ i => 4 - (intOf i).toNat)
  case atStart => exact ⟨0, r, by omega, rfl, h0, h1, rfl, Lib.hid rfl⟩
  case round =>
    obtain ⟨k, x, hk, rfl, hx0, hx1, rfl, He⟩ := hrel
    by_cases hlt : k < 4
    · go_wp2
      go_round
      case rel => exact ⟨k + 1, halfStep x, by omega, by go_num, (halfStep_range x).1, (halfStep_range x).2, rfl, by rw [He.out]; exact Lib.hid rfl⟩
      case measure => simp [intOf]; omega
    · have : k = 4 := by omega
      subst this
      go_wp2
      go_ret
      exact ⟨by rw [← He.out]; rfl, rfl⟩
/-- The sixteen words, the first k of them told. -/
def wordsTo (k : Nat) : List Int := (List.range 16).map fun i => if i < k then halfTo i 4 else 0
def encW (l : List Int) : Array Value := (l.map (Value.int .u32)).toArray
theorem encW_size (l : List Int) : (encW l).size = l.length := by simp [encW]
theorem encW_at (l : List Int) (k : Nat) (h : k < l.length) : (encW l)[k]? = some (.int .u32 (l.getD k 0)) := by simp [encW, h]
theorem wordsTo_len (k : Nat) : (wordsTo k).length = 16 := by simp [wordsTo]
theorem wordsTo_zero : encW (wordsTo 0) = Array.replicate 16 (.int .u32 0) := by kernel_rfl
theorem wordsTo_succ (k : Nat) (h : k < 16) : (encW (wordsTo k)).setIfInBounds k (.int .u32 (halfTo k 4)) = encW (wordsTo (k + 1)) := by
  apply Array.ext'
  simp only [encW, Array.toList_setIfInBounds, ← List.map_set]
  congr 1
  apply List.ext_getElem (by simp [wordsTo])
  intro i h1 h2
  simp only [wordsTo, List.getElem_set, List.getElem_map, List.getElem_range]
  by_cases e : k = i
  · subst e; simp
  · by_cases e2 : i < k
    · simp [e, e2, show i < k + 1 by omega]
    · simp [e, e2, show ¬ i < k + 1 by omega]
theorem encW_one {l : List Int} : ∀ v, v ∈ encW l → v.oneCell' = true := fun v h => by
  have h : v ∈ l.map (Value.int .u32) := by simpa [encW] using h
  obtain ⟨x, _, rfl⟩ := List.mem_map.1 h
  rfl
theorem crc_words (w : World) : Calls Tryz.prog 171 #[] w fun e w' => e = .returned (.agg (encW (wordsTo 16))) ∧ Below w.heap.size w w' := by
  have hS0 := Chg.nil w []
  go_enter Tryz.func171, Tryz.ntmps171
  go_wp2_with (first | (guard_target = wpList _ _ _ (Oper.mk _ (Op.alloc _) _ _ _ none :: _) _ _; (refine wl_alloc_agg (dst := 0) rfl ‹Chg _ _ _ _› rfl rfl ?_); intro b0 w1 hS1) | (guard_target = wpList _ _ _ (Oper.mk _ (Op.alloc _) _ _ _ none :: _) _ _; (refine wl_alloc_agg (dst := 1) rfl ‹Chg _ _ _ _› rfl rfl ?_); intro b1 w2 hS2))
  clear hS0 hS1
  rw [← wordsTo_zero] at hS2
  go_loopw [3] (fun i w' => ∃ k : Nat, k ≤ 16 ∧ i = .int .i64 k ∧ ∃ L, Chg w w' [] (blk b1 (encW (wordsTo k)) 257 :: L) ∧ L = [blk b0 (encW (wordsTo 0)) 257]) (fun i _ => 16 - (intOf i).toNat)
  case atStart => exact ⟨0, by omega, rfl, _, hS2, rfl⟩
  case round =>
    obtain ⟨k, hk, rfl, L, hS, rfl⟩ := hrel
    clear hS2
    by_cases hlt : k < 16
    · have Ho := Lib.hid (wordsTo_succ k hlt)
      go_wp2_with (first | (go_at_call 173; refine (crc_half k _ (by omega) (by omega)).mono ?_; rintro e w' ⟨rfl, rfl⟩) | (refine wl_store1_0 (v := .int _ _) hS rfl rfl rfl rfl rfl (by simp [encW_size, wordsTo_len]; omega) ?_; intro w5 hS5; rw [Ho.out] at hS5))
      go_roundw
      case rel => exact ⟨k + 1, by omega, by go_num, _, hS5, rfl⟩
      case measure => simp [intOf]; omega
    · have : k = 16 := by omega
      subst this
      go_wp2_with (first | (refine wl_loadw_0 hS rfl rfl rfl (by simp [encW_size, wordsTo_len]) ?_) | (refine wl_storew_1 hS rfl rfl rfl rfl (by simp [encW_size, wordsTo_len]) encW_one (by simp [encW_size, wordsTo_len]) ?_; intro w5 hS5))
      exact ret_row 0 hS5 rfl rfl rfl (by simp [encW_size, wordsTo_len]) rfl ⟨rfl, hS5.below⟩
def tabW (n : Nat) : Int := (wordsTo 16).getD n 0
theorem tabW_at (k : Nat) (h : k < 16) : (encW (wordsTo 16))[k]? = some (.int .u32 (tabW k)) := encW_at _ _ (by rw [wordsTo_len]; exact h)
def nib (x : Int) : Int := bits .xor .u32 (x / 16) (tabW (x % 16).toNat)
def crcByte (x : Int) (c : UInt8) : Int := nib (nib (bits .xor .u32 x ((c.toNat : Int) % 4294967296)))
def crcTo (s : ByteArray) (k : Nat) : Int := (s.data.toList.take k).foldl crcByte (bits .xor .u32 0 4294967295)
def crcF (s : ByteArray) : Int := bits .xor .u32 (crcTo s s.size) 4294967295
theorem crcF_range (s : ByteArray) : 0 ≤ crcF s ∧ crcF s < 4294967296 := bits_u32 _ _ _ (.inl rfl)
theorem crcTo_succ (s : ByteArray) (k : Nat) (h : k < s.size) : crcTo s (k + 1) = crcByte (crcTo s k) s[k] := by
  unfold crcTo
  rw [List.take_succ_eq_append_getElem (by simpa using h), List.foldl_append]
  rfl
theorem crc_More (s : ByteArray) (w : World) (hs : s.size ≤ 1000) : Calls Tryz.prog 160 #[.int .u32 0, .string s] w fun e w' => e = .returned (.int .u32 (crcF s)) ∧ Below w.heap.size w w' := by
  have hS0 := Chg.nil w []
  go_enter Tryz.func160, Tryz.ntmps160
  go_wp2_with (first | (go_at_call 171; refine (crc_words _).mono ?_; rintro e w' ⟨rfl, hB⟩; have hSa := hS0.bel hB; clear hS0) | (guard_target = wpList _ _ _ (Oper.mk _ (Op.alloc _) _ _ _ none :: _) _ _; (refine wl_alloc_agg (dst := 5) rfl ‹Chg _ _ _ _› rfl rfl ?_); intro b0 w1 hS1) | (refine wl_storew_0 hS1 rfl rfl rfl rfl (by simp [encW_size, wordsTo_len]) encW_one (by simp) ?_; intro w2 hS2))
  clear hSa hS1
  have hi0 := bits_u32 .xor 0 4294967295 (.inl rfl)
  have hz : crcTo s 0 = bits .xor .u32 0 4294967295 := rfl
  have Hz := Lib.hid hz.symm
  clear hz
  generalize bits .xor .u32 0 4294967295 = x0 at *
  have HW : Hid (∀ k, k < 16 → (encW (wordsTo 16))[k]? = some (.int .u32 (tabW k))) := Lib.hid tabW_at
  generalize encW (wordsTo 16) = W at *
  go_loop [6, 13] (fun v i => ∃ (k : Nat) (x : Int), k ≤ s.size ∧ i = .int .i64 k ∧ 0 ≤ x ∧ x < 4294967296 ∧ v = .int .u32 x ∧ Hid (x = crcTo s k)) (fun _ i => s.size - (intOf i).toNat)
  case atStart => exact ⟨0, _, by omega, rfl, hi0.1, hi0.2, rfl, Hz⟩
  case round =>
    obtain ⟨k, x, hk, rfl, hx0, hx1, rfl, He⟩ := hrel
    by_cases hlt : k < s.size
    · have Hs := Lib.hid (crcTo_succ s k hlt)
      generalize hc : s[k] = c at Hs
      go_upto_region 7 with (fail)
      have h1 := bits_u32 .xor x ((c.toNat : Int) % 4294967296) (.inl rfl)
      have Hx : Hid (crcTo s (k + 1) = nib (nib (bits .xor .u32 x ((c.toNat : Int) % 4294967296)))) := by
        show _ = _
        rw [Hs.out, ← He.out]; rfl
      clear Hs He hc
      generalize bits .xor .u32 x ((c.toNat : Int) % 4294967296) = x1 at *
      have Hv1 := Lib.hid (HW.out (x1 % 16).toNat (by omega))
      go_upto_region 8 with (go_big_may; refine wl_load1_0 hS2 rfl rfl rfl Hv1.out ?_)
      have h2 := bits_u32 .xor (x1 / 16) (tabW (x1 % 16).toNat) (.inl rfl)
      have Hn : Hid (bits .xor .u32 (x1 / 16) (tabW (x1 % 16).toNat) = nib x1) := Lib.hid rfl
      generalize bits .xor .u32 (x1 / 16) (tabW (x1 % 16).toNat) = x2 at *
      have Hv2 := Lib.hid (HW.out (x2 % 16).toNat (by omega))
      go_wp2_with (refine wl_load1_0 hS2 rfl rfl rfl Hv2.out ?_)
      go_round
      case rel => exact ⟨k + 1, nib x2, by omega, by go_num, (bits_u32 _ _ _ (.inl rfl)).1, (bits_u32 _ _ _ (.inl rfl)).2, rfl, by rw [Hx.out, ← Hn.out]; exact Lib.hid rfl⟩
      case measure => simp [intOf]; omega
    · have : k = s.size := by omega
      subst this
      go_wp2
      go_ret
      exact ⟨by show _ = Ending.returned (.int .u32 (bits .xor .u32 (crcTo s s.size) 4294967295)); rw [← He.out]; rfl, hS2.below⟩
theorem crc_Sum (s : ByteArray) (w : World) (hs : s.size ≤ 1000) : Calls Tryz.prog 140 #[.string s] w fun e w' => e = .returned (.int .u32 (crcF s)) ∧ Below w.heap.size w w' := by
  go_enter Tryz.func140, Tryz.ntmps140
  go_wp2_with (go_at_call 160; refine (crc_More s _ hs).mono ?_; rintro e w' ⟨rfl, hB⟩)
  go_ret
  exact ⟨rfl, hB⟩
end Go.Dyn
namespace Go.Dyn
open Go Go.RowKit Go.Proofs
set_option maxRecDepth 20000
set_option maxHeartbeats 400000
def crcL (l : List UInt8) : Nat := (crcF ⟨l.toArray⟩).toNat
theorem crcL_lt (l : List UInt8) : crcL l < 4294967296 := by have := crcF_range ⟨l.toArray⟩; unfold crcL; omega
theorem crcL_int (l : List UInt8) : crcF ⟨l.toArray⟩ = (crcL l : Int) := by have := crcF_range ⟨l.toArray⟩; unfold crcL; omega
def laidL (kind : Nat) (data : List UInt8) : List UInt8 := over (frame0 kind data) 0 (be 4 (crcL ((frame0 kind data).drop 4)))
@[simp] theorem be_length (w n : Nat) : (be w n).length = w := by simp [be]
theorem laidL_length (kind : Nat) (data : List UInt8) (h : data.length ≤ 120) : (laidL kind data).length = 128 := by
  unfold laidL
  rw [over_length] <;> simp [frame0_length kind data h]
def laidP (kind : Nat) (data : List UInt8) (h : data.length ≤ 120) : Pg := ⟨laidL kind data, laidL_length kind data h⟩

theorem crc_SumL (l : List UInt8) (w : World) (hl : l.length ≤ 1000) : Calls Tryz.prog 140 #[.string ⟨l.toArray⟩] w fun e w' => e = .returned (.int .u32 (crcL l : Nat)) ∧ Below w.heap.size w w' := by
  have := crc_Sum ⟨l.toArray⟩ w (by simpa [ByteArray.size] using hl)
  rwa [crcL_int] at this

set_option maxRecDepth 20000 in
theorem frame_laid (kind : Nat) (s : ByteArray) (w : World) (hk : kind < 256) (hs : s.data.toList.length ≤ 120) :
    Calls Tryz.prog 120 #[.int .i64 kind, .string s] w fun e w' => e = .returned (.agg (laidP kind s.data.toList hs).enc) ∧ Below w.heap.size w w' := by
  have hS0 := Chg.nil w []
  have hl : s.size ≤ 120 := hs
  have hfl := frame0_length kind s.data.toList hs
  have Hf := Lib.hid (frame_start kind s.size hk (by omega))
  have Hfin : Hid ((laidP kind s.data.toList hs).enc = (u8s (over (frame0 kind s.data.toList) 0 (be 4 (crcL ((frame0 kind s.data.toList).drop 4))))).toArray) := Lib.hid rfl
  have H0 : Hid (over (((List.replicate 128 (0 : UInt8)).set 4 (UInt8.ofNat kind)).set 5 (UInt8.ofNat s.size)) 6 s.data.toList = frame0 kind s.data.toList) := Lib.hid rfl
  generalize (laidP kind s.data.toList hs).enc = R at *
  clear hs
  generalize frame0 kind s.data.toList = f0 at *
  have Hfl := Lib.hid hfl
  clear hfl
  go_enter Tryz.func120, Tryz.ntmps120
  go_wp2_with (first | (guard_target = wpList _ _ _ (Oper.mk _ (Op.alloc _) _ _ _ none :: _) _ _; (refine wl_alloc_agg (dst := 4) rfl ‹Chg _ _ _ _› rfl rfl ?_); intro b0 w1 hS1) | ((guard_target = wpList _ _ _ (Oper.mk _ (Op.alloc _) _ _ _ none :: _) _ _; (refine wl_alloc_agg (dst := 5) rfl ‹Chg _ _ _ _› rfl rfl ?_); intro b1 w2 hS2); clear hS0 hS1) | (refine wl_store1_0 (v := .int _ _) hS2 rfl rfl rfl rfl rfl (by simp) ?_; intro w3 hS3; clear hS2) | (refine wl_store1_0 (v := .int _ _) hS3 rfl rfl rfl rfl rfl (by simp) ?_; intro w4 hS4; clear hS3; rw [Hf.out] at hS4) | (refine wl_copyStr Tryz.underlying74 rfl rfl hS4 rfl rfl (by simp) (by omega) ?_; intro w5 hS5; clear hS4; rw [lay_u8s, H0.out] at hS5))
  clear Hf H0
  go_frame
  have hcell : ∀ w', Chg w w' [] (blk b1 (u8s f0).toArray 92 :: [blk b0 (Array.replicate 128 (Value.int .u8 0)) 92]) → CellsAt w' b1 4 (u8s (f0.drop 4)) := fun w' hw' => cellsAt_blk hw'.head _ (by simp [u8s, List.map_drop, Hfl.out, List.take_of_length_le])
  have Hc := Lib.hid hcell
  clear hcell
  have hcl := crcL_lt (f0.drop 4)
  have Hp : Hid (∀ w, Calls Tryz.prog 53 #[.int .i64 4, .int .i64 (crcL (f0.drop 4))] w fun e w' => e = .returned (.string ⟨(be 4 (crcL (f0.drop 4))).toArray⟩) ∧ Below w.heap.size w w') := Lib.hid (fun w => pack_Put 4 _ w (by omega) (by omega) (crcL_lt _))
  have Hs : Hid (∀ w, Calls Tryz.prog 140 #[.string ⟨(f0.drop 4).toArray⟩] w fun e w' => e = .returned (.int .u32 (crcL (f0.drop 4) : Nat)) ∧ Below w.heap.size w w') := Lib.hid (fun w => crc_SumL _ w (by simp [Hfl.out]))
  refine wp_region_quiet_tail 6 (fun w' => Chg w w' [] (blk b1 (u8s f0).toArray 92 :: [blk b0 (Array.replicate 128 (Value.int .u8 0)) 92])) (by kernel_rfl) (by kernel_rfl) hS5.drew ?_
  simp only [List.take_succ_cons, List.take_zero, List.drop_succ_cons, List.drop_zero]
  (go_big_quiet_want; go_big_quiet_op; first | go_big_quiet_on | (refine ⟨_, fun _ _ => rfl, ?_⟩; go_big_quiet_on))
  (go_big_quiet_want; go_big_quiet_op; first | go_big_quiet_on | (refine ⟨_, fun _ _ => rfl, ?_⟩; go_big_quiet_on))
  go_big_quiet_want
  refine quiet_bytesStr Tryz.underlying74 Tryz.underlying5 Tryz.underlying9 rfl rfl (f0.drop 4) (by simp [Hfl.out]) Hc.out ?_
  go_frame
  go_big_quiet_on
  go_big_quiet_want; go_big_quiet_op
  refine ⟨_, fun w' hw' => (Hs.out _).mono (fun e w'' h => ⟨h.1, hw'.bel h.2⟩), ?_⟩
  go_big_quiet_on
  (go_big_quiet_want; go_big_quiet_op; first | go_big_quiet_on | (refine ⟨_, fun _ _ => rfl, ?_⟩; go_big_quiet_on))
  go_big_quiet_want; go_big_quiet_op
  refine ⟨_, fun w' hw' => (Hp.out _).mono (fun e w'' h => ⟨h.1, hw'.bel h.2⟩), ?_⟩
  go_big_quiet_on
  refine wpQuiet_nil ?_
  intro w6 hS6
  clear hS5 Hc
  refine wl_copyStr Tryz.underlying74 rfl rfl hS6 rfl rfl (by simp [Hfl.out]) (by simp [ByteArray.size]) ?_
  intro w7 hS7
  clear hS6
  rw [lay_u8s, ← Hfin.out] at hS7
  have hR : R.size = 128 := by
    rw [Hfin.out]
    simp [over_length, Hfl.out]
  have h1 : ∀ v, v ∈ R → v.oneCell' = true := by
    rw [Hfin.out]
    exact fun v hv => u8s_one hv
  have HR := Lib.hid hR
  clear hR
  go_wp2_with (first | (refine wl_loadw_0 hS7 rfl rfl rfl HR.out ?_) | (refine wl_storew_1 hS7 rfl rfl rfl rfl HR.out h1 (by simp) ?_; intro w8 hS8))
  exact ret_row 0 hS8 rfl rfl rfl HR.out rfl ⟨rfl, hS8.below⟩

theorem frame_right_ok (kind : Nat) (s : ByteArray) (w : World) (h1 : 1 ≤ kind) (h2 : kind < 256) (hs : s.size ≤ 120) : Calls Tryz.prog 119 #[.int .i64 kind, .string s] w fun e w' => e = .returned .nilIface ∧ w = w' := by
  go_enter Tryz.func119, Tryz.ntmps119
  go_wp2
  go_ret
  exact ⟨rfl, rfl⟩
theorem frame_right_no (s : ByteArray) (w : World) : Calls Tryz.prog 119 #[.int .i64 0, .string s] w fun e w' => ∃ b, e = .returned (.iface 150 (.pointer (some ⟨b, 0, none⟩))) ∧ Below w.heap.size w w' := by
  go_enter Tryz.func119, Tryz.ntmps119
  go_wp2_with (go_at_call 47; refine (tag_Tag _ _ _).mono ?_; rintro e w' ⟨b, rfl, hc⟩)
  go_ret
  exact ⟨b, rfl, hc.below⟩
set_option maxRecDepth 20000 in
theorem frame_Lay (kind : Nat) (s : ByteArray) (w : World) (h1 : 1 ≤ kind) (hk : kind < 256) (hs : s.data.toList.length ≤ 120) :
    Calls Tryz.prog 90 #[.int .i64 kind, .string s] w fun e w' => e = .returned (.tuple #[.agg (laidP kind s.data.toList hs).enc, .nilIface]) ∧ Below w.heap.size w w' := by
  have hS0 := Chg.nil w []
  have hl : s.size ≤ 120 := hs
  have Hq : Hid (∀ w, Calls Tryz.prog 120 #[.int .i64 kind, .string s] w fun e w' => e = .returned (.agg (laidP kind s.data.toList hs).enc) ∧ Below w.heap.size w w') := Lib.hid (fun w => frame_laid kind s w hk hs)
  generalize laidP kind s.data.toList hs = p at *
  go_enter Tryz.func90, Tryz.ntmps90
  go_wp2_with (first | (guard_target = wpList _ _ _ (Oper.mk _ (Op.alloc _) _ _ _ none :: _) _ _; (refine wl_alloc_agg (dst := 4) rfl ‹Chg _ _ _ _› rfl rfl ?_); intro b0 w1 hS1) | (go_at_call 119; refine (frame_right_ok kind s _ h1 hk hl).mono ?_; rintro e w' ⟨rfl, rfl⟩) | (go_at_call 120; refine (Hq.out _).mono ?_; rintro e w2 ⟨rfl, hB⟩; have hS2 := hS1.bel hB; clear hS1 hS0) | (refine wl_storew_0 hS2 rfl rfl rfl rfl (by simp) Pg.one (by simp) ?_; intro w3 hS3))
  exact ret_row2 0 hS3 rfl rfl rfl rfl (by simp) rfl ⟨rfl, hS3.below⟩

def readOk (p : List UInt8) : Prop := beVal (p.take 4) = crcL (p.drop 4)
theorem laidL_take (kind : Nat) (data : List UInt8) (h : data.length ≤ 120) : (laidL kind data).take 4 = be 4 (crcL ((frame0 kind data).drop 4)) := by
  have := over_take (frame0 kind data) (be 4 (crcL ((frame0 kind data).drop 4))) (by simp [frame0_length kind data h])
  simpa [laidL] using this
theorem laidL_drop (kind : Nat) (data : List UInt8) (k : Nat) (hk : 4 ≤ k) : (laidL kind data).drop k = (frame0 kind data).drop k := over_drop _ _ _ (by simpa using hk)
theorem laidL_ok (kind : Nat) (data : List UInt8) (h : data.length ≤ 120) : readOk (laidL kind data) := by
  unfold readOk
  rw [laidL_take kind data h, laidL_drop kind data 4 (by omega), beVal_be4 _ (crcL_lt _)]
theorem laidL_kind (kind : Nat) (data : List UInt8) (h : data.length ≤ 120) : (laidL kind data).getD 4 0 = UInt8.ofNat kind := by
  rw [laidL, over_getD _ _ _ (by simp), frame0_kind kind data h]
theorem laidL_size (kind : Nat) (data : List UInt8) (h : data.length ≤ 120) : (laidL kind data).getD 5 0 = UInt8.ofNat data.length := by
  rw [laidL, over_getD _ _ _ (by simp), frame0_size kind data h]
theorem laidL_data (kind : Nat) (data : List UInt8) (h : data.length ≤ 120) : ((laidL kind data).drop 6).take data.length = data := by
  rw [laidL_drop kind data 6 (by omega), frame0_data kind data h]
theorem u8s_drop_take (l : List UInt8) (k n : Nat) (h : k + n ≤ l.length) : (((u8s l).toArray.toList.drop k).take (u8s ((l.drop k).take n)).length) = u8s ((l.drop k).take n) := by
  have : (u8s ((l.drop k).take n)).length = n := by simp; omega
  rw [this]
  simp [u8s, List.map_drop, List.map_take]
set_option maxRecDepth 20000 in
theorem frame_Read_sum (p : Pg) (w : World) (hp : ¬ readOk p.b) : Calls Tryz.prog 138 #[.agg p.enc] w fun e w' =>
    ∃ b, e = .returned (.tuple #[.int .i64 0, .string ⟨#[]⟩, .iface 150 (.pointer (some ⟨b, 0, none⟩))]) ∧ Chg w w' [] [errIt [b] 3 (.iface 150 (.pointer (some ⟨b, 0, none⟩)))] := by
  have hS0 := Chg.nil w []
  have Hl := Lib.hid p.len
  have hg : Hid (∀ w, Calls Tryz.prog 139 #[.string ⟨(p.b.take 4).toArray⟩, .int .i64 4] w fun e w' => e = .returned (.tuple #[.int .i64 (beVal (p.b.take 4) : Nat), .nilIface]) ∧ w = w') := Lib.hid (fun w => by
    have := pack_Get ⟨(p.b.take 4).toArray⟩ 4 w (by omega) (by omega) (by simp [ByteArray.size, p.len]) (by simp [ByteArray.size]; omega)
    simpa [List.take_take] using this)
  have hs : Hid (∀ w, Calls Tryz.prog 140 #[.string ⟨(p.b.drop 4).toArray⟩] w fun e w' => e = .returned (.int .u32 (crcL (p.b.drop 4) : Nat)) ∧ Below w.heap.size w w') := Lib.hid (fun w => crc_SumL _ w (by simp [p.len]))
  have h4 := crcL_lt (p.b.drop 4)
  have hne : (((beVal (p.b.take 4) : Nat) : Int) != ((crcL (p.b.drop 4) : Nat) : Int)) = true := by
    rw [bne_iff_ne]; intro h; exact hp (by unfold readOk; omega)
  clear hp
  have he : p.enc = (u8s p.b).toArray := rfl
  generalize p.enc = pe at *
  generalize p.b = l at *
  subst he
  have hc : ∀ w' b L, (Chg w w' [] (blk b (u8s l).toArray 92 :: L)) → CellsAt w' b 0 (u8s (l.take 4)) := fun w' b L h => cellsAt_blk h.head _ (by simpa using u8s_drop_take l 0 4 (by rw [Hl.out]; omega))
  have hc4 : ∀ w' b L, (Chg w w' [] (blk b (u8s l).toArray 92 :: L)) → CellsAt w' b 4 (u8s (l.drop 4)) := fun w' b L h => cellsAt_blk h.head _ (by
    have := u8s_drop_take l 4 124 (by rw [Hl.out]; omega)
    rwa [List.take_of_length_le (l := l.drop 4) (by simp [Hl.out])] at this)
  have Hc := Lib.hid hc
  have Hc4 := Lib.hid hc4
  clear hc hc4
  go_enter Tryz.func138, Tryz.ntmps138
  go_wp2_with (first | (guard_target = wpList _ _ _ (Oper.mk _ (Op.box _ _) _ _ _ none :: _) _ _; (first | refine wl_box_agg (dst := 1) rfl ‹Chg _ _ _ _› rfl rfl rfl ?_ | refine wl_box_int (dst := 1) rfl ‹Chg _ _ _ _› rfl rfl rfl ?_ | refine wl_box_str (dst := 1) rfl ‹Chg _ _ _ _› rfl rfl rfl ?_ | refine wl_box_slice (dst := 1) rfl ‹Chg _ _ _ _› rfl rfl rfl ?_ | refine wl_box_ptr (dst := 1) rfl ‹Chg _ _ _ _› rfl rfl rfl ?_); intro b1 w1 hS1) | (refine wl_bytesStr Tryz.underlying74 Tryz.underlying5 Tryz.underlying9 rfl rfl rfl (l.take 4) (by simp [Hl.out]) (Hc.out _ _ _ hS1) ?_) | (go_at_call 139; refine (hg.out _).mono ?_; rintro e w' ⟨rfl, rfl⟩) | (refine wl_bytesStr Tryz.underlying74 Tryz.underlying5 Tryz.underlying9 rfl rfl rfl (l.drop 4) (by simp [Hl.out]) (Hc4.out _ _ _ hS1) ?_) | (go_at_call 140; refine (hs.out _).mono ?_; rintro e w2 ⟨rfl, hB⟩; have hS2 := hS1.bel hB) | (go_at_call 47; refine (tag_Tag _ _ _).mono ?_; rintro e w3 ⟨b, rfl, hE⟩; have hS3 := hS2.pure hE))
  go_ret3
  exact ⟨b, rfl, hS3.sub (by simp)⟩

set_option maxRecDepth 20000 in
theorem frame_Read_ok (kind : Nat) (s : ByteArray) (w : World) (h1 : 1 ≤ kind) (hk : kind < 256) (hs : s.data.toList.length ≤ 120) : Calls Tryz.prog 138 #[.agg (laidP kind s.data.toList hs).enc] w fun e w' =>
    e = .returned (.tuple #[.int .i64 kind, .string s, .nilIface]) ∧ Below w.heap.size w w' := by
  have hS0 := Chg.nil w []
  have hl : s.size ≤ 120 := hs
  have hll : s.data.toList.length = s.size := rfl
  have hok := laidL_ok kind s.data.toList hs
  have Hl := Lib.hid (laidL_length kind s.data.toList hs)
  have Hk := Lib.hid (laidL_kind kind s.data.toList hs)
  have Hz := Lib.hid (laidL_size kind s.data.toList hs)
  have Hd := Lib.hid (laidL_data kind s.data.toList hs)
  have hq : Hid (∀ w, Calls Tryz.prog 120 #[.int .i64 kind, .string s] w fun e w' => e = .returned (.agg (u8s (laidL kind s.data.toList)).toArray) ∧ Below w.heap.size w w') := Lib.hid (fun w => frame_laid kind s w hk hs)
  have hsd : s = ⟨s.data.toList.toArray⟩ := by simp
  have he : (laidP kind s.data.toList hs).enc = (u8s (laidL kind s.data.toList)).toArray := rfl
  rw [he]
  generalize laidL kind s.data.toList = l at *
  have hg : Hid (∀ w, Calls Tryz.prog 139 #[.string ⟨(l.take 4).toArray⟩, .int .i64 4] w fun e w' => e = .returned (.tuple #[.int .i64 (beVal (l.take 4) : Nat), .nilIface]) ∧ w = w') := Lib.hid (fun w => by
    have := pack_Get ⟨(l.take 4).toArray⟩ 4 w (by omega) (by omega) (by simp [ByteArray.size, Hl.out]) (by simp [ByteArray.size]; omega)
    simpa [List.take_take] using this)
  have hs' : Hid (∀ w, Calls Tryz.prog 140 #[.string ⟨(l.drop 4).toArray⟩] w fun e w' => e = .returned (.int .u32 (crcL (l.drop 4) : Nat)) ∧ Below w.heap.size w w') := Lib.hid (fun w => crc_SumL _ w (by simp [Hl.out]))
  have h4 := crcL_lt (l.drop 4)
  have hne : (((beVal (l.take 4) : Nat) : Int) != ((crcL (l.drop 4) : Nat) : Int)) = false := by
    rw [bne_eq_false_iff_eq]; unfold readOk at hok; omega
  have hc : ∀ w' b L, (Chg w w' [] (blk b (u8s l).toArray 92 :: L)) → CellsAt w' b 0 (u8s (l.take 4)) := fun w' b L h => cellsAt_blk h.head _ (by simpa using u8s_drop_take l 0 4 (by rw [Hl.out]; omega))
  have hc4 : ∀ w' b L, (Chg w w' [] (blk b (u8s l).toArray 92 :: L)) → CellsAt w' b 4 (u8s (l.drop 4)) := fun w' b L h => cellsAt_blk h.head _ (by
    have := u8s_drop_take l 4 124 (by rw [Hl.out]; omega)
    rwa [List.take_of_length_le (l := l.drop 4) (by simp [Hl.out])] at this)
  have hc6 : ∀ w' b L, (Chg w w' [] (blk b (u8s l).toArray 92 :: L)) → CellsAt w' b 6 (u8s s.data.toList) := fun w' b L h => cellsAt_blk h.head _ (by
    have := u8s_drop_take l 6 s.data.toList.length (by rw [Hl.out]; omega)
    rwa [Hd.out] at this)
  have hk4 : (u8s l).toArray[4]? = some (.int .u8 (kind : Int)) := by
    rw [u8s_getD l 4 (by rw [Hl.out]; omega), Hk.out]; simp; omega
  have hk5 : (u8s l).toArray[5]? = some (.int .u8 (s.size : Int)) := by
    rw [u8s_getD l 5 (by rw [Hl.out]; omega), Hz.out, hll]; simp; omega
  have Hc := Lib.hid hc
  have Hc4 := Lib.hid hc4
  have Hc6 := Lib.hid hc6
  have Hk4 := Lib.hid hk4
  have Hk5 := Lib.hid hk5
  have Hsd := Lib.hid hsd
  have Hll := Lib.hid hll
  clear hc hc4 hc6 hok hk4 hk5 hsd hll Hk Hz Hd he
  go_enter Tryz.func138, Tryz.ntmps138
  go_wp2_with (first | (guard_target = wpList _ _ _ (Oper.mk _ (Op.box _ _) _ _ _ none :: _) _ _; (first | refine wl_box_agg (dst := 1) rfl ‹Chg _ _ _ _› rfl rfl rfl ?_ | refine wl_box_int (dst := 1) rfl ‹Chg _ _ _ _› rfl rfl rfl ?_ | refine wl_box_str (dst := 1) rfl ‹Chg _ _ _ _› rfl rfl rfl ?_ | refine wl_box_slice (dst := 1) rfl ‹Chg _ _ _ _› rfl rfl rfl ?_ | refine wl_box_ptr (dst := 1) rfl ‹Chg _ _ _ _› rfl rfl rfl ?_); intro b1 w1 hS1) | (refine wl_bytesStr Tryz.underlying74 Tryz.underlying5 Tryz.underlying9 rfl rfl rfl (l.take 4) (by simp [Hl.out]) (Hc.out _ _ _ hS1) ?_) | (go_at_call 139; refine (hg.out _).mono ?_; rintro e w' ⟨rfl, rfl⟩) | (refine wl_bytesStr Tryz.underlying74 Tryz.underlying5 Tryz.underlying9 rfl rfl rfl (l.drop 4) (by simp [Hl.out]) (Hc4.out _ _ _ hS1) ?_) | (go_at_call 140; refine (hs'.out _).mono ?_; rintro e w2 ⟨rfl, hB⟩; have hS2 := hS1.bel hB; clear hS1 hS0 hB) | (refine wl_load1_0 hS2 rfl rfl rfl Hk5.out ?_))
  have hsl := fun w => run_sliceAt (P := Tryz.prog) Tryz.underlying92 b1 6 (6 + s.size) 6 (6 + (s.size : Int)) (by omega) (by omega) (by omega) (by omega) (by omega) w
  simp only [Nat.add_sub_cancel_left] at hsl
  refine wp_region_quiet_C (fun w' => Chg w w' [] [blk b1 (u8s l).toArray 92]) (by kernel_rfl) (by kernel_rfl) hS2.drew ?_
  (go_big_quiet_want; go_big_quiet_op; first | go_big_quiet_on | (refine ⟨_, fun _ _ => rfl, ?_⟩; go_big_quiet_on))
  go_big_quiet_want
  refine quiet_load1 rfl rfl (fun w' hw' => (blk_cell hw'.head _).trans Hk4.out) ?_
  go_frame
  go_big_quiet_on
  (go_big_quiet_want; go_big_quiet_op; first | go_big_quiet_on | (refine ⟨_, fun _ _ => rfl, ?_⟩; go_big_quiet_on))
  (go_big_quiet_want; go_big_quiet_op; first | go_big_quiet_on | (refine ⟨_, fun _ _ => rfl, ?_⟩; go_big_quiet_on))
  (go_big_quiet_want; go_big_quiet_op; first | go_big_quiet_on | (refine ⟨_, fun _ _ => rfl, ?_⟩; go_big_quiet_on))
  (go_big_quiet_want; go_big_quiet_op; first | go_big_quiet_on | (refine ⟨_, fun _ _ => rfl, ?_⟩; go_big_quiet_on))
  go_big_quiet_want
  refine quiet_bytesStr' Tryz.underlying74 Tryz.underlying5 Tryz.underlying9 rfl rfl s rfl (fun w' hw' => Hc6.out w' b1 _ hw') ?_
  go_frame
  go_big_quiet_on
  (go_big_quiet_want; go_big_quiet_op; first | go_big_quiet_on | (refine ⟨_, fun _ _ => rfl, ?_⟩; go_big_quiet_on))
  (go_big_quiet_want; go_big_quiet_op; first | go_big_quiet_on | (refine ⟨_, fun _ _ => rfl, ?_⟩; go_big_quiet_on))
  refine wpQuiet_nil ?_
  intro w3 hS3
  clear hS2
  go_wp2_with fail
  refine wp_region_quiet_C (fun w' => Chg w w' [] [blk b1 (u8s l).toArray 92]) (by kernel_rfl) (by kernel_rfl) hS3.drew ?_
  (go_big_quiet_want; go_big_quiet_op; first | go_big_quiet_on | (refine ⟨_, fun _ _ => rfl, ?_⟩; go_big_quiet_on))
  (go_big_quiet_want; go_big_quiet_op; first | go_big_quiet_on | (refine ⟨_, fun _ _ => rfl, ?_⟩; go_big_quiet_on))
  go_big_quiet_want; go_big_quiet_op
  refine ⟨_, fun w' hw' => (frame_right_ok kind s _ h1 hk hl).mono (fun e w'' h => ⟨h.1, by rw [← h.2]; exact hw'⟩), ?_⟩
  go_big_quiet_on
  repeat (first | go_big_quiet_skip | (go_big_quiet_want; go_big_quiet_op; first | go_big_quiet_on | (refine ⟨_, fun _ _ => rfl, ?_⟩; go_big_quiet_on)))
  go_big_quiet_want; go_big_quiet_op
  refine ⟨_, fun w' hw' => (hq.out _).mono (fun e w'' h => ⟨h.1, hw'.bel h.2⟩), ?_⟩
  go_big_quiet_on
  go_big_quiet_want
  refine quiet_loadw rfl rfl (fun w' hw' => hw'.head) (by simp [Hl.out]) ?_
  go_frame
  go_big_quiet_on
  go_big_quiet_want
  refine quiet_neq_bytes Tryz.underlying92 Tryz.underlying5 (by kernel_rfl) rfl rfl rfl Hl.out Hl.out ?_
  have hll : (l != l) = false := by simp
  rw [hll]
  go_frame
  go_big_quiet_on
  (go_big_quiet_want; go_big_quiet_op; first | go_big_quiet_on | (refine ⟨_, fun _ _ => rfl, ?_⟩; go_big_quiet_on))
  refine wpQuiet_nil ?_
  intro w4 hS4
  clear hS3
  go_wp2
  go_ret3
  exact ⟨rfl, hS4.below⟩
end Go.Dyn
namespace Go.Dyn
open Go Go.RowKit Go.Proofs
set_option maxHeartbeats 400000
set_option maxRecDepth 20000 in
theorem frame_Load_ok {d bf : Nat} {A : Option Addr} {c : Nat} {D : Disk} {w : World} (hO : Own w (diskL d bf A c D)) (hd : D.down = false) (i : Nat) (hi : i < D.firm.length) (hn : D.firm.length ≤ 1000) (hk : D.loose.length ≤ 1000000)
    (kind : Nat) (s : ByteArray) (h1 : 1 ≤ kind) (hkk : kind < 256) (hs : s.data.toList.length ≤ 120) (hr : D.read i = laidP kind s.data.toList hs) :
    Calls Tryz.prog 112 #[ptr d, .int .i64 i, .int .i64 kind] w fun e w' => e = .returned (.tuple #[.string s, .nilIface]) ∧ Below w.heap.size w w' := by
  have hS0 := Chg.nil w []
  have Hread := Lib.hid (disk_Read hO hd i hi hn hk)
  have Hr := Lib.hid (fun w => frame_Read_ok kind s w h1 hkk hs)
  rw [hr] at Hread
  clear hr
  generalize (laidP kind s.data.toList hs) = p at *
  go_enter Tryz.func112, Tryz.ntmps112
  go_wp2_with (first | (go_at_call 45; refine Hread.out.mono ?_; rintro e w1 ⟨rfl, hB⟩; have hS1 := hS0.bel hB; clear hS0) | (guard_target = wpList _ _ _ (Oper.mk _ (Op.alloc _) _ _ _ none :: _) _ _; (refine wl_alloc_agg (dst := 8) rfl ‹Chg _ _ _ _› rfl rfl ?_); intro b8 w2 hS2) | (refine wl_storew_0 hS2 rfl rfl rfl rfl (by simp) Pg.one (by simp) ?_; intro w3 hS3) | (refine wl_loadw_0 hS3 rfl rfl rfl (by simp) ?_) | (go_at_call 138; refine (Hr.out _).mono ?_; rintro e w4 ⟨rfl, hB4⟩; have hS4 := hS3.bel hB4))
  go_ret2
  exact ⟨rfl, hS4.below⟩
set_option maxRecDepth 20000 in
theorem frame_Load_sum {d bf : Nat} {A : Option Addr} {c : Nat} {D : Disk} {w : World} (hO : Own w (diskL d bf A c D)) (hd : D.down = false) (i : Nat) (hi : i < D.firm.length) (hn : D.firm.length ≤ 1000) (hk : D.loose.length ≤ 1000000)
    (kind : Int) (hr : ¬ readOk (D.read i).b) :
    Calls Tryz.prog 112 #[ptr d, .int .i64 i, .int .i64 kind] w fun e w' => ∃ b, e = .returned (.tuple #[.string ⟨#[]⟩, .iface 150 (ptr b)]) ∧ Chg w w' [] [errIt [b] 3 (.iface 150 (ptr b))] := by
  have hS0 := Chg.nil w []
  have Hread := Lib.hid (disk_Read hO hd i hi hn hk)
  have Hr := Lib.hid (fun w => frame_Read_sum (D.read i) w hr)
  clear hr
  generalize D.read i = p at *
  go_enter Tryz.func112, Tryz.ntmps112
  go_wp2_with (first | (go_at_call 45; refine Hread.out.mono ?_; rintro e w1 ⟨rfl, hB⟩; have hS1 := hS0.bel hB; clear hS0) | (guard_target = wpList _ _ _ (Oper.mk _ (Op.alloc _) _ _ _ none :: _) _ _; (refine wl_alloc_agg (dst := 8) rfl ‹Chg _ _ _ _› rfl rfl ?_); intro b8 w2 hS2) | (refine wl_storew_0 hS2 rfl rfl rfl rfl (by simp) Pg.one (by simp) ?_; intro w3 hS3) | (refine wl_loadw_0 hS3 rfl rfl rfl (by simp) ?_) | (go_at_call 138; refine (Hr.out _).mono ?_; rintro e w4 ⟨b, rfl, hB4⟩; have hS4 := hS3.pure hB4))
  go_ret2
  exact ⟨b, rfl, hS4.arr [0] rfl⟩
set_option maxRecDepth 20000 in
theorem frame_Store {d bf : Nat} {A : Option Addr} {c : Nat} {D : Disk} {w : World} (hO : Own w (diskL d bf A c D)) (hd : D.down = false) (i : Nat) (hi : i < D.firm.length) (hn : D.firm.length ≤ 1000) (hk : D.loose.length ≤ 1000000)
    (kind : Nat) (s : ByteArray) (h1 : 1 ≤ kind) (hkk : kind < 256) (hs : s.data.toList.length ≤ 120) :
    Calls Tryz.prog 58 #[ptr d, .int .i64 i, .int .i64 kind, .string s] w fun e w' => ∃ A' c', e = .returned .nilIface ∧ Chg w w' (ids (diskL d bf A c D)) (diskL d bf A' c' (D.write i (laidP kind s.data.toList hs))) := by
  have hS0 := hO.start
  have Hl := Lib.hid (fun w => frame_Lay kind s w h1 hkk hs)
  have Hw := Lib.hid (fun (w : World) (hO : Own w (diskL d bf A c D)) => disk_Write hO hd i (laidP kind s.data.toList hs) hi hn hk)
  clear hO
  generalize (laidP kind s.data.toList hs) = p at *
  generalize diskL d bf A c D = L0 at *
  generalize hF : ids L0 = F at *
  have HF := Lib.hid hF
  clear hF
  go_enter Tryz.func58, Tryz.ntmps58
  go_wp2_with (first | (go_at_call 90; refine (Hl.out _).mono ?_; rintro e w1 ⟨rfl, hB⟩; have hS1 := hS0.bel hB; clear hS0) | (guard_target = wpList _ _ _ (Oper.mk _ (Op.alloc _) _ _ _ none :: _) _ _; (refine wl_alloc_agg (dst := 9) rfl ‹Chg _ _ _ _› rfl rfl ?_); intro b9 w2 hS2) | (refine wl_storew_0 hS2 rfl rfl rfl rfl (by simp) Pg.one (by simp) ?_; intro w3 hS3) | (refine wl_loadw_0 hS3 rfl rfl rfl (by simp) ?_) | (go_at_call 46; refine (Hw.out _ hS3.tail.ownL).mono ?_; rintro e w4 ⟨A', c', rfl, hB4⟩))
  go_ret
  exact ⟨A', c', rfl, hS3.tail.after (by rw [HF.out]; exact hB4)⟩
end Go.Dyn
