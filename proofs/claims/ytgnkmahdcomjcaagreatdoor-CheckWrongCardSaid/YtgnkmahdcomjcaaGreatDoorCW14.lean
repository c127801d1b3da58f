/- Part of the proof that CheckWrong returns true, whatever the four bytes; tied to the program's own text (part 14 of 14) -/
import Derived.Test.YtgnkmahdcomjcaaGreatDoorCW13
import Derived.Test.YtgnkmahdcomjcaaGreatDoorRows
import Derived.Test.YtgnkmahdcomjcaaGreatDoorTie
import Derived.Test.YtgnkmahdcomjcaaGreatDoorCards
import Derived.ChangeSame
import Derived.ChangeVars
import Derived.Carry
import Derived.JoinedOf
import Derived.RowKit
import Derived.RowKitTokens
import Derived.LaidLaws
import Derived.LaidHandle
import Derived.Stop.Joined
import Derived.SevenTiedAt
set_option linter.unusedVariables false
set_option linter.unusedSimpArgs false
namespace Go.Dyn
open Go Go.RowKit
set_option maxRecDepth 20000
section
variable {P : Program} {w0 w : World} {F : List Nat} {L : List It} {ops : Array Oper} {Q : Exit → Act → World → Prop} {rest : List Oper} {o : Oper} {a : Act}
theorem wl_buildSlice2 {t e bytes : Nat} [se : SlElem P t e 1 bytes] {x y : Operand} (hS : Chg w0 w F L) (hgd : o.guard = none) (ho : o.op = .buildSlice t 2 #[(0, x), (1, y)]) {u v : Value} (hx : a.eval x = u) (hy : a.eval y = v) (hu : u.cells = #[u]) (hv : v.cells = #[v])
    (h : ∀ b w', Chg w0 w' F (blk b #[u, v] e :: L) → wpList P ops Q rest (a.put o.dst (.slice (some ⟨b, 0, none⟩) 2 2)) w') : wpList P ops Q (o :: rest) a w :=
  wpList_plain hgd fun K hK => by
    obtain ⟨i0, z, h2, h3, h4, h5, h6⟩ := se.info
    have hfill : ∀ (zs : Array Value), zs.size = 2 → Instr.fill (fun i => some (i * 1, 1)) zs [(0, u), (1, v)] = some #[u, v] := by
      intro zs hzs
      rw [fill_cons (off := 0) (size := 1) rfl (by rw [hu]; rfl) (by omega), fill_cons (off := 1) (size := 1) rfl (by rw [hv]; rfl) (by rw [size_lay _ _ _ (by rw [hu]; simp; omega)]; omega)]
      simp only [Instr.fill, hu, hv]
      congr 1
      apply Array.ext'
      obtain ⟨l⟩ := zs
      match l, hzs with
      | [p, q], _ => rfl
    unfold Oper.wp execOp
    have hzv : ∀ w, (zeroValue e).run P w = .ok z w := fun w => by simp [zeroValue, typeInfo, h2, h3]
    have hso : ∀ w, (sizeOf e).run P w = .ok 1 w := fun w => by simp [sizeOf, typeInfo, h2, h4]
    simp only [ho, Instr.buildSlice, List.map_toArray, List.map_cons, List.map_nil, hx, hy, Sem.run_bind, Sem.run_pure, Result.andThen_ok, run_underlying se.und, hso, Nat.mul_one]
    rw [if_neg (by omega), if_neg (by omega)]
    simp only [Sem.run_bind, hzv, Sem.run_pure, Result.andThen_ok]
    rw [show (fun i : Nat => some (i, 1)) = (fun i => some (i * 1, 1)) by funext i; rw [Nat.mul_one]]
    rw [hfill _ (by simp)]
    simp only [newRow, newObj, Sem.run_bind, Sem.run, Result.andThen_ok, Sem.run_pure]
    exact hK _ _ (h _ _ (hS.alloc _ _))
end
end Go.Dyn
namespace Go.Dyn
open Go Go.RowKit Go.Proofs
set_option maxRecDepth 20000
set_option maxHeartbeats 2000000
theorem Chg.dropE {w0 w : World} {F : List Nat} {E L : List It} (h : Chg w0 w F (E ++ L)) : Chg w0 w F L := h.sub (List.sublist_append_right _ _)
structure Lin (X : Pgr) (k i : Nat) : Prop where
  ok : X.ok k
  firm : X.D.firm.length = 30
  busy : ∀ j, X.busy.has j = decide (2 ≤ j ∧ j < i)
  used : ∀ j, X.used.has j = decide (2 ≤ j ∧ j < i)
  two : 2 ≤ i
theorem Lin.start : Lin (X0 30) 0 2 := by
  refine ⟨X0_ok (by omega) (by omega), X0_firm 30, fun j => ?_, fun j => ?_, Nat.le_refl _⟩
  · rw [X0_busy]; symm; rw [decide_eq_false_iff_not]; omega
  · rw [Pgr.used_has, X0_busy]; symm; rw [Bool.false_and, decide_eq_false_iff_not]; omega
theorem Lin.free {X : Pgr} {k i : Nat} (h : Lin X k i) (hi : i < 30) : X.free = some i :=
  free_eq h.two (by rw [h.firm]; exact hi) (by rw [h.busy]; simp) (fun j h1 h2 => by rw [h.busy]; simp; omega)
theorem Lin.next {X : Pgr} {k i : Nat} (h : Lin X k i) (hi : i < 30) (p : Pg) : Lin (X.new i p) (k + 1) (i + 1) := by
  have hf := h.free hi
  have h2 := h.two
  refine ⟨Pgr.new_ok h.ok p hf, h.firm, fun j => ?_, fun j => ?_, by omega⟩
  · rw [Pgr.new_busy p (by omega), h.busy, Bool.eq_iff_iff]; simp; omega
  · rw [Pgr.new_used h.ok p hf, h.used, Bool.eq_iff_iff]; simp; omega
/-- What is known of a pager with pages 2 to i. -/
structure LinT (X : Pgr) (k i : Nat) (T : Nat → Option Nd) : Prop where
  lin : Lin X k i
  view : View X T
theorem LinT.next {X : Pgr} {k i : Nat} {T : Nat → Option Nd} (h : LinT X k i T) (hi : i < 30) {n : Nd} (hn : n.right) : LinT (X.new i (ndP n hn)) (k + 1) (i + 1) (fun j => if j = i then some n else T j) :=
  ⟨h.lin.next hi _, View.new h.lin.ok h.view hn (h.lin.free hi)⟩
theorem LinT.start : LinT (X0 30) 0 2 (fun _ => none) := ⟨Lin.start, X0_view 30⟩
theorem CW_1 (a b c how x y m : Nat) (hx : (a : Int) % 50 = (x : Int)) (hy : 100 + (b : Int) % 50 = (y : Int)) (hm : 3 + (c : Int) % 5 = (m : Int)) (ha : a < 256) (hb : b < 256) (hc : c < 256) (hh : how < 256) (hq : (how : Int) % 5 = 1) (w : World) (hg : GV w) :
    Calls Tryz.prog 3 #[.int .u8 (a : Int), .int .u8 (b : Int), .int .u8 (c : Int), .int .u8 (how : Int)] w fun e w' => e = .returned (.bool true) ∧ Below w.heap.size w w' := by
  have hx2 : x < 50 := by omega
  have hy2 : 100 ≤ y ∧ y < 150 := by omega
  have hm2 : 3 ≤ m ∧ m ≤ 7 := by omega
  have HN := Lib.hid (fun w => law_New 30 w (by omega) (by omega)); have HF := Lib.hid (fun (w : World) (d bf) (hO : Own w (diskL d bf none 0 (Disk.new 30))) => law_Format hO (by omega) (by omega)); have HE := Lib.hid (fun w => tag_Num_nil w); have hA : (leafN x m).right := leafN_right (by omega) (by omega); have hB : (leafN y 3).right := leafN_right (by omega) (by omega)
  have L0 := LinT.start; have L1 := L0.next (by omega) hA; have L2 := L1.next (by omega) hB; have HA := Lib.hid (fun (w : World) (d bf p b11 A c) (hO : Own w (blk b11 #[ptr p] 28 :: pagerL p d bf A c (X0 30))) => law_leaf hO (L0.lin.ok.fit (by omega)) x m 2 hA (by omega) (by omega) (L0.lin.free (by omega))); have HB := Lib.hid (fun (w : World) (d bf p b11 A c) (hO : Own w (blk b11 #[ptr p] 28 :: pagerL p d bf A c ((X0 30).new 2 (ndP _ hA)))) => law_leaf hO (L1.lin.ok.fit (by omega)) y 3 3 hB (by omega) (by omega) (L1.lin.free (by omega)))
  obtain ⟨key, hkey⟩ : ∃ key, key = y + 1 := ⟨_, rfl⟩
  have hR : (node2 key 2 3).right := node2_right (by omega) (by omega) (by omega) (by omega)
  have hkey' : (y : Int) + 1 = (key : Int) := by omega
  generalize ((X0 30).new 2 (ndP _ hA)).new 3 (ndP _ hB) = XB at *
  have HLay := Lib.hid (fun (w : World) (xs zs : Sl) (hn : NdR w xs ⟨none, 0⟩ zs (node2 key 2 3)) => node_Lay hn hR); have HNw : Hid (∀ (w : World) (d bf p A c) (hO : Own w (pagerL p d bf A c XB)), Calls Tryz.prog 16 #[ptr p, strL (node2 key 2 3).bytes] w fun e w' => ∃ A' c', e = .returned (.tuple #[.int .i64 (4 : Int), .nilIface]) ∧ Chg w w' (ids (pagerL p d bf A c XB)) (pagerL p d bf A' c' (XB.new 4 (ndP _ hR)))) := Lib.hid (fun w d bf p A c hO => pager_New hO L2.lin.ok.up L2.lin.ok.low L2.lin.ok.high (by have := L2.lin.ok.loose; omega) ⟨(node2 key 2 3).bytes.toArray⟩ (Nd.bytes_length hR) 4 (L2.lin.free (by omega))); have LR := L2.next (by omega) hR
  obtain ⟨T, LT, hT4, hT3, hT2⟩ : ∃ T, LinT (XB.new 4 (ndP _ hR)) 3 5 T ∧ T 4 = some (node2 key 2 3) ∧ T 3 = some (leafN y 3) ∧ T 2 = some (leafN x m) := ⟨_, LR, by simp, by simp, by simp⟩
  have hcode : (looked T (XB.new 4 (ndP _ hR)).used.has 4).1 = 2 := look2_second (by omega) hT4 (by rw [LR.lin.used]; simp) (by omega) (f1 := x) (m1 := m) hT2 (by rw [LR.lin.used]; simp) (by omega) (by omega) (by omega) (by omega) (lookP_leaf_bad (f := y) (m := 3) hT3 (by rw [LR.lin.used]; simp) (by simp) (by omega) (by omega))
  have HSnd := Lib.hid (fun (w : World) (d bf p A c) (hO : Own w (pagerL p d bf A c _)) => check_Sound (root := 4) hO (LT.lin.ok.fit (by omega)) LT.view); have HPgs := Lib.hid (fun (w : World) (d bf p A c) (hO : Own w (pagerL p d bf A c _)) => check_Pages (root := 4) hO (LT.lin.ok.fit (by omega)) LT.view); have HDep := Lib.hid (fun (w : World) (d bf p A c) (hO : Own w (pagerL p d bf A c _)) => check_Depth (root := 4) hO (LT.lin.ok.fit (by omega)) LT.view); unfold pagesN at HPgs; rw [hcode] at HSnd HPgs HDep; clear hcode; have HNum : Hid (∀ (L : List It) (be : Nat) (w' : World), Chg w w' [] L → errIt [be] (2 : Int) (.iface 150 (ptr be)) ∈ L → Calls Tryz.prog 17 #[errV 2 be] w' fun e w2 => e = .returned (.int .i64 2) ∧ Below w'.heap.size w' w2) := Lib.hid (fun L be w' hS hm => tag_Num_err (.inr (hg.keep hS)) (fun it hi => by rw [List.mem_singleton.1 (show it ∈ [errIt [be] (2 : Int) (.iface 150 (ptr be))] from hi)]; exact hS.all _ hm)); have HNum9 : Hid (∀ (L : List It) (be : Nat) (w' : World), Chg w w' [] L → errIt [be] (9 : Int) (.iface 150 (ptr be)) ∈ L → Calls Tryz.prog 17 #[errV 9 be] w' fun e w2 => e = .returned (.int .i64 9) ∧ Below w'.heap.size w' w2) := Lib.hid (fun L be w' hS hm => tag_Num_err (.inr (hg.keep hS)) (fun it hi => by rw [List.mem_singleton.1 (show it ∈ [errIt [be] (9 : Int) (.iface 150 (ptr be))] from hi)]; exact hS.all _ hm)); have HEL : Hid (∀ (be : Nat) (L : List It), errL 2 be ++ L = errIt [be] (2 : Int) (.iface 150 (ptr be)) :: L) := Lib.hid (fun _ _ => rfl); have HEL9 : Hid (∀ (be : Nat) (L : List It), errL 9 be ++ L = errIt [be] (9 : Int) (.iface 150 (ptr be)) :: L) := Lib.hid (fun _ _ => rfl)
  clear hT4 hT3 hT2 LT L0 L1 L2 LR
  generalize XB.new 4 (ndP _ hR) = XR at *
  generalize (X0 30).new 2 (ndP _ hA) = XA at *
  generalize X0 30 = X00 at *
  generalize Disk.new 30 = D0 at *
  generalize strL (node2 key 2 3).bytes = bts at *
  clear hA hB hR
  clear hkey
  go_enter Tryz.func3, Tryz.ntmps3
  go_wp2_with (first | (go_at_call 11; refine (awake11 _).mono ?_; rintro e w0 ⟨rfl, hB0⟩; have hS0 := (Chg.nil w []).bel hB0) | (go_at_call 12; refine (HN.out _).mono ?_; rintro e w1 ⟨d, bf, rfl, hB1⟩; have hS1 := hS0.pure hB1; clear hS0) | (go_at_call 13; refine (HF.out _ _ _ (Chg.ownL (by rwa [List.append_nil] at hS1))).mono ?_; rintro e w2 ⟨p, rfl, hB2⟩; rw [List.append_nil] at hS1; have hS2 := hS1.after hB2; clear hS1 hB2) | (guard_target = wpList _ _ _ (Oper.mk _ (Op.alloc 28) _ _ _ none :: _) _ _; refine wl_alloc_one rfl rfl hS2 rfl rfl ?_; intro b11 w3 hS3; clear hS2) | (guard_target = wpList _ _ _ (Oper.mk _ (Op.store 28 _ _) _ _ _ none :: _) _ _; refine wl_store1_0 (v := ptr p) hS3 rfl rfl rfl rfl rfl (by simp) ?_; intro w4 hS4; clear hS3) | (go_at_call 14; first | (refine (HA.out _ _ _ _ _ _ _ hS4.ownL).mono ?_; rintro e w5 ⟨A5, c5, rfl, hB5⟩; have hS5 := hS4.after1 hB5; clear hS4 hB5) | (refine (HB.out _ _ _ _ _ _ _ hS5.ownL).mono ?_; rintro e w6 ⟨A6, c6, rfl, hB6⟩; have hS6 := hS5.after1 hB6; clear hS5 hB6)) | (guard_target = wpList _ _ _ (Oper.mk _ (Op.buildSlice _ _ _) _ _ _ none :: _) _ _; first | (refine wl_buildSlice2 (u := .int .i64 2) (v := .int .i64 3) hS6 rfl rfl rfl rfl rfl rfl ?_; intro bk w7 hS7; clear hS6) | (refine wl_buildSlice1 (v := .int .i64 (key : Int)) (cs := #[.int .i64 (key : Int)]) ‹Chg w _ [] _› rfl rfl rfl rfl rfl ?_; intro b81 w8 hS8; (try clear hS7); (try clear hS71))) | (guard_target = wpList _ _ _ (Oper.mk _ (Op.build _ _) _ _ _ none :: _) _ _; refine wl_build2 (cells := ndV ⟨some ⟨b81, 0, none⟩, 1⟩ ⟨none, 0⟩ ⟨some ⟨bk, 0, none⟩, 2⟩ (node2 key 2 3)) rfl rfl rfl rfl rfl ?_) | (go_at_call 15; refine (HLay.out _ _ _ ⟨.inr ⟨b81, 0, rfl, cellsAt_blk (hS8.get 0 rfl) _ rfl⟩, .inl rfl, .inr ⟨bk, 0, rfl, cellsAt_blk (hS8.get 1 rfl) _ rfl⟩⟩).mono ?_; rintro e w9 ⟨rfl, hB9⟩; have hS9 := hS8.bel hB9; clear hS8) | ((first | (guard_target = wpList _ _ _ (Oper.mk _ (Op.load 28 _) _ _ _ none :: _) _ _) | (guard_target = wpList _ _ _ (Oper.mk _ (Op.load 28 _) _ _ _ (some _) :: _) _ _; (fail_if_success (fail_if_success go_big_want)); refine wl_unguard rfl ?_)); first | refine wl_load1_2 hS9 rfl rfl rfl rfl ?_ | refine wl_load1_2 hSa rfl rfl rfl rfl ?_ | refine wl_load1_3 hSb rfl rfl rfl rfl ?_ | refine wl_load1_4 hSc rfl rfl rfl rfl ?_) | (go_at_call 16; refine (HNw.out _ _ _ _ _ _ hS9.tail.tail.tail.ownL).mono ?_; rintro e w10 ⟨A, c, rfl, hB10⟩; have hSa := hS9.after3 hB10; clear hS9 hB10) | (go_at_call 18; first | (refine (HSnd.out _ _ _ _ _ _ hSa.tail.tail.tail.ownL).mono ?_; rintro e w11 ⟨be1, rfl, hB11⟩; have hSb := hSa.pure hB11; rw [HEL.out] at hSb; clear hSa hB11) | (have hz := hSd; clear hz; refine (Sound_nil 5 (by omega) _).mono ?_; rintro e w14 ⟨be4, rfl, hB14⟩; have hSe := hSd.pure hB14; rw [HEL9.out] at hSe; clear hSd hB14)) | (go_at_call 19; refine (HPgs.out _ _ _ _ _ _ hSb.tail.tail.tail.tail.ownL).mono ?_; rintro e w12 ⟨Bp, cp, be2, rfl, hB12⟩; have hSc := hSb.pure hB12; rw [HEL.out] at hSc; clear hSb hB12) | (go_at_call 20; refine (HDep.out _ _ _ _ _ _ hSc.tail.tail.tail.tail.tail.ownL).mono ?_; rintro e w13 ⟨be3, rfl, hB13⟩; have hSd := hSc.pure hB13; rw [HEL.out] at hSd; clear hSc hB13) | (go_at_call 17; first | (have hz := hSa; clear hz; refine (HE.out _).mono ?_; rintro e w' ⟨rfl, rfl⟩) | (refine (HNum.out _ _ _ hSd (by first | exact .head _ | exact .tail _ (.head _) | exact .tail _ (.tail _ (.head _)) | exact .tail _ (.tail _ (.tail _ (.head _))))).mono ?_; rintro e w' ⟨rfl, hB⟩; replace hSd := hSd.bel hB; clear hB) | (refine (HNum9.out _ _ _ hSe (by first | exact .head _ | exact .tail _ (.head _) | exact .tail _ (.tail _ (.head _)) | exact .tail _ (.tail _ (.tail _ (.head _))))).mono ?_; rintro e w' ⟨rfl, hB⟩; replace hSe := hSe.bel hB; clear hB)))
  go_ret
  exact ⟨rfl, hSe.below⟩
theorem CW_3 (a b c how x y m : Nat) (hx : (a : Int) % 50 = (x : Int)) (hy : 100 + (b : Int) % 50 = (y : Int)) (hm : 3 + (c : Int) % 5 = (m : Int)) (ha : a < 256) (hb : b < 256) (hc : c < 256) (hh : how < 256) (hq : (how : Int) % 5 = 3) (w : World) (hg : GV w) :
    Calls Tryz.prog 3 #[.int .u8 (a : Int), .int .u8 (b : Int), .int .u8 (c : Int), .int .u8 (how : Int)] w fun e w' => e = .returned (.bool true) ∧ Below w.heap.size w w' := by
  have hx2 : x < 50 := by omega
  have hy2 : 100 ≤ y ∧ y < 150 := by omega
  have hm2 : 3 ≤ m ∧ m ≤ 7 := by omega
  have HN := Lib.hid (fun w => law_New 30 w (by omega) (by omega)); have HF := Lib.hid (fun (w : World) (d bf) (hO : Own w (diskL d bf none 0 (Disk.new 30))) => law_Format hO (by omega) (by omega)); have HE := Lib.hid (fun w => tag_Num_nil w); have hA : (leafN x m).right := leafN_right (by omega) (by omega); have hB : (leafN y 3).right := leafN_right (by omega) (by omega)
  have L0 := LinT.start; have L1 := L0.next (by omega) hA; have L2 := L1.next (by omega) hB; have HA := Lib.hid (fun (w : World) (d bf p b11 A c) (hO : Own w (blk b11 #[ptr p] 28 :: pagerL p d bf A c (X0 30))) => law_leaf hO (L0.lin.ok.fit (by omega)) x m 2 hA (by omega) (by omega) (L0.lin.free (by omega))); have HB := Lib.hid (fun (w : World) (d bf p b11 A c) (hO : Own w (blk b11 #[ptr p] 28 :: pagerL p d bf A c ((X0 30).new 2 (ndP _ hA)))) => law_leaf hO (L1.lin.ok.fit (by omega)) y 3 3 hB (by omega) (by omega) (L1.lin.free (by omega)))
  have hR : (node2 x 2 3).right := node2_right (by omega) (by omega) (by omega) (by omega)
  generalize ((X0 30).new 2 (ndP _ hA)).new 3 (ndP _ hB) = XB at *
  have HLay := Lib.hid (fun (w : World) (xs zs : Sl) (hn : NdR w xs ⟨none, 0⟩ zs (node2 x 2 3)) => node_Lay hn hR); have HNw : Hid (∀ (w : World) (d bf p A c) (hO : Own w (pagerL p d bf A c XB)), Calls Tryz.prog 16 #[ptr p, strL (node2 x 2 3).bytes] w fun e w' => ∃ A' c', e = .returned (.tuple #[.int .i64 (4 : Int), .nilIface]) ∧ Chg w w' (ids (pagerL p d bf A c XB)) (pagerL p d bf A' c' (XB.new 4 (ndP _ hR)))) := Lib.hid (fun w d bf p A c hO => pager_New hO L2.lin.ok.up L2.lin.ok.low L2.lin.ok.high (by have := L2.lin.ok.loose; omega) ⟨(node2 x 2 3).bytes.toArray⟩ (Nd.bytes_length hR) 4 (L2.lin.free (by omega))); have LR := L2.next (by omega) hR
  obtain ⟨T, LT, hT4, hT2⟩ : ∃ T, LinT (XB.new 4 (ndP _ hR)) 3 5 T ∧ T 4 = some (node2 x 2 3) ∧ T 2 = some (leafN x m) := ⟨_, LR, by simp, by simp⟩
  have hcode : (looked T (XB.new 4 (ndP _ hR)).used.has 4).1 = 2 := look2_first (by omega) hT4 (by rw [LR.lin.used]; simp) (by omega) (f1 := x) (m1 := m) hT2 (by rw [LR.lin.used]; simp) (by omega) (by omega) (by omega)
  clear hT4 hT2
  have HSnd := Lib.hid (fun (w : World) (d bf p A c) (hO : Own w (pagerL p d bf A c _)) => check_Sound (root := 4) hO (LT.lin.ok.fit (by omega)) LT.view); have HPgs := Lib.hid (fun (w : World) (d bf p A c) (hO : Own w (pagerL p d bf A c _)) => check_Pages (root := 4) hO (LT.lin.ok.fit (by omega)) LT.view); have HDep := Lib.hid (fun (w : World) (d bf p A c) (hO : Own w (pagerL p d bf A c _)) => check_Depth (root := 4) hO (LT.lin.ok.fit (by omega)) LT.view); unfold pagesN at HPgs; rw [hcode] at HSnd HPgs HDep; clear hcode; have HNum : Hid (∀ (L : List It) (be : Nat) (w' : World), Chg w w' [] L → errIt [be] (2 : Int) (.iface 150 (ptr be)) ∈ L → Calls Tryz.prog 17 #[errV 2 be] w' fun e w2 => e = .returned (.int .i64 2) ∧ Below w'.heap.size w' w2) := Lib.hid (fun L be w' hS hm => tag_Num_err (.inr (hg.keep hS)) (fun it hi => by rw [List.mem_singleton.1 (show it ∈ [errIt [be] (2 : Int) (.iface 150 (ptr be))] from hi)]; exact hS.all _ hm)); have HNum9 : Hid (∀ (L : List It) (be : Nat) (w' : World), Chg w w' [] L → errIt [be] (9 : Int) (.iface 150 (ptr be)) ∈ L → Calls Tryz.prog 17 #[errV 9 be] w' fun e w2 => e = .returned (.int .i64 9) ∧ Below w'.heap.size w' w2) := Lib.hid (fun L be w' hS hm => tag_Num_err (.inr (hg.keep hS)) (fun it hi => by rw [List.mem_singleton.1 (show it ∈ [errIt [be] (9 : Int) (.iface 150 (ptr be))] from hi)]; exact hS.all _ hm)); have HEL : Hid (∀ (be : Nat) (L : List It), errL 2 be ++ L = errIt [be] (2 : Int) (.iface 150 (ptr be)) :: L) := Lib.hid (fun _ _ => rfl); have HEL9 : Hid (∀ (be : Nat) (L : List It), errL 9 be ++ L = errIt [be] (9 : Int) (.iface 150 (ptr be)) :: L) := Lib.hid (fun _ _ => rfl)
  clear LT L0 L1 L2 LR
  generalize XB.new 4 (ndP _ hR) = XR at *
  generalize (X0 30).new 2 (ndP _ hA) = XA at *
  generalize X0 30 = X00 at *
  generalize Disk.new 30 = D0 at *
  generalize strL (node2 x 2 3).bytes = bts at *
  clear hA hB hR
  go_enter Tryz.func3, Tryz.ntmps3
  go_wp2_with (first | (go_at_call 11; refine (awake11 _).mono ?_; rintro e w0 ⟨rfl, hB0⟩; have hS0 := (Chg.nil w []).bel hB0) | (go_at_call 12; refine (HN.out _).mono ?_; rintro e w1 ⟨d, bf, rfl, hB1⟩; have hS1 := hS0.pure hB1; clear hS0) | (go_at_call 13; refine (HF.out _ _ _ (Chg.ownL (by rwa [List.append_nil] at hS1))).mono ?_; rintro e w2 ⟨p, rfl, hB2⟩; rw [List.append_nil] at hS1; have hS2 := hS1.after hB2; clear hS1 hB2) | (guard_target = wpList _ _ _ (Oper.mk _ (Op.alloc 28) _ _ _ none :: _) _ _; refine wl_alloc_one rfl rfl hS2 rfl rfl ?_; intro b11 w3 hS3; clear hS2) | (guard_target = wpList _ _ _ (Oper.mk _ (Op.store 28 _ _) _ _ _ none :: _) _ _; refine wl_store1_0 (v := ptr p) hS3 rfl rfl rfl rfl rfl (by simp) ?_; intro w4 hS4; clear hS3) | (go_at_call 14; first | (refine (HA.out _ _ _ _ _ _ _ hS4.ownL).mono ?_; rintro e w5 ⟨A5, c5, rfl, hB5⟩; have hS5 := hS4.after1 hB5; clear hS4 hB5) | (refine (HB.out _ _ _ _ _ _ _ hS5.ownL).mono ?_; rintro e w6 ⟨A6, c6, rfl, hB6⟩; have hS6 := hS5.after1 hB6; clear hS5 hB6)) | (guard_target = wpList _ _ _ (Oper.mk _ (Op.buildSlice _ _ _) _ _ _ none :: _) _ _; first | (refine wl_buildSlice2 (u := .int .i64 2) (v := .int .i64 3) hS6 rfl rfl rfl rfl rfl rfl ?_; intro bk w7 hS7; clear hS6) | (refine wl_buildSlice1 (v := .int .i64 (x : Int)) (cs := #[.int .i64 (x : Int)]) ‹Chg w _ [] _› rfl rfl rfl rfl rfl ?_; intro b81 w8 hS8; (try clear hS7); (try clear hS71))) | (guard_target = wpList _ _ _ (Oper.mk _ (Op.build _ _) _ _ _ none :: _) _ _; refine wl_build2 (cells := ndV ⟨some ⟨b81, 0, none⟩, 1⟩ ⟨none, 0⟩ ⟨some ⟨bk, 0, none⟩, 2⟩ (node2 x 2 3)) rfl rfl rfl rfl rfl ?_) | (go_at_call 15; refine (HLay.out _ _ _ ⟨.inr ⟨b81, 0, rfl, cellsAt_blk (hS8.get 0 rfl) _ rfl⟩, .inl rfl, .inr ⟨bk, 0, rfl, cellsAt_blk (hS8.get 1 rfl) _ rfl⟩⟩).mono ?_; rintro e w9 ⟨rfl, hB9⟩; have hS9 := hS8.bel hB9; clear hS8) | ((first | (guard_target = wpList _ _ _ (Oper.mk _ (Op.load 28 _) _ _ _ none :: _) _ _) | (guard_target = wpList _ _ _ (Oper.mk _ (Op.load 28 _) _ _ _ (some _) :: _) _ _; (fail_if_success (fail_if_success go_big_want)); refine wl_unguard rfl ?_)); first | refine wl_load1_2 hS9 rfl rfl rfl rfl ?_ | refine wl_load1_2 hSa rfl rfl rfl rfl ?_ | refine wl_load1_3 hSb rfl rfl rfl rfl ?_ | refine wl_load1_4 hSc rfl rfl rfl rfl ?_) | (go_at_call 16; refine (HNw.out _ _ _ _ _ _ hS9.tail.tail.tail.ownL).mono ?_; rintro e w10 ⟨A, c, rfl, hB10⟩; have hSa := hS9.after3 hB10; clear hS9 hB10) | (go_at_call 18; first | (refine (HSnd.out _ _ _ _ _ _ hSa.tail.tail.tail.ownL).mono ?_; rintro e w11 ⟨be1, rfl, hB11⟩; have hSb := hSa.pure hB11; rw [HEL.out] at hSb; clear hSa hB11) | (have hz := hSd; clear hz; refine (Sound_nil 5 (by omega) _).mono ?_; rintro e w14 ⟨be4, rfl, hB14⟩; have hSe := hSd.pure hB14; rw [HEL9.out] at hSe; clear hSd hB14)) | (go_at_call 19; refine (HPgs.out _ _ _ _ _ _ hSb.tail.tail.tail.tail.ownL).mono ?_; rintro e w12 ⟨Bp, cp, be2, rfl, hB12⟩; have hSc := hSb.pure hB12; rw [HEL.out] at hSc; clear hSb hB12) | (go_at_call 20; refine (HDep.out _ _ _ _ _ _ hSc.tail.tail.tail.tail.tail.ownL).mono ?_; rintro e w13 ⟨be3, rfl, hB13⟩; have hSd := hSc.pure hB13; rw [HEL.out] at hSd; clear hSc hB13) | (go_at_call 17; first | (have hz := hSa; clear hz; refine (HE.out _).mono ?_; rintro e w' ⟨rfl, rfl⟩) | (refine (HNum.out _ _ _ hSd (by first | exact .head _ | exact .tail _ (.head _) | exact .tail _ (.tail _ (.head _)) | exact .tail _ (.tail _ (.tail _ (.head _))))).mono ?_; rintro e w' ⟨rfl, hB⟩; replace hSd := hSd.bel hB; clear hB) | (refine (HNum9.out _ _ _ hSe (by first | exact .head _ | exact .tail _ (.head _) | exact .tail _ (.tail _ (.head _)) | exact .tail _ (.tail _ (.tail _ (.head _))))).mono ?_; rintro e w' ⟨rfl, hB⟩; replace hSe := hSe.bel hB; clear hB)))
  go_ret
  exact ⟨rfl, hSe.below⟩
theorem CW_4 (a b c how x y m : Nat) (hx : (a : Int) % 50 = (x : Int)) (hy : 100 + (b : Int) % 50 = (y : Int)) (hm : 3 + (c : Int) % 5 = (m : Int)) (ha : a < 256) (hb : b < 256) (hc : c < 256) (hh : how < 256) (hq : (how : Int) % 5 = 4) (w : World) (hg : GV w) :
    Calls Tryz.prog 3 #[.int .u8 (a : Int), .int .u8 (b : Int), .int .u8 (c : Int), .int .u8 (how : Int)] w fun e w' => e = .returned (.bool true) ∧ Below w.heap.size w w' := by
  have hx2 : x < 50 := by omega
  have hy2 : 100 ≤ y ∧ y < 150 := by omega
  have hm2 : 3 ≤ m ∧ m ≤ 7 := by omega
  have HN := Lib.hid (fun w => law_New 30 w (by omega) (by omega)); have HF := Lib.hid (fun (w : World) (d bf) (hO : Own w (diskL d bf none 0 (Disk.new 30))) => law_Format hO (by omega) (by omega)); have HE := Lib.hid (fun w => tag_Num_nil w); have hA : (leafN x m).right := leafN_right (by omega) (by omega); have hB : (leafN y 3).right := leafN_right (by omega) (by omega)
  have L0 := LinT.start; have L1 := L0.next (by omega) hA; have L2 := L1.next (by omega) hB; have HA := Lib.hid (fun (w : World) (d bf p b11 A c) (hO : Own w (blk b11 #[ptr p] 28 :: pagerL p d bf A c (X0 30))) => law_leaf hO (L0.lin.ok.fit (by omega)) x m 2 hA (by omega) (by omega) (L0.lin.free (by omega))); have HB := Lib.hid (fun (w : World) (d bf p b11 A c) (hO : Own w (blk b11 #[ptr p] 28 :: pagerL p d bf A c ((X0 30).new 2 (ndP _ hA)))) => law_leaf hO (L1.lin.ok.fit (by omega)) y 3 3 hB (by omega) (by omega) (L1.lin.free (by omega)))
  have hR : (node2 y 2 29).right := node2_right (by omega) (by omega) (by omega) (by omega)
  generalize ((X0 30).new 2 (ndP _ hA)).new 3 (ndP _ hB) = XB at *
  have HLay := Lib.hid (fun (w : World) (xs zs : Sl) (hn : NdR w xs ⟨none, 0⟩ zs (node2 y 2 29)) => node_Lay hn hR); have HNw : Hid (∀ (w : World) (d bf p A c) (hO : Own w (pagerL p d bf A c XB)), Calls Tryz.prog 16 #[ptr p, strL (node2 y 2 29).bytes] w fun e w' => ∃ A' c', e = .returned (.tuple #[.int .i64 (4 : Int), .nilIface]) ∧ Chg w w' (ids (pagerL p d bf A c XB)) (pagerL p d bf A' c' (XB.new 4 (ndP _ hR)))) := Lib.hid (fun w d bf p A c hO => pager_New hO L2.lin.ok.up L2.lin.ok.low L2.lin.ok.high (by have := L2.lin.ok.loose; omega) ⟨(node2 y 2 29).bytes.toArray⟩ (Nd.bytes_length hR) 4 (L2.lin.free (by omega))); have LR := L2.next (by omega) hR
  obtain ⟨T, LT, hT4, hT2, hTn⟩ : ∃ T, LinT (XB.new 4 (ndP _ hR)) 3 5 T ∧ T 4 = some (node2 y 2 29) ∧ T 2 = some (leafN x m) ∧ T 29 = none := ⟨_, LR, by simp, by simp, by simp⟩
  have hcode : (looked T (XB.new 4 (ndP _ hR)).used.has 4).1 = 4 := look2_second (by omega) hT4 (by rw [LR.lin.used]; simp) (by omega) (f1 := x) (m1 := m) hT2 (by rw [LR.lin.used]; simp) (by omega) (by omega) (by omega) (by omega) (lookP_none hTn (by simp))
  clear hT4 hT2 hTn
  have HSnd := Lib.hid (fun (w : World) (d bf p A c) (hO : Own w (pagerL p d bf A c _)) => check_Sound (root := 4) hO (LT.lin.ok.fit (by omega)) LT.view); have HPgs := Lib.hid (fun (w : World) (d bf p A c) (hO : Own w (pagerL p d bf A c _)) => check_Pages (root := 4) hO (LT.lin.ok.fit (by omega)) LT.view); have HDep := Lib.hid (fun (w : World) (d bf p A c) (hO : Own w (pagerL p d bf A c _)) => check_Depth (root := 4) hO (LT.lin.ok.fit (by omega)) LT.view); unfold pagesN at HPgs; rw [hcode] at HSnd HPgs HDep; clear hcode; have HNum : Hid (∀ (L : List It) (be : Nat) (w' : World), Chg w w' [] L → errIt [be] (4 : Int) (.iface 150 (ptr be)) ∈ L → Calls Tryz.prog 17 #[errV 4 be] w' fun e w2 => e = .returned (.int .i64 4) ∧ Below w'.heap.size w' w2) := Lib.hid (fun L be w' hS hm => tag_Num_err (.inr (hg.keep hS)) (fun it hi => by rw [List.mem_singleton.1 (show it ∈ [errIt [be] (4 : Int) (.iface 150 (ptr be))] from hi)]; exact hS.all _ hm)); have HNum9 : Hid (∀ (L : List It) (be : Nat) (w' : World), Chg w w' [] L → errIt [be] (9 : Int) (.iface 150 (ptr be)) ∈ L → Calls Tryz.prog 17 #[errV 9 be] w' fun e w2 => e = .returned (.int .i64 9) ∧ Below w'.heap.size w' w2) := Lib.hid (fun L be w' hS hm => tag_Num_err (.inr (hg.keep hS)) (fun it hi => by rw [List.mem_singleton.1 (show it ∈ [errIt [be] (9 : Int) (.iface 150 (ptr be))] from hi)]; exact hS.all _ hm)); have HEL : Hid (∀ (be : Nat) (L : List It), errL 4 be ++ L = errIt [be] (4 : Int) (.iface 150 (ptr be)) :: L) := Lib.hid (fun _ _ => rfl); have HEL9 : Hid (∀ (be : Nat) (L : List It), errL 9 be ++ L = errIt [be] (9 : Int) (.iface 150 (ptr be)) :: L) := Lib.hid (fun _ _ => rfl)
  clear LT L0 L1 L2 LR
  generalize XB.new 4 (ndP _ hR) = XR at *
  generalize (X0 30).new 2 (ndP _ hA) = XA at *
  generalize X0 30 = X00 at *
  generalize Disk.new 30 = D0 at *
  generalize strL (node2 y 2 29).bytes = bts at *
  clear hA hB hR
  go_enter Tryz.func3, Tryz.ntmps3
  go_wp2_with (first | (go_at_call 11; refine (awake11 _).mono ?_; rintro e w0 ⟨rfl, hB0⟩; have hS0 := (Chg.nil w []).bel hB0) | (go_at_call 12; refine (HN.out _).mono ?_; rintro e w1 ⟨d, bf, rfl, hB1⟩; have hS1 := hS0.pure hB1; clear hS0) | (go_at_call 13; refine (HF.out _ _ _ (Chg.ownL (by rwa [List.append_nil] at hS1))).mono ?_; rintro e w2 ⟨p, rfl, hB2⟩; rw [List.append_nil] at hS1; have hS2 := hS1.after hB2; clear hS1 hB2) | (guard_target = wpList _ _ _ (Oper.mk _ (Op.alloc 28) _ _ _ none :: _) _ _; refine wl_alloc_one rfl rfl hS2 rfl rfl ?_; intro b11 w3 hS3; clear hS2) | (guard_target = wpList _ _ _ (Oper.mk _ (Op.store 28 _ _) _ _ _ none :: _) _ _; refine wl_store1_0 (v := ptr p) hS3 rfl rfl rfl rfl rfl (by simp) ?_; intro w4 hS4; clear hS3) | (go_at_call 14; first | (refine (HA.out _ _ _ _ _ _ _ hS4.ownL).mono ?_; rintro e w5 ⟨A5, c5, rfl, hB5⟩; have hS5 := hS4.after1 hB5; clear hS4 hB5) | (refine (HB.out _ _ _ _ _ _ _ hS5.ownL).mono ?_; rintro e w6 ⟨A6, c6, rfl, hB6⟩; have hS6 := hS5.after1 hB6; clear hS5 hB6)) | (guard_target = wpList _ _ _ (Oper.mk _ (Op.buildSlice _ _ _) _ _ _ none :: _) _ _; first | (refine wl_buildSlice2 (u := .int .i64 2) (v := .int .i64 3) hS6 rfl rfl rfl rfl rfl rfl ?_; intro bk w7 hS7; clear hS6) | (refine wl_buildSlice1 (v := .int .i64 (y : Int)) (cs := #[.int .i64 (y : Int)]) ‹Chg w _ [] _› rfl rfl rfl rfl rfl ?_; intro b81 w8 hS8; (try clear hS7); (try clear hS71))) | (guard_target = wpList _ _ _ (Oper.mk _ (Op.build _ _) _ _ _ none :: _) _ _; refine wl_build2 (cells := ndV ⟨some ⟨b81, 0, none⟩, 1⟩ ⟨none, 0⟩ ⟨some ⟨bk, 0, none⟩, 2⟩ (node2 y 2 29)) rfl rfl rfl rfl rfl ?_) | (go_at_call 15; refine (HLay.out _ _ _ ⟨.inr ⟨b81, 0, rfl, cellsAt_blk (hS8.get 0 rfl) _ rfl⟩, .inl rfl, .inr ⟨bk, 0, rfl, cellsAt_blk (hS8.get 1 rfl) _ rfl⟩⟩).mono ?_; rintro e w9 ⟨rfl, hB9⟩; have hS9 := hS8.bel hB9; clear hS8) | ((first | (guard_target = wpList _ _ _ (Oper.mk _ (Op.load 28 _) _ _ _ none :: _) _ _) | (guard_target = wpList _ _ _ (Oper.mk _ (Op.load 28 _) _ _ _ (some _) :: _) _ _; (fail_if_success (fail_if_success go_big_want)); refine wl_unguard rfl ?_)); first | refine wl_load1_2 hS9 rfl rfl rfl rfl ?_ | refine wl_load1_2 hSa rfl rfl rfl rfl ?_ | refine wl_load1_3 hSb rfl rfl rfl rfl ?_ | refine wl_load1_4 hSc rfl rfl rfl rfl ?_) | (go_at_call 16; refine (HNw.out _ _ _ _ _ _ hS9.tail.tail.tail.ownL).mono ?_; rintro e w10 ⟨A, c, rfl, hB10⟩; have hSa := hS9.after3 hB10; clear hS9 hB10) | (go_at_call 18; first | (refine (HSnd.out _ _ _ _ _ _ hSa.tail.tail.tail.ownL).mono ?_; rintro e w11 ⟨be1, rfl, hB11⟩; have hSb := hSa.pure hB11; rw [HEL.out] at hSb; clear hSa hB11) | (have hz := hSd; clear hz; refine (Sound_nil 5 (by omega) _).mono ?_; rintro e w14 ⟨be4, rfl, hB14⟩; have hSe := hSd.pure hB14; rw [HEL9.out] at hSe; clear hSd hB14)) | (go_at_call 19; refine (HPgs.out _ _ _ _ _ _ hSb.tail.tail.tail.tail.ownL).mono ?_; rintro e w12 ⟨Bp, cp, be2, rfl, hB12⟩; have hSc := hSb.pure hB12; rw [HEL.out] at hSc; clear hSb hB12) | (go_at_call 20; refine (HDep.out _ _ _ _ _ _ hSc.tail.tail.tail.tail.tail.ownL).mono ?_; rintro e w13 ⟨be3, rfl, hB13⟩; have hSd := hSc.pure hB13; rw [HEL.out] at hSd; clear hSc hB13) | (go_at_call 17; first | (have hz := hSa; clear hz; refine (HE.out _).mono ?_; rintro e w' ⟨rfl, rfl⟩) | (refine (HNum.out _ _ _ hSd (by first | exact .head _ | exact .tail _ (.head _) | exact .tail _ (.tail _ (.head _)) | exact .tail _ (.tail _ (.tail _ (.head _))))).mono ?_; rintro e w' ⟨rfl, hB⟩; replace hSd := hSd.bel hB; clear hB) | (refine (HNum9.out _ _ _ hSe (by first | exact .head _ | exact .tail _ (.head _) | exact .tail _ (.tail _ (.head _)) | exact .tail _ (.tail _ (.tail _ (.head _))))).mono ?_; rintro e w' ⟨rfl, hB⟩; replace hSe := hSe.bel hB; clear hB)) | (guard_target = wpList _ _ _ (Oper.mk _ (Op.store 3 _ _) _ _ _ none :: _) _ _; refine wl_store1_0 (v := .int .i64 29) hS7 rfl rfl rfl rfl rfl (by simp) ?_; intro w71 hS71; clear hS7))
  go_ret
  exact ⟨rfl, hSe.below⟩
theorem CW_2 (a b c how x y m : Nat) (hx : (a : Int) % 50 = (x : Int)) (hy : 100 + (b : Int) % 50 = (y : Int)) (hm : 3 + (c : Int) % 5 = (m : Int)) (ha : a < 256) (hb : b < 256) (hc : c < 256) (hh : how < 256) (hq : (how : Int) % 5 = 2) (w : World) (hg : GV w) :
    Calls Tryz.prog 3 #[.int .u8 (a : Int), .int .u8 (b : Int), .int .u8 (c : Int), .int .u8 (how : Int)] w fun e w' => e = .returned (.bool true) ∧ Below w.heap.size w w' := by
  have hx2 : x < 50 := by omega
  have hy2 : 100 ≤ y ∧ y < 150 := by omega
  have hm2 : 3 ≤ m ∧ m ≤ 7 := by omega
  have HN := Lib.hid (fun w => law_New 30 w (by omega) (by omega)); have HF := Lib.hid (fun (w : World) (d bf) (hO : Own w (diskL d bf none 0 (Disk.new 30))) => law_Format hO (by omega) (by omega)); have HE := Lib.hid (fun w => tag_Num_nil w); have hA : (leafN x m).right := leafN_right (by omega) (by omega); have hB : (leafN y 3).right := leafN_right (by omega) (by omega)
  have L0 := LinT.start; have L1 := L0.next (by omega) hA; have L2 := L1.next (by omega) hB; have HA := Lib.hid (fun (w : World) (d bf p b11 A c) (hO : Own w (blk b11 #[ptr p] 28 :: pagerL p d bf A c (X0 30))) => law_leaf hO (L0.lin.ok.fit (by omega)) x m 2 hA (by omega) (by omega) (L0.lin.free (by omega))); have HB := Lib.hid (fun (w : World) (d bf p b11 A c) (hO : Own w (blk b11 #[ptr p] 28 :: pagerL p d bf A c ((X0 30).new 2 (ndP _ hA)))) => law_leaf hO (L1.lin.ok.fit (by omega)) y 3 3 hB (by omega) (by omega) (L1.lin.free (by omega)))
  have hR : (node2 y 2 4).right := node2_right (by omega) (by omega) (by omega) (by omega)
  generalize ((X0 30).new 2 (ndP _ hA)).new 3 (ndP _ hB) = XB at *
  have hCr : (leafN y 2).right := leafN_right (by omega) (by omega)
  have L3 := L2.next (by omega) hCr
  have HC := Lib.hid (fun (w : World) (d bf p b11 A c) (hO : Own w (blk b11 #[ptr p] 28 :: pagerL p d bf A c XB)) => law_leaf hO (L2.lin.ok.fit (by omega)) y 2 4 hCr (by omega) (by omega) (L2.lin.free (by omega)))
  generalize XB.new 4 (ndP _ hCr) = XC at *
  have HLay := Lib.hid (fun (w : World) (xs zs : Sl) (hn : NdR w xs ⟨none, 0⟩ zs (node2 y 2 4)) => node_Lay hn hR); have HNw : Hid (∀ (w : World) (d bf p A c) (hO : Own w (pagerL p d bf A c XC)), Calls Tryz.prog 16 #[ptr p, strL (node2 y 2 4).bytes] w fun e w' => ∃ A' c', e = .returned (.tuple #[.int .i64 (5 : Int), .nilIface]) ∧ Chg w w' (ids (pagerL p d bf A c XC)) (pagerL p d bf A' c' (XC.new 5 (ndP _ hR)))) := Lib.hid (fun w d bf p A c hO => pager_New hO L3.lin.ok.up L3.lin.ok.low L3.lin.ok.high (by have := L3.lin.ok.loose; omega) ⟨(node2 y 2 4).bytes.toArray⟩ (Nd.bytes_length hR) 5 (L3.lin.free (by omega))); have LR := L3.next (by omega) hR
  obtain ⟨T, LT, hT5, hT4, hT2⟩ : ∃ T, LinT (XC.new 5 (ndP _ hR)) 4 6 T ∧ T 5 = some (node2 y 2 4) ∧ T 4 = some (leafN y 2) ∧ T 2 = some (leafN x m) := ⟨_, LR, by simp, by simp, by simp⟩
  have hcode : (looked T (XC.new 5 (ndP _ hR)).used.has 5).1 = 2 := look2_second (by omega) hT5 (by rw [LR.lin.used]; simp) (by omega) (f1 := x) (m1 := m) hT2 (by rw [LR.lin.used]; simp) (by omega) (by omega) (by omega) (by omega) (lookP_leaf_bad (f := y) (m := 2) hT4 (by rw [LR.lin.used]; simp) (by simp) (by omega) (by omega))
  clear hT5 hT4 hT2 L3 hCr
  have HSnd := Lib.hid (fun (w : World) (d bf p A c) (hO : Own w (pagerL p d bf A c _)) => check_Sound (root := 5) hO (LT.lin.ok.fit (by omega)) LT.view); have HPgs := Lib.hid (fun (w : World) (d bf p A c) (hO : Own w (pagerL p d bf A c _)) => check_Pages (root := 5) hO (LT.lin.ok.fit (by omega)) LT.view); have HDep := Lib.hid (fun (w : World) (d bf p A c) (hO : Own w (pagerL p d bf A c _)) => check_Depth (root := 5) hO (LT.lin.ok.fit (by omega)) LT.view); unfold pagesN at HPgs; rw [hcode] at HSnd HPgs HDep; clear hcode; have HNum : Hid (∀ (L : List It) (be : Nat) (w' : World), Chg w w' [] L → errIt [be] (2 : Int) (.iface 150 (ptr be)) ∈ L → Calls Tryz.prog 17 #[errV 2 be] w' fun e w2 => e = .returned (.int .i64 2) ∧ Below w'.heap.size w' w2) := Lib.hid (fun L be w' hS hm => tag_Num_err (.inr (hg.keep hS)) (fun it hi => by rw [List.mem_singleton.1 (show it ∈ [errIt [be] (2 : Int) (.iface 150 (ptr be))] from hi)]; exact hS.all _ hm)); have HNum9 : Hid (∀ (L : List It) (be : Nat) (w' : World), Chg w w' [] L → errIt [be] (9 : Int) (.iface 150 (ptr be)) ∈ L → Calls Tryz.prog 17 #[errV 9 be] w' fun e w2 => e = .returned (.int .i64 9) ∧ Below w'.heap.size w' w2) := Lib.hid (fun L be w' hS hm => tag_Num_err (.inr (hg.keep hS)) (fun it hi => by rw [List.mem_singleton.1 (show it ∈ [errIt [be] (9 : Int) (.iface 150 (ptr be))] from hi)]; exact hS.all _ hm)); have HEL : Hid (∀ (be : Nat) (L : List It), errL 2 be ++ L = errIt [be] (2 : Int) (.iface 150 (ptr be)) :: L) := Lib.hid (fun _ _ => rfl); have HEL9 : Hid (∀ (be : Nat) (L : List It), errL 9 be ++ L = errIt [be] (9 : Int) (.iface 150 (ptr be)) :: L) := Lib.hid (fun _ _ => rfl)
  clear LT L0 L1 L2 LR
  generalize XC.new 5 (ndP _ hR) = XR at *
  generalize (X0 30).new 2 (ndP _ hA) = XA at *
  generalize X0 30 = X00 at *
  generalize Disk.new 30 = D0 at *
  generalize strL (node2 y 2 4).bytes = bts at *
  clear hA hB hR
  go_enter Tryz.func3, Tryz.ntmps3
  go_wp2_with (first | (go_at_call 11; refine (awake11 _).mono ?_; rintro e w0 ⟨rfl, hB0⟩; have hS0 := (Chg.nil w []).bel hB0) | (go_at_call 12; refine (HN.out _).mono ?_; rintro e w1 ⟨d, bf, rfl, hB1⟩; have hS1 := hS0.pure hB1; clear hS0) | (go_at_call 13; refine (HF.out _ _ _ (Chg.ownL (by rwa [List.append_nil] at hS1))).mono ?_; rintro e w2 ⟨p, rfl, hB2⟩; rw [List.append_nil] at hS1; have hS2 := hS1.after hB2; clear hS1 hB2) | (guard_target = wpList _ _ _ (Oper.mk _ (Op.alloc 28) _ _ _ none :: _) _ _; refine wl_alloc_one rfl rfl hS2 rfl rfl ?_; intro b11 w3 hS3; clear hS2) | (guard_target = wpList _ _ _ (Oper.mk _ (Op.store 28 _ _) _ _ _ none :: _) _ _; refine wl_store1_0 (v := ptr p) hS3 rfl rfl rfl rfl rfl (by simp) ?_; intro w4 hS4; clear hS3) | (go_at_call 14; first | (refine (HA.out _ _ _ _ _ _ _ hS4.ownL).mono ?_; rintro e w5 ⟨A5, c5, rfl, hB5⟩; have hS5 := hS4.after1 hB5; clear hS4 hB5) | (refine (HB.out _ _ _ _ _ _ _ hS5.ownL).mono ?_; rintro e w6 ⟨A6, c6, rfl, hB6⟩; have hS6 := hS5.after1 hB6; clear hS5 hB6)) | (guard_target = wpList _ _ _ (Oper.mk _ (Op.buildSlice _ _ _) _ _ _ none :: _) _ _; first | (refine wl_buildSlice2 (u := .int .i64 2) (v := .int .i64 3) hS6 rfl rfl rfl rfl rfl rfl ?_; intro bk w7 hS7; clear hS6) | (refine wl_buildSlice1 (v := .int .i64 (y : Int)) (cs := #[.int .i64 (y : Int)]) ‹Chg w _ [] _› rfl rfl rfl rfl rfl ?_; intro b81 w8 hS8; (try clear hS7); (try clear hS71))) | (guard_target = wpList _ _ _ (Oper.mk _ (Op.build _ _) _ _ _ none :: _) _ _; refine wl_build2 (cells := ndV ⟨some ⟨b81, 0, none⟩, 1⟩ ⟨none, 0⟩ ⟨some ⟨bk, 0, none⟩, 2⟩ (node2 y 2 4)) rfl rfl rfl rfl rfl ?_) | (go_at_call 15; refine (HLay.out _ _ _ ⟨.inr ⟨b81, 0, rfl, cellsAt_blk (hS8.get 0 rfl) _ rfl⟩, .inl rfl, .inr ⟨bk, 0, rfl, cellsAt_blk (hS8.get 1 rfl) _ rfl⟩⟩).mono ?_; rintro e w9 ⟨rfl, hB9⟩; have hS9 := hS8.bel hB9; clear hS8) | ((first | (guard_target = wpList _ _ _ (Oper.mk _ (Op.load 28 _) _ _ _ none :: _) _ _) | (guard_target = wpList _ _ _ (Oper.mk _ (Op.load 28 _) _ _ _ (some _) :: _) _ _; (fail_if_success (fail_if_success go_big_want)); refine wl_unguard rfl ?_)); first | refine wl_load1_2 hS9 rfl rfl rfl rfl ?_ | refine wl_load1_2 hSa rfl rfl rfl rfl ?_ | refine wl_load1_3 hSb rfl rfl rfl rfl ?_ | refine wl_load1_4 hSc rfl rfl rfl rfl ?_) | (go_at_call 16; refine (HNw.out _ _ _ _ _ _ hS9.tail.tail.tail.ownL).mono ?_; rintro e w10 ⟨A, c, rfl, hB10⟩; have hSa := hS9.after3 hB10; clear hS9 hB10) | (go_at_call 18; first | (refine (HSnd.out _ _ _ _ _ _ hSa.tail.tail.tail.ownL).mono ?_; rintro e w11 ⟨be1, rfl, hB11⟩; have hSb := hSa.pure hB11; rw [HEL.out] at hSb; clear hSa hB11) | (have hz := hSd; clear hz; refine (Sound_nil 5 (by omega) _).mono ?_; rintro e w14 ⟨be4, rfl, hB14⟩; have hSe := hSd.pure hB14; rw [HEL9.out] at hSe; clear hSd hB14)) | (go_at_call 19; refine (HPgs.out _ _ _ _ _ _ hSb.tail.tail.tail.tail.ownL).mono ?_; rintro e w12 ⟨Bp, cp, be2, rfl, hB12⟩; have hSc := hSb.pure hB12; rw [HEL.out] at hSc; clear hSb hB12) | (go_at_call 20; refine (HDep.out _ _ _ _ _ _ hSc.tail.tail.tail.tail.tail.ownL).mono ?_; rintro e w13 ⟨be3, rfl, hB13⟩; have hSd := hSc.pure hB13; rw [HEL.out] at hSd; clear hSc hB13) | (go_at_call 17; first | (have hz := hSa; clear hz; refine (HE.out _).mono ?_; rintro e w' ⟨rfl, rfl⟩) | (refine (HNum.out _ _ _ hSd (by first | exact .head _ | exact .tail _ (.head _) | exact .tail _ (.tail _ (.head _)) | exact .tail _ (.tail _ (.tail _ (.head _))))).mono ?_; rintro e w' ⟨rfl, hB⟩; replace hSd := hSd.bel hB; clear hB) | (refine (HNum9.out _ _ _ hSe (by first | exact .head _ | exact .tail _ (.head _) | exact .tail _ (.tail _ (.head _)) | exact .tail _ (.tail _ (.tail _ (.head _))))).mono ?_; rintro e w' ⟨rfl, hB⟩; replace hSe := hSe.bel hB; clear hB)) | (go_at_call 14; refine (HC.out _ _ _ _ _ _ _ hS7.tail.ownL).mono ?_; rintro e w72 ⟨A72, c72, rfl, hB72⟩; replace hS7 := hS7.after2 hB72; clear hB72) | (guard_target = wpList _ _ _ (Oper.mk _ (Op.store 3 _ _) _ _ _ none :: _) _ _; refine wl_store1_0 (v := .int .i64 4) hS7 rfl rfl rfl rfl rfl (by simp) ?_; intro w71 hS71; clear hS7))
  go_ret
  exact ⟨rfl, hSe.below⟩
end Go.Dyn
namespace Go.Dyn
open Go Go.RowKit Go.Proofs
set_option maxRecDepth 20000
set_option maxHeartbeats 2000000
theorem CW_0 (a b c how x y m : Nat) (hx : (a : Int) % 50 = (x : Int)) (hy : 100 + (b : Int) % 50 = (y : Int)) (hm : 3 + (c : Int) % 5 = (m : Int)) (ha : a < 256) (hb : b < 256) (hc : c < 256) (hh : how < 256) (hq : (how : Int) % 5 = 0) (w : World) (hg : GV w) :
    Calls Tryz.prog 3 #[.int .u8 (a : Int), .int .u8 (b : Int), .int .u8 (c : Int), .int .u8 (how : Int)] w fun e w' => e = .returned (.bool true) ∧ Below w.heap.size w w' := by
  have hx2 : x < 50 := by omega
  have hy2 : 100 ≤ y ∧ y < 150 := by omega
  have hm2 : 3 ≤ m ∧ m ≤ 7 := by omega
  have HN := Lib.hid (fun w => law_New 30 w (by omega) (by omega)); have HF := Lib.hid (fun (w : World) (d bf) (hO : Own w (diskL d bf none 0 (Disk.new 30))) => law_Format hO (by omega) (by omega)); have HE := Lib.hid (fun w => tag_Num_nil w); have hA : (leafN x m).right := leafN_right (by omega) (by omega); have hB : (leafN y 3).right := leafN_right (by omega) (by omega)
  have L0 := LinT.start; have L1 := L0.next (by omega) hA; have L2 := L1.next (by omega) hB; have HA := Lib.hid (fun (w : World) (d bf p b11 A c) (hO : Own w (blk b11 #[ptr p] 28 :: pagerL p d bf A c (X0 30))) => law_leaf hO (L0.lin.ok.fit (by omega)) x m 2 hA (by omega) (by omega) (L0.lin.free (by omega))); have HB := Lib.hid (fun (w : World) (d bf p b11 A c) (hO : Own w (blk b11 #[ptr p] 28 :: pagerL p d bf A c ((X0 30).new 2 (ndP _ hA)))) => law_leaf hO (L1.lin.ok.fit (by omega)) y 3 3 hB (by omega) (by omega) (L1.lin.free (by omega)))
  have hR : (node2 y 2 3).right := node2_right (by omega) (by omega) (by omega) (by omega)
  have hgen : (((X0 30).new 2 (ndP _ hA)).new 3 (ndP _ hB)).s.gen = 1 := rfl
  generalize ((X0 30).new 2 (ndP _ hA)).new 3 (ndP _ hB) = XB at *
  have HLay := Lib.hid (fun (w : World) (xs zs : Sl) (hn : NdR w xs ⟨none, 0⟩ zs (node2 y 2 3)) => node_Lay hn hR); have HNw : Hid (∀ (w : World) (d bf p A c) (hO : Own w (pagerL p d bf A c XB)), Calls Tryz.prog 16 #[ptr p, strL (node2 y 2 3).bytes] w fun e w' => ∃ A' c', e = .returned (.tuple #[.int .i64 (4 : Int), .nilIface]) ∧ Chg w w' (ids (pagerL p d bf A c XB)) (pagerL p d bf A' c' (XB.new 4 (ndP _ hR)))) := Lib.hid (fun w d bf p A c hO => pager_New hO L2.lin.ok.up L2.lin.ok.low L2.lin.ok.high (by have := L2.lin.ok.loose; omega) ⟨(node2 y 2 3).bytes.toArray⟩ (Nd.bytes_length hR) 4 (L2.lin.free (by omega))); have LR := L2.next (by omega) hR
  have hgenR : (XB.new 4 (ndP _ hR)).s.gen = 1 := hgen
  obtain ⟨T, LT, hT4, hT3, hT2⟩ : ∃ T, LinT (XB.new 4 (ndP _ hR)) 3 5 T ∧ T 4 = some (node2 y 2 3) ∧ T 3 = some (leafN y 3) ∧ T 2 = some (leafN x m) := ⟨_, LR, by simp, by simp, by simp⟩
  have hcode : looked T (XB.new 4 (ndP _ hR)).used.has 4 = (0, ⟨[4, 2, 3], 2⟩) := look2_ok (by omega) hT4 (by rw [LR.lin.used]; simp) (by omega) hT2 (by rw [LR.lin.used]; simp) hT3 (by rw [LR.lin.used]; simp) (by omega) (by omega) (by omega) (by omega) (by omega) (by omega) (by omega) (by omega)
  clear LR L0 L1 L2
  generalize XB.new 4 (ndP _ hR) = XR at *
  generalize (X0 30).new 2 (ndP _ hA) = XA at *
  generalize X0 30 = X00 at *
  generalize Disk.new 30 = D0 at *
  generalize strL (node2 y 2 3).bytes = bts at *
  have hfit := LT.lin.ok.fit (by omega)
  have HSnd := Lib.hid (fun (w : World) (d bf p A c) (hO : Own w (pagerL p d bf A c XR)) => check_Sound (root := 4) hO hfit LT.view)
  have HPgs := Lib.hid (fun (w : World) (d bf p A c) (hO : Own w (pagerL p d bf A c XR)) => check_Pages (root := 4) hO hfit LT.view)
  have HDep := Lib.hid (fun (w : World) (d bf p A c) (hO : Own w (pagerL p d bf A c XR)) => check_Depth (root := 4) hO hfit LT.view)
  rw [hcode] at HSnd HPgs HDep
  have hright : (XR.next 4).right := by
    refine ⟨Nat.succ_pos _, ?_, .inr ⟨by show 2 ≤ 4; omega, by show 4 < 240; omega, ?_⟩, ?_, ?_⟩
    · show XR.s.gen + 1 < 4294967296
      omega
    · show XR.used.has 4 = true
      rw [LT.lin.used]; simp
    · show XR.used.has 0 = false
      rw [LT.lin.used]; simp
    · show XR.used.has 1 = false
      rw [LT.lin.used]; simp
  have HCom := Lib.hid (fun (w : World) (d bf p A c) (hO : Own w (pagerL p d bf A c XR)) => pager_Commit hO hfit.up (by have := hfit.low; omega) hfit.high (by have := hfit.loose; omega) hfit.inside 4 hright)
  have hV := View.commit LT.lin.ok LT.view 4
  have hfitC := (Pgr.commit_ok LT.lin.ok 4).fit (by omega)
  have hU : ∀ j, (XR.commit 4).used.has j = decide (2 ≤ j ∧ j < 5) := fun j => by rw [Pgr.commit_used]; exact LT.lin.used j
  have hcode2 : looked (fun j => if XR.used.has j = true then T j else none) (XR.commit 4).used.has 4 = (0, ⟨[4, 2, 3], 2⟩) := by
    have g4 : XR.used.has 4 = true := by rw [LT.lin.used]; simp
    have g3 : XR.used.has 3 = true := by rw [LT.lin.used]; simp
    have g2 : XR.used.has 2 = true := by rw [LT.lin.used]; simp
    exact look2_ok (by omega) (by simp only [g4, ↓reduceIte]; exact hT4) (by rw [hU]; simp) (by omega) (by simp only [g2, ↓reduceIte]; exact hT2) (by rw [hU]; simp) (by simp only [g3, ↓reduceIte]; exact hT3) (by rw [hU]; simp) (by omega) (by omega) (by omega) (by omega) (by omega) (by omega) (by omega) (by omega)
  have hcount : (XR.commit 4).used.count = 3 := by
    rw [BSet.count_eq, show (XR.commit 4).used.has = fun i => decide (2 ≤ i ∧ i < 5) from funext hU]
    decide +kernel
  have hroot : (XR.commit 4).s.root = 4 := rfl
  have hwh : wholeE (XR.commit 4) (looked (fun j => if XR.used.has j = true then T j else none) (XR.commit 4).used.has (XR.commit 4).s.root) = 0 := by
    rw [hroot, hcode2]
    simp [wholeE, hcount]
  have HWh := Lib.hid (fun (w : World) (d bf p) (hO : Own w (pagerL p d bf none 0 (XR.commit 4))) => check_Whole hO hfitC hV)
  rw [hwh] at HWh
  have HEL : Hid (∀ (be : Nat) (L : List It), errL 0 be ++ L = L) := Lib.hid (fun _ _ => rfl)
  clear hcode hcode2 hwh hroot hcount hU hV hfit hfitC hright hT4 hT3 hT2 LT hgen hgenR
  generalize XR.commit 4 = XC at *
  clear hA hB hR
  go_enter Tryz.func3, Tryz.ntmps3
  go_wp2_with (first | (go_at_call 11; refine (awake11 _).mono ?_; rintro e w0 ⟨rfl, hB0⟩; have hS0 := (Chg.nil w []).bel hB0) | (go_at_call 12; refine (HN.out _).mono ?_; rintro e w1 ⟨d, bf, rfl, hB1⟩; have hS1 := hS0.pure hB1; clear hS0) | (go_at_call 13; refine (HF.out _ _ _ (Chg.ownL (by rwa [List.append_nil] at hS1))).mono ?_; rintro e w2 ⟨p, rfl, hB2⟩; rw [List.append_nil] at hS1; have hS2 := hS1.after hB2; clear hS1 hB2) | (guard_target = wpList _ _ _ (Oper.mk _ (Op.alloc 28) _ _ _ none :: _) _ _; refine wl_alloc_one rfl rfl hS2 rfl rfl ?_; intro b11 w3 hS3; clear hS2) | (guard_target = wpList _ _ _ (Oper.mk _ (Op.store 28 _ _) _ _ _ none :: _) _ _; refine wl_store1_0 (v := ptr p) hS3 rfl rfl rfl rfl rfl (by simp) ?_; intro w4 hS4; clear hS3) | (go_at_call 14; first | (refine (HA.out _ _ _ _ _ _ _ hS4.ownL).mono ?_; rintro e w5 ⟨A5, c5, rfl, hB5⟩; have hS5 := hS4.after1 hB5; clear hS4 hB5) | (refine (HB.out _ _ _ _ _ _ _ hS5.ownL).mono ?_; rintro e w6 ⟨A6, c6, rfl, hB6⟩; have hS6 := hS5.after1 hB6; clear hS5 hB6)) | (guard_target = wpList _ _ _ (Oper.mk _ (Op.buildSlice _ _ _) _ _ _ none :: _) _ _; first | (refine wl_buildSlice2 (u := .int .i64 2) (v := .int .i64 3) hS6 rfl rfl rfl rfl rfl rfl ?_; intro bk w7 hS7; clear hS6) | (refine wl_buildSlice1 (v := .int .i64 (y : Int)) (cs := #[.int .i64 (y : Int)]) ‹Chg w _ [] _› rfl rfl rfl rfl rfl ?_; intro b81 w8 hS8; (try clear hS7); (try clear hS71))) | (guard_target = wpList _ _ _ (Oper.mk _ (Op.build _ _) _ _ _ none :: _) _ _; refine wl_build2 (cells := ndV ⟨some ⟨b81, 0, none⟩, 1⟩ ⟨none, 0⟩ ⟨some ⟨bk, 0, none⟩, 2⟩ (node2 y 2 3)) rfl rfl rfl rfl rfl ?_) | (go_at_call 15; refine (HLay.out _ _ _ ⟨.inr ⟨b81, 0, rfl, cellsAt_blk (hS8.get 0 rfl) _ rfl⟩, .inl rfl, .inr ⟨bk, 0, rfl, cellsAt_blk (hS8.get 1 rfl) _ rfl⟩⟩).mono ?_; rintro e w9 ⟨rfl, hB9⟩; have hS9 := hS8.bel hB9; clear hS8) | ((first | (guard_target = wpList _ _ _ (Oper.mk _ (Op.load 28 _) _ _ _ none :: _) _ _) | (guard_target = wpList _ _ _ (Oper.mk _ (Op.load 28 _) _ _ _ (some _) :: _) _ _; (fail_if_success (fail_if_success go_big_want)); refine wl_unguard rfl ?_)); first | refine wl_load1_2 hS9 rfl rfl rfl rfl ?_ | refine wl_load1_2 hSa rfl rfl rfl rfl ?_ | refine wl_load1_3 hSb rfl rfl rfl rfl ?_ | refine wl_load1_4 hSc rfl rfl rfl rfl ?_) | (go_at_call 16; refine (HNw.out _ _ _ _ _ _ hS9.tail.tail.tail.ownL).mono ?_; rintro e w10 ⟨A, c, rfl, hB10⟩; have hSa := hS9.after3 hB10; clear hS9 hB10) | ((first | (guard_target = wpList _ _ _ (Oper.mk _ (Op.load 28 _) _ _ _ none :: _) _ _) | (guard_target = wpList _ _ _ (Oper.mk _ (Op.load 28 _) _ _ _ (some _) :: _) _ _; (fail_if_success (fail_if_success go_big_want)); refine wl_unguard rfl ?_)); first | refine wl_load1_2 hSb rfl rfl rfl rfl ?_ | refine wl_load1_2 hSc rfl rfl rfl rfl ?_ | refine wl_load1_2 hSd rfl rfl rfl rfl ?_ | refine wl_load1_2 hSe rfl rfl rfl rfl ?_) | (go_at_call 18; refine (HSnd.out _ _ _ _ _ _ hSa.tail.tail.tail.ownL).mono ?_; rintro e w11 ⟨be1, rfl, hB11⟩; rw [errV0]; have hSb := hSa.pure hB11; rw [HEL.out] at hSb; clear hSa hB11) | (go_at_call 19; refine (HPgs.out _ _ _ _ _ _ hSb.tail.tail.tail.ownL).mono ?_; rintro e w12 ⟨Bp, cp, be2, rfl, hB12⟩; rw [errV0]; have hSc := hSb.pure hB12; rw [HEL.out] at hSc; clear hSb hB12) | (go_at_call 20; refine (HDep.out _ _ _ _ _ _ hSc.tail.tail.tail.ownL).mono ?_; rintro e w13 ⟨be3, rfl, hB13⟩; rw [errV0]; have hSd := hSc.pure hB13; rw [HEL.out] at hSd; clear hSc hB13) | (go_at_call 21; refine (HCom.out _ _ _ _ _ _ hSd.tail.tail.tail.ownL).mono ?_; rintro e w14 ⟨rfl, hB14⟩; have hSe := hSd.after3 hB14; clear hSd hB14) | (go_at_call 22; refine (HWh.out _ _ _ _ hSe.tail.tail.tail.ownL).mono ?_; rintro e w15 ⟨be5, rfl, hB15⟩; rw [errV0]; have hSf := hSe.pure hB15; clear hSe hB15) | (go_at_call 17; refine (HE.out _).mono ?_; rintro e w' ⟨rfl, rfl⟩))
  go_ret
  exact ⟨rfl, hSf.below⟩
end Go.Dyn
namespace Go.Proofs.YtgnkmahdcomjcaaGreatDoor
open Go Go.ChangeShapes Go.WideShapes Go.RowKit Go.Dyn
set_option maxRecDepth 100000
theorem own : ownKnob Tryz.prog.godebug = none := by kernel_rfl
theorem et : Tryz.prog.globalNamed "errors.errorType" = some 0 := by kernel_rfl
theorem rt : (Tryz.prog.cutTypes.find? (·.1 == "internal/reflectlite.rtype")).map (·.2) = some 195 := by kernel_rfl
theorem oneRow : ((List.range 291).filter fun t => Tryz.prog.rowNamed t [101, 114, 114, 111, 114]) = [25] := by kernel_rfl
theorem tsize : Tryz.prog.types.size = 291 := by kernel_rfl
/-- What the condition gives a walk: the variable's one cell. -/
theorem handle_of_laid {W : World} (h : laidMetH Tryz.prog [("errors.errorType", Rows.laid_errors_errorType)] W) : GV W := by
  have h' : laidMet Tryz.prog [] W ∧ handlesMet Tryz.prog [("errors.errorType", Rows.laid_errors_errorType)] W := h
  obtain ⟨name, u, ty, e1, e2, e3, e4, e5⟩ := h'.2 _ (List.mem_singleton.2 rfl)
  have en : name = [101, 114, 114, 111, 114] := (Option.some.inj e1).symm
  subst en
  obtain rfl := Option.some.inj (rt.symm.trans e2)
  have hm : ty ∈ (List.range 291).filter fun t => Tryz.prog.rowNamed t [101, 114, 114, 111, 114] := List.mem_filter.2 ⟨List.mem_range.2 (by rw [← tsize]; exact e3), e4⟩
  rw [oneRow] at hm
  obtain rfl := List.mem_singleton.1 hm
  have hh : typeHandle Tryz.prog 25 = hd 25 := by kernel_rfl
  rw [hh] at e5
  have := World.var?_cell et e5 0
  unfold GV
  simpa using this
/-- A world that meets the condition. -/
noncomputable def laidWorld (os : Os) : World :=
  let w0 := World.holding Tryz.prog os ⟨#[], #[], []⟩
  { w0 with heap := w0.heap.modify 0 fun
      | .cells _ t frozen => .cells #[.iface 195 (.agg #[hd 25])] t frozen
      | o => o }
theorem laidWorld_met (os : Os) (args : Array Value) : laidMetH Tryz.prog [("errors.errorType", Rows.laid_errors_errorType)] ((laidWorld os).forCall (fun _ _ => 0) ⟨#[], args, []⟩).memory :=
  laidMetH_of_parts (laidMet_nil _ _) (by kernel_rfl)
theorem wf_u8 {n : Int} (h : (Lit.int .u8 n).wf = true) : ∃ k : Nat, n = (k : Int) ∧ k < 256 := by
  have h2 : (Lit.int .u8 n).wf = (decide (0 ≤ n) && decide (n ≤ 255)) := rfl
  rw [h2] at h
  simp only [Bool.and_eq_true, decide_eq_true_eq] at h
  exact ⟨n.toNat, by omega, by omega⟩
theorem CheckWrong_any (a b c how : Nat) (ha : a < 256) (hb : b < 256) (hc : c < 256) (hh : how < 256) (w : World) (hg : GV w) :
    Calls Tryz.prog 3 #[.int .u8 (a : Int), .int .u8 (b : Int), .int .u8 (c : Int), .int .u8 (how : Int)] w fun e w' => e = .returned (.bool true) ∧ Below w.heap.size w w' := by
  have hx : (a : Int) % 50 = ((a % 50 : Nat) : Int) := by omega
  have hy : 100 + (b : Int) % 50 = ((100 + b % 50 : Nat) : Int) := by omega
  have hm : 3 + (c : Int) % 5 = ((3 + c % 5 : Nat) : Int) := by omega
  have h5 : (how : Int) % 5 = 0 ∨ (how : Int) % 5 = 1 ∨ (how : Int) % 5 = 2 ∨ (how : Int) % 5 = 3 ∨ (how : Int) % 5 = 4 := by omega
  rcases h5 with h | h | h | h | h
  · exact CW_0 a b c how _ _ _ hx hy hm ha hb hc hh h w hg
  · exact CW_1 a b c how _ _ _ hx hy hm ha hb hc hh h w hg
  · exact CW_2 a b c how _ _ _ hx hy hm ha hb hc hh h w hg
  · exact CW_3 a b c how _ _ _ hx hy hm ha hb hc hh h w hg
  · exact CW_4 a b c how _ _ _ hx hy hm ha hb hc hh h w hg
theorem law_lifted (os : Os) (started : os.Started) (H : Type) (enc : TypeId × Value → H) :
    ReturnsInHanded {} Tryz.checked os 3 .any (fun w args => (Rows.checkWrongSpec.pre enc Tryz.prog Tryz.f3 [] false w args ∧ laidMetH Tryz.prog [("errors.errorType", Rows.laid_errors_errorType)] w) ∧ sizedMet enc Tryz.prog Tryz.f3 (OpenSpec.ofChange Rows.checkWrongSpec) false w args)
      (Rows.checkWrongSpec.post enc Tryz.prog Tryz.f3 false true false false) := by
  refine returnsInHanded_of_change_and (C := Tryz.checked) (X := fun w _ => laidMetH Tryz.prog [("errors.errorType", Rows.laid_errors_errorType)] w) (fun _ _ _ hh h => h.of_heap hh) own started (by kernel_rfl) Tryz.func3
    (ChangeSpec.witness_at (enc := enc) (C := Tryz.checked) (os := os) (X := fun w _ => laidMetH Tryz.prog [("errors.errorType", Rows.laid_errors_errorType)] w) false (laidWorld os) #[.int .u8 0, .int .u8 0, .int .u8 0, .int .u8 0] 8 rfl (by kernel_rfl) (by kernel_rfl) (by kernel_rfl) (by kernel_rfl) (by kernel_rfl) (laidWorld_met os _)) ?_
  intro W base args ds gs before hval0 hW _ _ hL _
  have hval : ∀ (j : Nat) t v, Tryz.f3.params[j]? = some t → args[j]? = some v → Value.okWide Tryz.prog W .any base t v := hval0
  have hW' := hW
  obtain ⟨p, q, hA0, hV0, rfl, hfz, hnd⟩ := hW
  have hA : DataW.TrodAll enc Tryz.prog W 0 (fun _ => true) true Tryz.f3.params.toList args.toList ds p := hA0
  have hV : DataW.TrodVars enc Tryz.prog W (fun _ => true) [] gs q := hV0
  rw [Tryz.params3] at hA hval
  obtain ⟨v0, v1, v2, v3, d0, d1, d2, d3, p0, p1, p2, p3, rfl, rfl, rfl, h0, h1, h2, h3⟩ := trodAll_four hA
  obtain ⟨n0, rfl, rfl, rfl, hw0⟩ := open_int Tryz.underlying5 (hval 0 5 v0 rfl rfl) h0
  obtain ⟨n1, rfl, rfl, rfl, hw1⟩ := open_int Tryz.underlying5 (hval 1 5 v1 rfl rfl) h1
  obtain ⟨n2, rfl, rfl, rfl, hw2⟩ := open_int Tryz.underlying5 (hval 2 5 v2 rfl rfl) h2
  obtain ⟨n3, rfl, rfl, rfl, hw3⟩ := open_int Tryz.underlying5 (hval 3 5 v3 rfl rfl) h3
  have hg := handle_of_laid hL
  obtain ⟨rfl, rfl⟩ : gs = [] ∧ q = [] := by
    cases gs with
    | nil => exact ⟨rfl, hV⟩
    | cons g r => exact absurd hV (by intro h; cases h)
  obtain ⟨a, rfl, ha⟩ := wf_u8 hw0
  obtain ⟨b, rfl, hb⟩ := wf_u8 hw1
  obtain ⟨c, rfl, hc⟩ := wf_u8 hw2
  obtain ⟨how, rfl, hh⟩ := wf_u8 hw3
  have e1 : Rows.checkWrongSpec.fn H ([.lit (.int .u8 (a : Int)), .lit (.int .u8 (b : Int)), .lit (.int .u8 (c : Int)), .lit (.int .u8 (how : Int))] ++ []) = { results := [.lit (.bool true)], args := [.lit (.int .u8 (a : Int)), .lit (.int .u8 (b : Int)), .lit (.int .u8 (c : Int)), .lit (.int .u8 (how : Int))] } := rfl
  refine (CheckWrong_any a b c how ha hb hc hh W hg).mono fun e W' ⟨he, hB⟩ => ?_
  subst he
  refine ⟨_, rfl, _, _, _, [], [], [], hW', ?_, ?_, ?_, hB.frame _, fun h => by cases h⟩
  · rw [e1]; exact trodAll_mk1 (shut_bool Tryz.underlying4 true)
  · rw [e1]; exact trodAll_mk4 (shut_int Tryz.underlying5 hw0) (shut_int Tryz.underlying5 hw1) (shut_int Tryz.underlying5 hw2) (shut_int Tryz.underlying5 hw3)
  · rw [e1]; rfl
theorem checkWrong_holds : Rows.CheckWrongSaid :=
  OpenClaim.holds_of_wide 3 Tryz.f3 rfl rfl rfl rfl rfl rfl rfl ⟨rfl, rfl, rfl, rfl, rfl⟩ rfl rfl rfl rfl rfl (by kernel_rfl) Tryz.func3 (by kernel_rfl)
    (of_decide_eq_true (by kernel_rfl)) (by unfold Func.isWrapper; rw [if_neg (of_decide_eq_false (by kernel_rfl))]; exact ⟨rfl, rfl⟩)
    (fun os started H enc _ => law_lifted os started H enc)
theorem CheckWrong_card : Rows.CheckWrongCardSaid :=
  Claim7.holds_tied_plain_at .later [] [.handle] true (true, "2d6681ad05b437cb0d5cbf9b05decc72387cee5631fe409e3b0d65692266b791") true
    checkWrong_holds (fun _ h => by cases h) (by kernel_rfl) (fun _ h => by cases h) checkWrong_row_tie rfl ⟨rfl, rfl⟩ (by kernel_rfl) rfl
    (fun f fn hf hfn => by
      obtain rfl : f = 3 := Option.some.inj ((show Tryz.prog.funcNamed "dynamo/dynamolaw11.CheckWrong" = some 3 by kernel_rfl).symm.trans hf) |>.symm
      obtain rfl : fn = Tryz.f3 := (Option.some.inj (Tryz.func3.symm.trans hfn)).symm
      exact ⟨by kernel_rfl, fun j t ht => by
        rw [Tryz.params3] at ht
        have hm : t ∈ [5, 5, 5, 5] := by simpa using Array.mem_of_getElem? ht
        have hall : ([5, 5, 5, 5].all fun u => !Tryz.prog.wantsStandIn u) = true := by kernel_rfl
        exact (show Tryz.prog.wantsStandIn t = false by simpa using List.all_eq_true.1 hall t hm)⟩)
    (by kernel_rfl)
end Go.Proofs.YtgnkmahdcomjcaaGreatDoor
