/- Part of the proof that CheckWrong returns true, whatever the four bytes; tied to the program's own text (part 11 of 14) -/
import Derived.Test.YtgnkmahdcomjcaaGreatDoorCW10
set_option linter.unusedVariables false
set_option linter.unusedSimpArgs false
namespace Go.Dyn
open Go Go.RowKit Go.Proofs
set_option maxRecDepth 20000
set_option maxHeartbeats 1000000
theorem Chg.mid1 {w0 w : World} {F : List Nat} {x : It} {E L : List It} (h : Chg w0 w F (E ++ (x :: L))) : Chg w0 w F (x :: (E ++ L)) := h.perm List.perm_middle
theorem Chg.mid2 {w0 w : World} {F : List Nat} {x y : It} {E L : List It} (h : Chg w0 w F (E ++ (x :: y :: L))) : Chg w0 w F (x :: y :: (E ++ L)) := h.perm (List.perm_middle.trans (List.perm_middle.cons x))
theorem Chg.swap {w0 w : World} {F : List Nat} {x y : It} {L : List It} (h : Chg w0 w F (x :: y :: L)) : Chg w0 w F (y :: x :: L) := h.perm (List.Perm.swap y x L)
theorem NdR.of_all {w0 w : World} {F : List Nat} {M : List It} {x y z : Sl} {n : Nd} (h : Chg w0 w F M) (hs : ∀ it ∈ ndL x y z n, it ∈ M) : NdR w x y z n :=
  ⟨SlR.of_sl (h.all _ (hs _ (List.mem_cons_self ..))), SlR.of_sl (h.all _ (hs (slIt 1 9 y.a n.vals.length y.c (strsV n.vals)) (by simp [ndL]))), SlR.of_sl (h.all _ (hs (slIt 1 3 z.a n.kids.length z.c (intsV n.kids)) (by simp [ndL])))⟩
def leafF (lvl depth : Nat) : Nat × Nat := if lvl ≠ 0 ∧ lvl ≠ depth then (2, lvl) else (0, depth)
theorem check_leaf {p l bm lvl depth : Nat} {L : List It} {F : List Nat} {w0 w : World} (hS : Chg w0 w F (blk l (lookV p bm lvl) 130 :: L)) : Calls Tryz.prog 124 #[ptr l, .int .i64 (depth : Int)] w fun e w' =>
    ∃ be, e = .returned (errV (leafF lvl depth).1 be) ∧ Chg w0 w' F (blk l (lookV p bm (leafF lvl depth).2) 130 :: (errL (leafF lvl depth).1 be ++ L)) := by
  have HW := Lib.hid check_wrong
  have Hl : Hid ((lookV p bm lvl)[2]? = some (.int .i64 (lvl : Int))) := Lib.hid rfl
  have Hset : Hid ((lookV p bm lvl).setIfInBounds 2 (.int .i64 (depth : Int)) = lookV p bm depth) := Lib.hid rfl
  by_cases h0 : lvl = 0
  · have HF : leafF lvl depth = (0, depth) := by simp [leafF, h0]
    rw [HF]
    subst h0
    have e1 : (((0 : Nat) : Int) != 0) = false := rfl
    generalize hlv : lookV p bm 0 = lv at *
    have Hsz : Hid (2 < lv.size) := Lib.hid (by rw [← hlv]; simp [lookV])
    generalize lookV p bm depth = lv2 at *
    clear hlv
    go_enter Tryz.func124, Tryz.ntmps124
    go_wp2_with (first | ((first | (guard_target = wpList _ _ _ (Oper.mk _ (Op.load 3 _) _ _ _ none :: _) _ _) | (guard_target = wpList _ _ _ (Oper.mk _ (Op.load 3 _) _ _ _ (some _) :: _) _ _; (fail_if_success (fail_if_success go_big_want)); refine wl_unguard rfl ?_)); refine wl_load1_0 hS rfl rfl rfl Hl.out ?_) | (guard_target = wpList _ _ _ (Oper.mk _ (Op.store 3 _ _) _ _ _ none :: _) _ _; refine wl_store1_0 (v := .int .i64 (depth : Int)) hS rfl rfl rfl rfl rfl Hsz.out ?_; intro w1 hS1; rw [Hset.out] at hS1))
    go_ret
    exact ⟨0, rfl, hS1⟩
  · have e1 : ((lvl : Int) != 0) = true := by simp; omega
    by_cases h1 : lvl = depth
    · have HF : leafF lvl depth = (0, depth) := by simp [leafF, h1]
      rw [HF]
      subst h1
      have e2 : ((lvl : Int) != (lvl : Int)) = false := by simp
      generalize hlv : lookV p bm lvl = lv at *
      have Hsz : Hid (2 < lv.size) := Lib.hid (by rw [← hlv]; simp [lookV])
      clear hlv
      go_enter Tryz.func124, Tryz.ntmps124
      go_wp2_with (first | ((first | (guard_target = wpList _ _ _ (Oper.mk _ (Op.load 3 _) _ _ _ none :: _) _ _) | (guard_target = wpList _ _ _ (Oper.mk _ (Op.load 3 _) _ _ _ (some _) :: _) _ _; (fail_if_success (fail_if_success go_big_want)); refine wl_unguard rfl ?_)); refine wl_load1_0 hS rfl rfl rfl Hl.out ?_) | (guard_target = wpList _ _ _ (Oper.mk _ (Op.store 3 _ _) _ _ _ none :: _) _ _; refine wl_store1_0 (v := .int .i64 (lvl : Int)) hS rfl rfl rfl rfl rfl Hsz.out ?_; intro w1 hS1; rw [Hset.out] at hS1))
      go_ret
      exact ⟨0, rfl, hS1⟩
    · have HF : leafF lvl depth = (2, lvl) := by simp [leafF, h0, h1]
      rw [HF]
      have e2 : ((lvl : Int) != (depth : Int)) = true := by simp; omega
      generalize lookV p bm lvl = lv at *
      go_enter Tryz.func124, Tryz.ntmps124
      go_wp2_with (first | ((first | (guard_target = wpList _ _ _ (Oper.mk _ (Op.load 3 _) _ _ _ none :: _) _ _) | (guard_target = wpList _ _ _ (Oper.mk _ (Op.load 3 _) _ _ _ (some _) :: _) _ _; (fail_if_success (fail_if_success go_big_want)); refine wl_unguard rfl ?_)); refine wl_load1_0 hS rfl rfl rfl Hl.out ?_) | (go_at_call 65; refine (HW.out _).mono ?_; rintro e w1 ⟨b, rfl, hE⟩; have hS1 := (hS.pure hE).mid1))
      go_ret
      exact ⟨b, rfl, hS1⟩
/-- What is promised of a look at a page. -/
def PageOk (PL : List It) (p l bm : Nat) (g : Nat → Nat → Nat → LkS → Nat × LkS) (depth : Nat) : Prop :=
  ∀ (i a b : Nat) (st : LkS) (w0 w : World) (L : List It), Own w0 PL → Chg w0 w [] (blk l (lookV p bm st.lvl) 130 :: setIt bm (mI st.met) :: L) →
    Calls Tryz.prog 97 #[ptr l, .int .i64 (i : Int), .int .i64 (depth : Int), .int .i64 (a : Int), .int .i64 (b : Int)] w fun e w' =>
      ∃ be, e = .returned (errV (g i a b st).1 be) ∧ Chg w0 w' [] (blk l (lookV p bm (g i a b st).2.lvl) 130 :: setIt bm (mI (g i a b st).2.met) :: (errL (g i a b st).1 be ++ L))
theorem edges_length (n : Nd) (a b : Nat) : (edges n a b).length = n.keys.length + 2 := by simp [edges]
theorem edges_Concat {n : Nd} {x : Sl} {a b ba bb bs : Nat} {w : World} (h1 : (blk ba #[.int .i64 (a : Int)] 3).ok w) (h2 : (blk bb #[.int .i64 (b : Int)] 3).ok w) (h3 : (blk bs #[.slice (some ⟨ba, 0, none⟩) 1 1, .slice x.a n.keys.length x.c, .slice (some ⟨bb, 0, none⟩) 1 1] 31).ok w)
    (hk : SlR w x.a (intsV n.keys)) (hk1 : 1 ≤ n.keys.length) (hk7 : n.keys.length ≤ 7) :
    Calls Tryz.prog 141 #[.slice (some ⟨bs, 0, none⟩) 3 3] w fun e w' => ∃ A c, e = .returned (.slice A (n.keys.length + 2) c) ∧ Chg w w' [] [slIt 1 3 A (n.keys.length + 2) c (intsV (edges n a b))] := by
  have hN : ccN [(⟨some ⟨ba, 0, none⟩, 1⟩, [a]), (x, n.keys), (⟨some ⟨bb, 0, none⟩, 1⟩, [b])] = n.keys.length + 2 := by simp [ccN]; omega
  have := slices_ConcatI (B := some ⟨bs, 0, none⟩) (cB := 3) (xs := [(⟨some ⟨ba, 0, none⟩, 1⟩, [a]), (x, n.keys), (⟨some ⟨bb, 0, none⟩, 1⟩, [b])]) (w := w) (.inr ⟨bs, 0, rfl, cellsAt_blk h3 _ rfl⟩) (fun y hy => by
    rcases List.mem_cons.1 hy with rfl | hy
    · exact ⟨.inr ⟨ba, 0, rfl, cellsAt_blk h1 _ rfl⟩, by simp⟩
    rcases List.mem_cons.1 hy with rfl | hy
    · exact ⟨hk, hk1⟩
    rcases List.mem_cons.1 hy with rfl | hy
    · exact ⟨.inr ⟨bb, 0, rfl, cellsAt_blk h2 _ rfl⟩, by simp⟩
    · cases hy) (by simp) (by simp) (by rw [hN]; omega)
  rw [hN] at this
  exact this
theorem check_kids {PL : List It} {p l bm : Nat} {g : Nat → Nat → Nat → LkS → Nat × LkS} {depth : Nat} (hG : PageOk PL p l bm g (depth + 1)) (hd : depth ≤ 100) {n : Nd} (hr : n.innerOk) (hk7 : n.keys.length ≤ 7) {x y z : Sl} {a b : Nat} {st : LkS} {w0 w : World} {L : List It}
    (hO : Own w0 PL) (hS : Chg w0 w [] (blk l (lookV p bm st.lvl) 130 :: setIt bm (mI st.met) :: L)) (hn : ∀ it ∈ ndL x y z n, it ∈ L) :
    Calls Tryz.prog 125 #[ptr l, .agg (ndV x y z n), .int .i64 (depth : Int), .int .i64 (a : Int), .int .i64 (b : Int)] w fun e w' =>
      ∃ be, e = .returned (errV (lookK g (kidsL n a b) st).1 be) ∧ Chg w0 w' [] (blk l (lookV p bm (lookK g (kidsL n a b) st).2.lvl) 130 :: setIt bm (mI (lookK g (kidsL n a b) st).2.met) :: (errL (lookK g (kidsL n a b) st).1 be ++ L)) := by
  obtain ⟨_, hk1, hkl, _⟩ := hr
  have hk8 : n.kids.length ≤ 8 := by omega
  have hk0 : 0 < n.kids.length := by omega
  have Hkl := Lib.hid hkl
  clear hkl
  obtain ⟨xa, xc⟩ := x
  obtain ⟨za, zc⟩ := z
  obtain ⟨bk, rfl⟩ : ∃ bk, za = some ⟨bk, 0, none⟩ := by
    rcases slIt_form (hS.all (slIt 1 3 za n.kids.length zc (intsV n.kids)) (by simp only [List.mem_cons]; exact .inr (.inr (hn _ (by simp [ndL]))))) with ⟨_, h0, _⟩ | h
    · omega
    · exact h
  have HZ0 : Hid ((ndV ⟨xa, xc⟩ y ⟨some ⟨bk, 0, none⟩, zc⟩ n)[0]? = some (.slice xa n.keys.length xc)) := Lib.hid rfl
  have HZ2 : Hid ((ndV ⟨xa, xc⟩ y ⟨some ⟨bk, 0, none⟩, zc⟩ n)[2]? = some (.slice (some ⟨bk, 0, none⟩) n.kids.length zc)) := Lib.hid rfl
  have Hn := Lib.hid hn
  have HC := Lib.hid (fun (w : World) (ba bb bs b6 : Nat) (hS4 : Chg w0 w [] (blk bs #[.slice (some ⟨ba, 0, none⟩) 1 1, .slice xa n.keys.length xc, .slice (some ⟨bb, 0, none⟩) 1 1] 31 :: blk bb #[.int .i64 (b : Int)] 3 :: blk ba #[.int .i64 (a : Int)] 3 :: blk b6 (ndV ⟨xa, xc⟩ y ⟨some ⟨bk, 0, none⟩, zc⟩ n) 34 :: blk l (lookV p bm st.lvl) 130 :: setIt bm (mI st.met) :: L)) => edges_Concat (a := a) (b := b) (hS4.get 2 rfl) (hS4.get 1 rfl) hS4.head (NdR.of_all (x := ⟨xa, xc⟩) (y := y) (z := ⟨some ⟨bk, 0, none⟩, zc⟩) hS4 (fun it hi => by simp [Hn.out it hi])).keys hk1 hk7)
  clear hn
  generalize hnv : ndV ⟨xa, xc⟩ y ⟨some ⟨bk, 0, none⟩, zc⟩ n = nv at *
  clear hnv
  go_enter Tryz.func125, Tryz.ntmps125
  go_wp2_with (first | (guard_target = wpList _ _ _ (Oper.mk _ (Op.box _ _) _ _ _ none :: _) _ _; refine wl_box_agg rfl hS rfl rfl rfl ?_; intro b6 w1 hS1; clear hS) | ((first | (guard_target = wpList _ _ _ (Oper.mk _ (Op.load 31 _) _ _ _ none :: _) _ _) | (guard_target = wpList _ _ _ (Oper.mk _ (Op.load 31 _) _ _ _ (some _) :: _) _ _; (fail_if_success (fail_if_success go_big_want)); refine wl_unguard rfl ?_)); first | (refine wl_load1 (v := .slice xa n.keys.length xc) 1 hS2 rfl rfl rfl rfl HZ0.out ?_) | (refine wl_load1 (v := .slice (some ⟨bk, 0, none⟩) n.kids.length zc) 4 hS5 rfl rfl rfl rfl HZ2.out ?_)) | (guard_target = wpList _ _ _ (Oper.mk _ (Op.buildSlice _ _ _) _ _ _ none :: _) _ _; first | (refine wl_buildSlice1 (v := .int .i64 (a : Int)) (cs := #[.int .i64 (a : Int)]) hS1 rfl rfl rfl rfl rfl ?_; intro ba w2 hS2; clear hS1) | (refine wl_buildSlice1 (v := .int .i64 (b : Int)) (cs := #[.int .i64 (b : Int)]) hS2 rfl rfl rfl rfl rfl ?_; intro bb w3 hS3; clear hS2)) | (go_at_call 141; have hS4 := hS3.alloc #[.slice (some ⟨ba, 0, none⟩) 1 1, .slice xa n.keys.length xc, .slice (some ⟨bb, 0, none⟩) 1 1] 31; refine (HC.out _ _ _ _ _ hS4).mono ?_; rintro e w5 ⟨A, c, rfl, hE⟩; have hS5 := hS4.pure hE; clear hS3))
  generalize w3.heap.size = bs at *
  obtain ⟨bE, rfl⟩ : ∃ bE, A = some ⟨bE, 0, none⟩ := by
    rcases slIt_form (hS5.all (slIt 1 3 A (n.keys.length + 2) c (intsV (edges n a b))) (by simp)) with ⟨_, h0, _⟩ | h
    · omega
    · exact h
  obtain ⟨E, hE2⟩ : ∃ E, E = [slIt 1 3 (some ⟨bE, 0, none⟩) (n.keys.length + 2) c (intsV (edges n a b)), blk bs #[.slice (some ⟨ba, 0, none⟩) 1 1, .slice xa n.keys.length xc, .slice (some ⟨bb, 0, none⟩) 1 1] 31, blk bb #[.int .i64 (b : Int)] 3, blk ba #[.int .i64 (a : Int)] 3, blk b6 nv 34] := ⟨_, rfl⟩
  have hS6 : Chg w0 w5 [] (blk l (lookV p bm st.lvl) 130 :: setIt bm (mI st.met) :: (E ++ L)) := by rw [hE2]; exact Chg.mid2 hS5
  have HN : Hid (∀ it ∈ ndL ⟨xa, xc⟩ y ⟨some ⟨bk, 0, none⟩, zc⟩ n, it ∈ E ++ L) := Lib.hid (fun it hi => by simp [Hn.out it hi])
  have HEd : Hid (slIt 1 3 (some ⟨bE, 0, none⟩) (n.keys.length + 2) c (intsV (edges n a b)) ∈ E ++ L) := Lib.hid (by rw [hE2]; simp)
  clear hS5 hE hE2 HC
  go_loopw [26] (fun i w' => ∃ (k : Nat) (stk : LkS), k ≤ n.kids.length ∧ i = .int .i64 k ∧ lookK g ((kidsL n a b).take k) st = (0, stk) ∧ Chg w0 w' [] (blk l (lookV p bm stk.lvl) 130 :: setIt bm (mI stk.met) :: (E ++ L))) (fun i _ => n.kids.length - (intOf i).toNat)
  case atStart => exact ⟨0, st, by omega, rfl, rfl, hS6⟩
  case round =>
    obtain ⟨k, stk, hk, rfl, hlk, hS⟩ := hrel
    clear hS6
    by_cases hlt : k < n.kids.length
    · have hT := Lib.hid (lookK_take g n a b k hlt st stk hlk)
      have hSt := Lib.hid (lookK_stop g (kidsL n a b) (k + 1) st)
      have hc := slIt_cell (hS.all (slIt 1 3 (some ⟨bk, 0, none⟩) n.kids.length zc (intsV n.kids)) (by simp only [List.mem_cons]; exact .inr (.inr (HN.out _ (by simp [ndL]))))) k (by simpa using hlt)
      have hcv : (intsV n.kids)[k]'(by simpa using hlt) = .int .i64 (n.kids[k] : Int) := by simp [intsV]
      rw [hcv] at hc
      clear hcv
      have HE : Hid (∀ (w' : World) (q : Nat) (hq : q < (edges n a b).length), Chg w0 w' [] (blk l (lookV p bm stk.lvl) 130 :: setIt bm (mI stk.met) :: (E ++ L)) → w'.cell? ⟨bE, q, none⟩ = some (.int .i64 ((edges n a b).getD q 0 : Nat))) := Lib.hid (fun w' q hq hw => by
        have h2 := hw.all _ (by simp only [List.mem_cons]; exact .inr (.inr HEd.out))
        rw [slIt_cell h2 q (by simpa using hq)]
        simp [intsV, hq])
      have HE0 := Lib.hid (fun (w' : World) => HE.out w' k (by rw [edges_length]; have := Hkl.out; omega))
      have HE1 := Lib.hid (fun (w' : World) => HE.out w' (k + 1) (by rw [edges_length]; have := Hkl.out; omega))
      clear HE hlk
      have hb1 : (k : Int) < (n.keys.length : Int) + 2 := by have := Hkl.out; omega
      have hb2 : (k : Int) + 1 < (n.keys.length : Int) + 2 := by have := Hkl.out; omega
      have HGk := Lib.hid (fun (w : World) (hS : Chg w0 w [] (blk l (lookV p bm stk.lvl) 130 :: setIt bm (mI stk.met) :: (E ++ L))) => hG n.kids[k] ((edges n a b).getD k 0) ((edges n a b).getD (k + 1) 0) stk w0 w (E ++ L) hO hS)
      generalize (edges n a b).getD k 0 = ea at *
      generalize (edges n a b).getD (k + 1) 0 = eb at *
      generalize n.kids[k] = kid at *
      by_cases he : (g kid ea eb stk).1 = 0
      · have HV : Hid (∀ be, errV (g kid ea eb stk).1 be = .nilIface) := Lib.hid (fun be => by rw [he]; rfl)
        have HL0 : Hid (∀ be, errL (g kid ea eb stk).1 be = []) := Lib.hid (fun be => by rw [he]; rfl)
        have Hr : Hid (lookK g ((kidsL n a b).take (k + 1)) st = (0, (g kid ea eb stk).2)) := Lib.hid (by rw [hT.out, ← he])
        clear he
        generalize g kid ea eb stk = r at *
        go_wp2
        refine wp_region_quiet_tail 13 (fun w' => Chg w0 w' [] (blk l (lookV p bm stk.lvl) 130 :: setIt bm (mI stk.met) :: (E ++ L))) (by kernel_rfl) (by kernel_rfl) hS.drew ?_
        simp only [List.take_succ_cons, List.take_zero, List.drop_succ_cons, List.drop_zero]
        (go_big_quiet_want; go_big_quiet_op; first | go_big_quiet_on | (refine ⟨_, fun _ _ => rfl, ?_⟩; go_big_quiet_on))
        (go_big_quiet_want; go_big_quiet_op; first | go_big_quiet_on | (refine ⟨_, fun _ _ => rfl, ?_⟩; go_big_quiet_on))
        (go_big_quiet_want; go_big_quiet_op; first | go_big_quiet_on | (refine ⟨_, fun _ _ => rfl, ?_⟩; go_big_quiet_on))
        (go_big_quiet_want; go_big_quiet_op; first | go_big_quiet_on | (refine ⟨_, fun _ _ => rfl, ?_⟩; go_big_quiet_on))
        (go_big_quiet_want; go_big_quiet_op; first | go_big_quiet_on | (refine ⟨_, fun _ _ => rfl, ?_⟩; go_big_quiet_on))
        (go_big_quiet_want; go_big_quiet_op; first | go_big_quiet_on | (refine ⟨_, fun _ _ => rfl, ?_⟩; go_big_quiet_on))
        (go_big_quiet_want; go_big_quiet_op; first | go_big_quiet_on | (refine ⟨_, fun _ _ => rfl, ?_⟩; go_big_quiet_on))
        (go_big_quiet_want; refine quiet_load1 rfl rfl (fun w' hw' => HE0.out w' hw') ?_; go_frame; go_big_quiet_on)
        (go_big_quiet_want; go_big_quiet_op; first | go_big_quiet_on | (refine ⟨_, fun _ _ => rfl, ?_⟩; go_big_quiet_on))
        (go_big_quiet_want; go_big_quiet_op; first | go_big_quiet_on | (refine ⟨_, fun _ _ => rfl, ?_⟩; go_big_quiet_on))
        (go_big_quiet_want; go_big_quiet_op; first | go_big_quiet_on | (refine ⟨_, fun _ _ => rfl, ?_⟩; go_big_quiet_on))
        (go_big_quiet_want; go_big_quiet_op; first | go_big_quiet_on | (refine ⟨_, fun _ _ => rfl, ?_⟩; go_big_quiet_on))
        (go_big_quiet_want; refine quiet_load1 rfl rfl (fun w' hw' => HE1.out w' hw') ?_; go_frame; go_big_quiet_on)
        refine wpQuiet_nil ?_
        intro w2 hS2
        clear hS
        go_wp2_with (first | (go_at_call 97; refine (HGk.out _ hS2).mono ?_; rintro e w3 ⟨be, rfl, hS3⟩; rw [HV.out be]; rw [HL0.out be] at hS3; clear hS2))
        go_roundw
        case rel => exact ⟨k + 1, r.2, by omega, by go_num, Hr.out, hS3⟩
        case measure => simp [intOf]; omega
      · have HV : Hid (∀ be, errV (g kid ea eb stk).1 be = .iface 150 (ptr be)) := Lib.hid (fun be => by unfold errV; rw [if_neg he])
        have Hr : Hid (lookK g (kidsL n a b) st = g kid ea eb stk) := Lib.hid (by rw [hSt.out (by rw [hT.out]; exact he), hT.out])
        clear he hT hSt
        generalize g kid ea eb stk = r at *
        go_wp2
        refine wp_region_quiet_tail 13 (fun w' => Chg w0 w' [] (blk l (lookV p bm stk.lvl) 130 :: setIt bm (mI stk.met) :: (E ++ L))) (by kernel_rfl) (by kernel_rfl) hS.drew ?_
        simp only [List.take_succ_cons, List.take_zero, List.drop_succ_cons, List.drop_zero]
        (go_big_quiet_want; go_big_quiet_op; first | go_big_quiet_on | (refine ⟨_, fun _ _ => rfl, ?_⟩; go_big_quiet_on))
        (go_big_quiet_want; go_big_quiet_op; first | go_big_quiet_on | (refine ⟨_, fun _ _ => rfl, ?_⟩; go_big_quiet_on))
        (go_big_quiet_want; go_big_quiet_op; first | go_big_quiet_on | (refine ⟨_, fun _ _ => rfl, ?_⟩; go_big_quiet_on))
        (go_big_quiet_want; go_big_quiet_op; first | go_big_quiet_on | (refine ⟨_, fun _ _ => rfl, ?_⟩; go_big_quiet_on))
        (go_big_quiet_want; go_big_quiet_op; first | go_big_quiet_on | (refine ⟨_, fun _ _ => rfl, ?_⟩; go_big_quiet_on))
        (go_big_quiet_want; go_big_quiet_op; first | go_big_quiet_on | (refine ⟨_, fun _ _ => rfl, ?_⟩; go_big_quiet_on))
        (go_big_quiet_want; go_big_quiet_op; first | go_big_quiet_on | (refine ⟨_, fun _ _ => rfl, ?_⟩; go_big_quiet_on))
        (go_big_quiet_want; refine quiet_load1 rfl rfl (fun w' hw' => HE0.out w' hw') ?_; go_frame; go_big_quiet_on)
        (go_big_quiet_want; go_big_quiet_op; first | go_big_quiet_on | (refine ⟨_, fun _ _ => rfl, ?_⟩; go_big_quiet_on))
        (go_big_quiet_want; go_big_quiet_op; first | go_big_quiet_on | (refine ⟨_, fun _ _ => rfl, ?_⟩; go_big_quiet_on))
        (go_big_quiet_want; go_big_quiet_op; first | go_big_quiet_on | (refine ⟨_, fun _ _ => rfl, ?_⟩; go_big_quiet_on))
        (go_big_quiet_want; go_big_quiet_op; first | go_big_quiet_on | (refine ⟨_, fun _ _ => rfl, ?_⟩; go_big_quiet_on))
        (go_big_quiet_want; refine quiet_load1 rfl rfl (fun w' hw' => HE1.out w' hw') ?_; go_frame; go_big_quiet_on)
        refine wpQuiet_nil ?_
        intro w2 hS2
        clear hS
        go_wp2_with (first | (go_at_call 97; refine (HGk.out _ hS2).mono ?_; rintro e w3 ⟨be, rfl, hS3⟩; rw [HV.out be]; clear hS2))
        go_ret
        rw [Hr.out]
        refine ⟨be, by rw [HV.out be]; rfl, hS3.sub ?_⟩
        exact ((List.Sublist.append (List.Sublist.refl _) (List.sublist_append_right _ _)).cons_cons _).cons_cons _
    · have : k = n.kids.length := by omega
      subst this
      have HF : Hid (lookK g (kidsL n a b) st = (0, stk)) := Lib.hid (by rw [← hlk, List.take_of_length_le (by rw [kidsL_length]; omega)])
      go_wp2
      go_ret
      rw [HF.out]
      exact ⟨0, rfl, hS.sub (((List.sublist_append_right _ _).cons_cons _).cons_cons _)⟩
end Go.Dyn
namespace Go.Dyn
open Go Go.RowKit Go.Proofs
set_option maxRecDepth 20000
set_option maxHeartbeats 1000000
theorem page_met {p l bm i depth a b : Nat} {st : LkS} {w0 w : World} {L : List It} (hS : Chg w0 w [] (blk l (lookV p bm st.lvl) 130 :: setIt bm (mI st.met) :: L)) (hm : i ∈ st.met) :
    Calls Tryz.prog 97 #[ptr l, .int .i64 (i : Int), .int .i64 (depth : Int), .int .i64 (a : Int), .int .i64 (b : Int)] w fun e w' =>
      ∃ be, e = .returned (errV 2 be) ∧ Chg w0 w' [] (blk l (lookV p bm st.lvl) 130 :: setIt bm (mI st.met) :: (errL 2 be ++ L)) := by
  have HW := Lib.hid check_wrong
  have Hm := Lib.hid (decide_eq_true (mem_mI.2 hm))
  clear hm
  go_enter Tryz.func97, Tryz.ntmps97
  go_wp2_with (first | ((first | (guard_target = wpList _ _ _ (Oper.mk _ (Op.load 128 _) _ _ _ none :: _) _ _) | (guard_target = wpList _ _ _ (Oper.mk _ (Op.load 128 _) _ _ _ (some _) :: _) _ _; (fail_if_success (fail_if_success go_big_want)); refine wl_unguard rfl ?_)); refine wl_load1_0 ‹Chg _ _ _ _› rfl rfl rfl rfl ?_) | (guard_target = wpList _ _ _ (Oper.mk _ (Op.lookup _ _ _ _) _ _ _ none :: _) _ _; refine wl_lookupSet rfl rfl rfl rfl (hS.get 1 rfl) Hm.out ?_) | (go_at_call 65; refine (HW.out _).mono ?_; rintro e w1 ⟨be, rfl, hE⟩; have hS1 := (hS.pure hE).mid2))
  go_ret
  exact ⟨be, rfl, hS1⟩
theorem page_deep {p l bm i a b : Nat} {st : LkS} {w0 w : World} {L : List It} (hS : Chg w0 w [] (blk l (lookV p bm st.lvl) 130 :: setIt bm (mI st.met) :: L)) (hm : i ∉ st.met) :
    Calls Tryz.prog 97 #[ptr l, .int .i64 (i : Int), .int .i64 (13 : Nat), .int .i64 (a : Int), .int .i64 (b : Int)] w fun e w' =>
      ∃ be, e = .returned (errV 2 be) ∧ Chg w0 w' [] (blk l (lookV p bm st.lvl) 130 :: setIt bm (mI st.met) :: (errL 2 be ++ L)) := by
  have HW := Lib.hid check_wrong
  have Hm := Lib.hid (decide_eq_false (fun h => hm (mem_mI.1 h)))
  clear hm
  go_enter Tryz.func97, Tryz.ntmps97
  go_wp2_with (first | ((first | (guard_target = wpList _ _ _ (Oper.mk _ (Op.load 128 _) _ _ _ none :: _) _ _) | (guard_target = wpList _ _ _ (Oper.mk _ (Op.load 128 _) _ _ _ (some _) :: _) _ _; (fail_if_success (fail_if_success go_big_want)); refine wl_unguard rfl ?_)); refine wl_load1_0 ‹Chg _ _ _ _› rfl rfl rfl rfl ?_) | (guard_target = wpList _ _ _ (Oper.mk _ (Op.lookup _ _ _ _) _ _ _ none :: _) _ _; refine wl_lookupSet rfl rfl rfl rfl (hS.get 1 rfl) Hm.out ?_) | (go_at_call 65; refine (HW.out _).mono ?_; rintro e w1 ⟨be, rfl, hE⟩; have hS1 := (hS.pure hE).mid2))
  go_ret
  exact ⟨be, rfl, hS1⟩
theorem page_none {p d bf c l bm i depth a b : Nat} {A : Option Addr} {X : Pgr} {st : LkS} {w0 w : World} {L : List It} (hO : Own w0 (pagerL p d bf A c X)) (hS : Chg w0 w [] (blk l (lookV p bm st.lvl) 130 :: setIt bm (mI st.met) :: L)) (hm : i ∉ st.met) (hd : depth ≤ 12) (hb : X.busy.has i = false) :
    Calls Tryz.prog 97 #[ptr l, .int .i64 (i : Int), .int .i64 (depth : Int), .int .i64 (a : Int), .int .i64 (b : Int)] w fun e w' =>
      ∃ be, e = .returned (errV 4 be) ∧ Chg w0 w' [] (blk l (lookV p bm st.lvl) 130 :: setIt bm (mI (st.met ++ [i])) :: (errL 4 be ++ L)) := by
  have hm2 : (i : Int) ∉ mI st.met := fun h => hm (mem_mI.1 h)
  have Hm := Lib.hid (decide_eq_false hm2)
  have Hm2 := Lib.hid hm2
  have Hsn := Lib.hid (mI_snoc st.met i)
  have e1 : decide (12 < (depth : Int)) = false := by simp; omega
  have HL := Lib.hid (fun (w : World) (hO : Own w (pagerL p d bf A c X)) => pager_Load_no hO (i : Int) (by simpa [BSet.hasI] using hb))
  have HO := Lib.hid hO
  clear hm hm2 hb hO
  generalize pagerL p d bf A c X = PL at *
  generalize mI (st.met ++ [i]) = m2 at *
  go_enter Tryz.func97, Tryz.ntmps97
  go_wp2_with (first | ((first | (guard_target = wpList _ _ _ (Oper.mk _ (Op.load 128 _) _ _ _ none :: _) _ _) | (guard_target = wpList _ _ _ (Oper.mk _ (Op.load 128 _) _ _ _ (some _) :: _) _ _; (fail_if_success (fail_if_success go_big_want)); refine wl_unguard rfl ?_)); refine wl_load1_0 ‹Chg _ _ _ _› rfl rfl rfl rfl ?_) | (guard_target = wpList _ _ _ (Oper.mk _ (Op.lookup _ _ _ _) _ _ _ none :: _) _ _; refine wl_lookupSet rfl rfl rfl rfl (hS.get 1 rfl) Hm.out ?_) | (guard_target = wpList _ _ _ (Oper.mk _ (Op.mapUpdate _ _ _ _) _ _ _ none :: _) _ _; refine wl_updateSet 1 hS rfl rfl rfl rfl rfl rfl rfl Hm2.out ?_; intro w1 hS1; rw [Hsn.out] at hS1; have hS2 : Chg w0 w1 [] (blk l (lookV p bm st.lvl) 130 :: setIt bm m2 :: L) := hS1.swap; clear hS hS1) | ((first | (guard_target = wpList _ _ _ (Oper.mk _ (Op.load 28 _) _ _ _ none :: _) _ _) | (guard_target = wpList _ _ _ (Oper.mk _ (Op.load 28 _) _ _ _ (some _) :: _) _ _; (fail_if_success (fail_if_success go_big_want)); refine wl_unguard rfl ?_)); refine wl_load1_0 ‹Chg _ _ _ _› rfl rfl rfl rfl ?_) | (go_at_call 107; refine (HL.out _ (HO.out.keep hS2)).mono ?_; rintro e w3 ⟨be, rfl, hE⟩; have hS3 := (hS2.pure hE).mid2; clear hS2))
  go_ret
  exact ⟨be, rfl, hS3⟩
theorem Chg.mid3 {w0 w : World} {F : List Nat} {x y z : It} {E N L : List It} (h : Chg w0 w F (E ++ (x :: y :: z :: (N ++ L)))) : Chg w0 w F (y :: z :: (E ++ L)) :=
  (h.mid1.tail.mid2).sub (((List.Sublist.append (List.Sublist.refl _) (List.sublist_append_right _ _)).cons_cons _).cons_cons _)
theorem page_bad {p d bf c l bm i depth a b : Nat} {A : Option Addr} {X : Pgr} {n : Nd} {st : LkS} {w0 w : World} {L : List It} (hO : Own w0 (pagerL p d bf A c X)) (hX : X.fit) (hT : PgAt X i n) (hS : Chg w0 w [] (blk l (lookV p bm st.lvl) 130 :: setIt bm (mI st.met) :: L)) (hm : i ∉ st.met) (hd : depth ≤ 12) (hbad : n.bad (X.used.has i) depth a b = true) :
    Calls Tryz.prog 97 #[ptr l, .int .i64 (i : Int), .int .i64 (depth : Int), .int .i64 (a : Int), .int .i64 (b : Int)] w fun e w' =>
      ∃ be, e = .returned (errV 2 be) ∧ Chg w0 w' [] (blk l (lookV p bm st.lvl) 130 :: setIt bm (mI (st.met ++ [i])) :: (errL 2 be ++ L)) := by
  obtain ⟨hi, hb, h, hr⟩ := hT; have hm2 : (i : Int) ∉ mI st.met := fun h => hm (mem_mI.1 h); have Hm := Lib.hid (decide_eq_false hm2); have Hm2 := Lib.hid hm2; have Hsn := Lib.hid (mI_snoc st.met i); have e1 : decide (12 < (depth : Int)) = false := by (simp; omega)
  have HL : Hid (∀ (w : World) (hO : Own w (pagerL p d bf A c X)), Calls Tryz.prog 107 #[ptr p, .int .i64 (i : Int)] w fun e w' => e = .returned (.tuple #[strL n.bytes, .nilIface]) ∧ Below w.heap.size w w') := Lib.hid (fun w hO => pager_Load_ok hO hX.up hX.high (by have := hX.loose; omega) i hi hb ⟨n.bytes.toArray⟩ (Nd.bytes_length h) hr); have HR := Lib.hid (fun w => node_Read (w := w) h)
  have HU : Hid (∀ (w : World) (hO : Own w (pagerL p d bf A c X)), Calls Tryz.prog 27 #[ptr p] w fun e w' => e = .returned (.agg X.used.enc) ∧ Below w.heap.size w w') := Lib.hid (fun w hO => pager_Used (hO.all (blk p (pgrV d X.s X.fresh X.gone) 111) (by simp [pagerL]))); have HH := Lib.hid (fun w => bits_Has X.used i w (by have := hX.high; omega)); have hk7 := h.1.2.2; have HI := Lib.hid (fun (x y z : Sl) (w : World) (hn : NdR w x y z n) => check_within hn hk7 a b)
  have HW := Lib.hid check_wrong; have HLf := Lib.hid (fun (x y z : Sl) w => node_Leaf x y z n w); have HO := Lib.hid hO; have HZ := Lib.hid (fun (x y z : Sl) => show (ndV x y z n).size = 3 from rfl); have HZ0 := Lib.hid (fun (x y z : Sl) => show (ndV x y z n)[0]? = some (.slice x.a n.keys.length x.c) from rfl); have HZ1 := Lib.hid (fun (x y z : Sl) => ndV_one x y z n); clear hm hm2
  clear hO hr h
  generalize pagerL p d bf A c X = PL at *
  generalize mI (st.met ++ [i]) = m2 at *
  generalize strL n.bytes = bts at *
  have hc : X.used.has i = false ∨ (X.used.has i = true ∧ withinB n a b = false) ∨ (X.used.has i = true ∧ withinB n a b = true ∧ decide (1 < (depth : Int)) = true ∧ decide ((n.keys.length : Int) < 3) = true) := by
    simp only [Nd.bad, Bool.or_eq_true, Bool.not_eq_true', Bool.and_eq_true, decide_eq_true_eq] at hbad ⊢
    cases h1 : X.used.has i <;> cases h2 : withinB n a b <;> simp_all
    omega
  clear hbad
  rcases hc with h1 | ⟨h1, h2⟩ | ⟨h1, h2, h3, h4⟩
  · rw [h1] at HH
    go_enter Tryz.func97, Tryz.ntmps97
    go_wp2_with (first | ((first | (guard_target = wpList _ _ _ (Oper.mk _ (Op.load 128 _) _ _ _ none :: _) _ _) | (guard_target = wpList _ _ _ (Oper.mk _ (Op.load 128 _) _ _ _ (some _) :: _) _ _; (fail_if_success (fail_if_success go_big_want)); refine wl_unguard rfl ?_)); refine wl_load1_0 ‹Chg _ _ _ _› rfl rfl rfl rfl ?_) | (guard_target = wpList _ _ _ (Oper.mk _ (Op.lookup _ _ _ _) _ _ _ none :: _) _ _; refine wl_lookupSet rfl rfl rfl rfl (hS.get 1 rfl) Hm.out ?_) | (guard_target = wpList _ _ _ (Oper.mk _ (Op.mapUpdate _ _ _ _) _ _ _ none :: _) _ _; refine wl_updateSet 1 hS rfl rfl rfl rfl rfl rfl rfl Hm2.out ?_; intro w1 hS1; rw [Hsn.out] at hS1; have hS2 : Chg w0 w1 [] (blk l (lookV p bm st.lvl) 130 :: setIt bm m2 :: L) := hS1.swap; clear hS hS1) | ((first | (guard_target = wpList _ _ _ (Oper.mk _ (Op.load 28 _) _ _ _ none :: _) _ _) | (guard_target = wpList _ _ _ (Oper.mk _ (Op.load 28 _) _ _ _ (some _) :: _) _ _; (fail_if_success (fail_if_success go_big_want)); refine wl_unguard rfl ?_)); first | refine wl_load1_0 ‹Chg _ _ _ _› rfl rfl rfl rfl ?_ | refine wl_load1_1 ‹Chg _ _ _ _› rfl rfl rfl rfl ?_) | (go_at_call 107; refine (HL.out _ (HO.out.keep hS2)).mono ?_; rintro e w3 ⟨rfl, hB3⟩; have hS3 := hS2.bel hB3; clear hS2) | (go_at_call 108; refine (HR.out _).mono ?_; rintro e w4 ⟨x, y, z, rfl, hB4⟩; have hS4 := (hS3.pure hB4).mid2; have HN := Lib.hid (HZ.out x y z); have HN0 := Lib.hid (HZ0.out x y z); have HN1 := Lib.hid (HZ1.out x y z); have HIx := Lib.hid (HI.out x y z); have HLx := Lib.hid (HLf.out x y z); clear hS3 hB4) | (guard_target = wpList _ _ _ (Oper.mk _ (Op.alloc 34) _ _ _ none :: _) _ _; refine wl_alloc_agg rfl hS4 rfl rfl ?_; intro b13 w5 hS5; clear hS4) | (guard_target = wpList _ _ _ (Oper.mk _ (Op.store 34 _ _) _ _ _ none :: _) _ _; refine wl_storew_0 hS5 rfl rfl rfl rfl HN.out HN1.out rfl ?_; intro w6 hS6; clear hS5) | (go_at_call 27; refine (HU.out _ (HO.out.keep hS6)).mono ?_; rintro e w7 ⟨rfl, hB7⟩; have hS7 := hS6.bel hB7; clear hS6) | (go_at_call 64; refine (HH.out _).mono ?_; rintro e w8 ⟨rfl, hB8⟩; have hS8 := hS7.bel hB8; clear hS7) | ((first | (guard_target = wpList _ _ _ (Oper.mk _ (Op.load 34 _) _ _ _ none :: _) _ _) | (guard_target = wpList _ _ _ (Oper.mk _ (Op.load 34 _) _ _ _ (some _) :: _) _ _; (fail_if_success (fail_if_success go_big_want)); refine wl_unguard rfl ?_)); refine wl_loadw_0 ‹Chg _ _ _ _› rfl rfl rfl HN.out ?_) | (go_at_call 123; refine (HIx.out _ (NdR.of_all hS8 (fun it hi => by simp [hi]))).mono ?_; rintro e w9 ⟨rfl, hB9⟩; have hS9 := hS8.bel hB9; clear hS8) | ((first | (guard_target = wpList _ _ _ (Oper.mk _ (Op.load 31 _) _ _ _ none :: _) _ _) | (guard_target = wpList _ _ _ (Oper.mk _ (Op.load 31 _) _ _ _ (some _) :: _) _ _; (fail_if_success (fail_if_success go_big_want)); refine wl_unguard rfl ?_)); refine wl_load1_0 ‹Chg _ _ _ _› rfl rfl rfl HN0.out ?_) | (go_at_call 65; refine (HW.out _).mono ?_; rintro e w10 ⟨be, rfl, hE⟩; have hS10 := (Chg.pure ‹Chg w0 _ [] _› hE).mid3))
    go_ret
    exact ⟨be, rfl, hS10⟩
  · rw [h1] at HH
    rw [h2] at HI
    go_enter Tryz.func97, Tryz.ntmps97
    go_wp2_with (first | ((first | (guard_target = wpList _ _ _ (Oper.mk _ (Op.load 128 _) _ _ _ none :: _) _ _) | (guard_target = wpList _ _ _ (Oper.mk _ (Op.load 128 _) _ _ _ (some _) :: _) _ _; (fail_if_success (fail_if_success go_big_want)); refine wl_unguard rfl ?_)); refine wl_load1_0 ‹Chg _ _ _ _› rfl rfl rfl rfl ?_) | (guard_target = wpList _ _ _ (Oper.mk _ (Op.lookup _ _ _ _) _ _ _ none :: _) _ _; refine wl_lookupSet rfl rfl rfl rfl (hS.get 1 rfl) Hm.out ?_) | (guard_target = wpList _ _ _ (Oper.mk _ (Op.mapUpdate _ _ _ _) _ _ _ none :: _) _ _; refine wl_updateSet 1 hS rfl rfl rfl rfl rfl rfl rfl Hm2.out ?_; intro w1 hS1; rw [Hsn.out] at hS1; have hS2 : Chg w0 w1 [] (blk l (lookV p bm st.lvl) 130 :: setIt bm m2 :: L) := hS1.swap; clear hS hS1) | ((first | (guard_target = wpList _ _ _ (Oper.mk _ (Op.load 28 _) _ _ _ none :: _) _ _) | (guard_target = wpList _ _ _ (Oper.mk _ (Op.load 28 _) _ _ _ (some _) :: _) _ _; (fail_if_success (fail_if_success go_big_want)); refine wl_unguard rfl ?_)); first | refine wl_load1_0 ‹Chg _ _ _ _› rfl rfl rfl rfl ?_ | refine wl_load1_1 ‹Chg _ _ _ _› rfl rfl rfl rfl ?_) | (go_at_call 107; refine (HL.out _ (HO.out.keep hS2)).mono ?_; rintro e w3 ⟨rfl, hB3⟩; have hS3 := hS2.bel hB3; clear hS2) | (go_at_call 108; refine (HR.out _).mono ?_; rintro e w4 ⟨x, y, z, rfl, hB4⟩; have hS4 := (hS3.pure hB4).mid2; have HN := Lib.hid (HZ.out x y z); have HN0 := Lib.hid (HZ0.out x y z); have HN1 := Lib.hid (HZ1.out x y z); have HIx := Lib.hid (HI.out x y z); have HLx := Lib.hid (HLf.out x y z); clear hS3 hB4) | (guard_target = wpList _ _ _ (Oper.mk _ (Op.alloc 34) _ _ _ none :: _) _ _; refine wl_alloc_agg rfl hS4 rfl rfl ?_; intro b13 w5 hS5; clear hS4) | (guard_target = wpList _ _ _ (Oper.mk _ (Op.store 34 _ _) _ _ _ none :: _) _ _; refine wl_storew_0 hS5 rfl rfl rfl rfl HN.out HN1.out rfl ?_; intro w6 hS6; clear hS5) | (go_at_call 27; refine (HU.out _ (HO.out.keep hS6)).mono ?_; rintro e w7 ⟨rfl, hB7⟩; have hS7 := hS6.bel hB7; clear hS6) | (go_at_call 64; refine (HH.out _).mono ?_; rintro e w8 ⟨rfl, hB8⟩; have hS8 := hS7.bel hB8; clear hS7) | ((first | (guard_target = wpList _ _ _ (Oper.mk _ (Op.load 34 _) _ _ _ none :: _) _ _) | (guard_target = wpList _ _ _ (Oper.mk _ (Op.load 34 _) _ _ _ (some _) :: _) _ _; (fail_if_success (fail_if_success go_big_want)); refine wl_unguard rfl ?_)); refine wl_loadw_0 ‹Chg _ _ _ _› rfl rfl rfl HN.out ?_) | (go_at_call 123; refine (HIx.out _ (NdR.of_all hS8 (fun it hi => by simp [hi]))).mono ?_; rintro e w9 ⟨rfl, hB9⟩; have hS9 := hS8.bel hB9; clear hS8) | ((first | (guard_target = wpList _ _ _ (Oper.mk _ (Op.load 31 _) _ _ _ none :: _) _ _) | (guard_target = wpList _ _ _ (Oper.mk _ (Op.load 31 _) _ _ _ (some _) :: _) _ _; (fail_if_success (fail_if_success go_big_want)); refine wl_unguard rfl ?_)); refine wl_load1_0 ‹Chg _ _ _ _› rfl rfl rfl HN0.out ?_) | (go_at_call 65; refine (HW.out _).mono ?_; rintro e w10 ⟨be, rfl, hE⟩; have hS10 := (Chg.pure ‹Chg w0 _ [] _› hE).mid3))
    go_ret
    exact ⟨be, rfl, hS10⟩
  · rw [h1] at HH
    rw [h2] at HI
    go_enter Tryz.func97, Tryz.ntmps97
    go_wp2_with (first | ((first | (guard_target = wpList _ _ _ (Oper.mk _ (Op.load 128 _) _ _ _ none :: _) _ _) | (guard_target = wpList _ _ _ (Oper.mk _ (Op.load 128 _) _ _ _ (some _) :: _) _ _; (fail_if_success (fail_if_success go_big_want)); refine wl_unguard rfl ?_)); refine wl_load1_0 ‹Chg _ _ _ _› rfl rfl rfl rfl ?_) | (guard_target = wpList _ _ _ (Oper.mk _ (Op.lookup _ _ _ _) _ _ _ none :: _) _ _; refine wl_lookupSet rfl rfl rfl rfl (hS.get 1 rfl) Hm.out ?_) | (guard_target = wpList _ _ _ (Oper.mk _ (Op.mapUpdate _ _ _ _) _ _ _ none :: _) _ _; refine wl_updateSet 1 hS rfl rfl rfl rfl rfl rfl rfl Hm2.out ?_; intro w1 hS1; rw [Hsn.out] at hS1; have hS2 : Chg w0 w1 [] (blk l (lookV p bm st.lvl) 130 :: setIt bm m2 :: L) := hS1.swap; clear hS hS1) | ((first | (guard_target = wpList _ _ _ (Oper.mk _ (Op.load 28 _) _ _ _ none :: _) _ _) | (guard_target = wpList _ _ _ (Oper.mk _ (Op.load 28 _) _ _ _ (some _) :: _) _ _; (fail_if_success (fail_if_success go_big_want)); refine wl_unguard rfl ?_)); first | refine wl_load1_0 ‹Chg _ _ _ _› rfl rfl rfl rfl ?_ | refine wl_load1_1 ‹Chg _ _ _ _› rfl rfl rfl rfl ?_) | (go_at_call 107; refine (HL.out _ (HO.out.keep hS2)).mono ?_; rintro e w3 ⟨rfl, hB3⟩; have hS3 := hS2.bel hB3; clear hS2) | (go_at_call 108; refine (HR.out _).mono ?_; rintro e w4 ⟨x, y, z, rfl, hB4⟩; have hS4 := (hS3.pure hB4).mid2; have HN := Lib.hid (HZ.out x y z); have HN0 := Lib.hid (HZ0.out x y z); have HN1 := Lib.hid (HZ1.out x y z); have HIx := Lib.hid (HI.out x y z); have HLx := Lib.hid (HLf.out x y z); clear hS3 hB4) | (guard_target = wpList _ _ _ (Oper.mk _ (Op.alloc 34) _ _ _ none :: _) _ _; refine wl_alloc_agg rfl hS4 rfl rfl ?_; intro b13 w5 hS5; clear hS4) | (guard_target = wpList _ _ _ (Oper.mk _ (Op.store 34 _ _) _ _ _ none :: _) _ _; refine wl_storew_0 hS5 rfl rfl rfl rfl HN.out HN1.out rfl ?_; intro w6 hS6; clear hS5) | (go_at_call 27; refine (HU.out _ (HO.out.keep hS6)).mono ?_; rintro e w7 ⟨rfl, hB7⟩; have hS7 := hS6.bel hB7; clear hS6) | (go_at_call 64; refine (HH.out _).mono ?_; rintro e w8 ⟨rfl, hB8⟩; have hS8 := hS7.bel hB8; clear hS7) | ((first | (guard_target = wpList _ _ _ (Oper.mk _ (Op.load 34 _) _ _ _ none :: _) _ _) | (guard_target = wpList _ _ _ (Oper.mk _ (Op.load 34 _) _ _ _ (some _) :: _) _ _; (fail_if_success (fail_if_success go_big_want)); refine wl_unguard rfl ?_)); refine wl_loadw_0 ‹Chg _ _ _ _› rfl rfl rfl HN.out ?_) | (go_at_call 123; refine (HIx.out _ (NdR.of_all hS8 (fun it hi => by simp [hi]))).mono ?_; rintro e w9 ⟨rfl, hB9⟩; have hS9 := hS8.bel hB9; clear hS8) | ((first | (guard_target = wpList _ _ _ (Oper.mk _ (Op.load 31 _) _ _ _ none :: _) _ _) | (guard_target = wpList _ _ _ (Oper.mk _ (Op.load 31 _) _ _ _ (some _) :: _) _ _; (fail_if_success (fail_if_success go_big_want)); refine wl_unguard rfl ?_)); refine wl_load1_0 ‹Chg _ _ _ _› rfl rfl rfl HN0.out ?_) | (go_at_call 65; refine (HW.out _).mono ?_; rintro e w10 ⟨be, rfl, hE⟩; have hS10 := (Chg.pure ‹Chg w0 _ [] _› hE).mid3))
    go_ret
    exact ⟨be, rfl, hS10⟩
theorem page_leaf {p d bf c l bm i depth a b : Nat} {A : Option Addr} {X : Pgr} {n : Nd} {st : LkS} {w0 w : World} {L : List It} (hO : Own w0 (pagerL p d bf A c X)) (hX : X.fit) (hT : PgAt X i n) (hS : Chg w0 w [] (blk l (lookV p bm st.lvl) 130 :: setIt bm (mI st.met) :: L)) (hm : i ∉ st.met) (hd : depth ≤ 12) (hok : n.bad (X.used.has i) depth a b = false) (hl : n.kids.length = 0) :
    Calls Tryz.prog 97 #[ptr l, .int .i64 (i : Int), .int .i64 (depth : Int), .int .i64 (a : Int), .int .i64 (b : Int)] w fun e w' =>
      ∃ be, e = .returned (errV (leafF st.lvl depth).1 be) ∧ Chg w0 w' [] (blk l (lookV p bm (leafF st.lvl depth).2) 130 :: setIt bm (mI (st.met ++ [i])) :: (errL (leafF st.lvl depth).1 be ++ L)) := by
  obtain ⟨hi, hb, h, hr⟩ := hT; have hm2 : (i : Int) ∉ mI st.met := fun h => hm (mem_mI.1 h); have Hm := Lib.hid (decide_eq_false hm2); have Hm2 := Lib.hid hm2; have Hsn := Lib.hid (mI_snoc st.met i); have e1 : decide (12 < (depth : Int)) = false := by (simp; omega)
  have HL : Hid (∀ (w : World) (hO : Own w (pagerL p d bf A c X)), Calls Tryz.prog 107 #[ptr p, .int .i64 (i : Int)] w fun e w' => e = .returned (.tuple #[strL n.bytes, .nilIface]) ∧ Below w.heap.size w w') := Lib.hid (fun w hO => pager_Load_ok hO hX.up hX.high (by have := hX.loose; omega) i hi hb ⟨n.bytes.toArray⟩ (Nd.bytes_length h) hr); have HR := Lib.hid (fun w => node_Read (w := w) h)
  have HU : Hid (∀ (w : World) (hO : Own w (pagerL p d bf A c X)), Calls Tryz.prog 27 #[ptr p] w fun e w' => e = .returned (.agg X.used.enc) ∧ Below w.heap.size w w') := Lib.hid (fun w hO => pager_Used (hO.all (blk p (pgrV d X.s X.fresh X.gone) 111) (by simp [pagerL]))); have HH := Lib.hid (fun w => bits_Has X.used i w (by have := hX.high; omega)); have hk7 := h.1.2.2; have HI := Lib.hid (fun (x y z : Sl) (w : World) (hn : NdR w x y z n) => check_within hn hk7 a b)
  have HW := Lib.hid check_wrong; have HLf := Lib.hid (fun (x y z : Sl) w => node_Leaf x y z n w); have HO := Lib.hid hO; have HZ := Lib.hid (fun (x y z : Sl) => show (ndV x y z n).size = 3 from rfl); have HZ0 := Lib.hid (fun (x y z : Sl) => show (ndV x y z n)[0]? = some (.slice x.a n.keys.length x.c) from rfl); have HZ1 := Lib.hid (fun (x y z : Sl) => ndV_one x y z n); clear hm hm2
  have HLF := Lib.hid (fun (w : World) (M : List It) (hS : Chg w0 w [] (blk l (lookV p bm st.lvl) 130 :: M)) => check_leaf (depth := depth) hS)
  have e0 : decide (n.kids.length = 0) = true := by simp [hl]
  rw [e0] at HLf
  have hc : X.used.has i = true ∧ withinB n a b = true ∧ (decide (1 < (depth : Int)) = false ∨ (decide (1 < (depth : Int)) = true ∧ decide ((n.keys.length : Int) < 3) = false)) := by
    simp only [Nd.bad, Bool.or_eq_false_iff, Bool.not_eq_false', Bool.and_eq_false_iff, decide_eq_false_iff_not, decide_eq_true_eq] at hok ⊢
    obtain ⟨⟨g1, g2⟩, g3⟩ := hok
    exact ⟨g1, g2, by omega⟩
  clear hok
  obtain ⟨h1, h2, h3⟩ := hc
  rw [h1] at HH
  rw [h2] at HI
  clear hO hr h e0 hl
  generalize pagerL p d bf A c X = PL at *
  generalize mI (st.met ++ [i]) = m2 at *
  generalize strL n.bytes = bts at *
  rcases h3 with h3 | ⟨h3, h4⟩
  all_goals
    go_enter Tryz.func97, Tryz.ntmps97
    go_wp2_with (first | ((first | (guard_target = wpList _ _ _ (Oper.mk _ (Op.load 128 _) _ _ _ none :: _) _ _) | (guard_target = wpList _ _ _ (Oper.mk _ (Op.load 128 _) _ _ _ (some _) :: _) _ _; (fail_if_success (fail_if_success go_big_want)); refine wl_unguard rfl ?_)); refine wl_load1_0 ‹Chg _ _ _ _› rfl rfl rfl rfl ?_) | (guard_target = wpList _ _ _ (Oper.mk _ (Op.lookup _ _ _ _) _ _ _ none :: _) _ _; refine wl_lookupSet rfl rfl rfl rfl (hS.get 1 rfl) Hm.out ?_) | (guard_target = wpList _ _ _ (Oper.mk _ (Op.mapUpdate _ _ _ _) _ _ _ none :: _) _ _; refine wl_updateSet 1 hS rfl rfl rfl rfl rfl rfl rfl Hm2.out ?_; intro w1 hS1; rw [Hsn.out] at hS1; have hS2 : Chg w0 w1 [] (blk l (lookV p bm st.lvl) 130 :: setIt bm m2 :: L) := hS1.swap; clear hS hS1) | ((first | (guard_target = wpList _ _ _ (Oper.mk _ (Op.load 28 _) _ _ _ none :: _) _ _) | (guard_target = wpList _ _ _ (Oper.mk _ (Op.load 28 _) _ _ _ (some _) :: _) _ _; (fail_if_success (fail_if_success go_big_want)); refine wl_unguard rfl ?_)); first | refine wl_load1_0 ‹Chg _ _ _ _› rfl rfl rfl rfl ?_ | refine wl_load1_1 ‹Chg _ _ _ _› rfl rfl rfl rfl ?_) | (go_at_call 107; refine (HL.out _ (HO.out.keep hS2)).mono ?_; rintro e w3 ⟨rfl, hB3⟩; have hS3 := hS2.bel hB3; clear hS2) | (go_at_call 108; refine (HR.out _).mono ?_; rintro e w4 ⟨x, y, z, rfl, hB4⟩; have hS4 := (hS3.pure hB4).mid2; have HN := Lib.hid (HZ.out x y z); have HN0 := Lib.hid (HZ0.out x y z); have HN1 := Lib.hid (HZ1.out x y z); have HIx := Lib.hid (HI.out x y z); have HLx := Lib.hid (HLf.out x y z); clear hS3 hB4) | (guard_target = wpList _ _ _ (Oper.mk _ (Op.alloc 34) _ _ _ none :: _) _ _; refine wl_alloc_agg rfl hS4 rfl rfl ?_; intro b13 w5 hS5; clear hS4) | (guard_target = wpList _ _ _ (Oper.mk _ (Op.store 34 _ _) _ _ _ none :: _) _ _; refine wl_storew_0 hS5 rfl rfl rfl rfl HN.out HN1.out rfl ?_; intro w6 hS6; clear hS5) | (go_at_call 27; refine (HU.out _ (HO.out.keep hS6)).mono ?_; rintro e w7 ⟨rfl, hB7⟩; have hS7 := hS6.bel hB7; clear hS6) | (go_at_call 64; refine (HH.out _).mono ?_; rintro e w8 ⟨rfl, hB8⟩; have hS8 := hS7.bel hB8; clear hS7) | ((first | (guard_target = wpList _ _ _ (Oper.mk _ (Op.load 34 _) _ _ _ none :: _) _ _) | (guard_target = wpList _ _ _ (Oper.mk _ (Op.load 34 _) _ _ _ (some _) :: _) _ _; (fail_if_success (fail_if_success go_big_want)); refine wl_unguard rfl ?_)); refine wl_loadw_0 ‹Chg _ _ _ _› rfl rfl rfl HN.out ?_) | (go_at_call 123; refine (HIx.out _ (NdR.of_all hS8 (fun it hi => by simp [hi]))).mono ?_; rintro e w9 ⟨rfl, hB9⟩; have hS9 := hS8.bel hB9; clear hS8) | ((first | (guard_target = wpList _ _ _ (Oper.mk _ (Op.load 31 _) _ _ _ none :: _) _ _) | (guard_target = wpList _ _ _ (Oper.mk _ (Op.load 31 _) _ _ _ (some _) :: _) _ _; (fail_if_success (fail_if_success go_big_want)); refine wl_unguard rfl ?_)); refine wl_load1_0 ‹Chg _ _ _ _› rfl rfl rfl HN0.out ?_) | (go_at_call 65; refine (HW.out _).mono ?_; rintro e w10 ⟨be, rfl, hE⟩; have hS10 := (Chg.pure ‹Chg w0 _ [] _› hE).mid3) | (go_at_call 52; refine (HLx.out _).mono ?_; rintro e w11 ⟨rfl, hB11⟩; have hS11 := Chg.bel ‹Chg w0 _ [] _› hB11) | (go_at_call 124; refine (HLF.out _ _ hS11.tail).mono ?_; rintro e w12 ⟨be, rfl, hS12⟩))
    go_ret
    exact ⟨be, rfl, ((hS12.tail.mid1.perm (List.Perm.refl _)) |> fun _ => hS12.perm (List.Perm.cons _ List.perm_middle)).sub (((List.Sublist.append (List.Sublist.refl _) (List.sublist_append_right _ _)).cons_cons _).cons_cons _)⟩
theorem page_kids {p d bf c l bm i depth a b : Nat} {A : Option Addr} {X : Pgr} {n : Nd} {st : LkS} {w0 w : World} {L : List It} {g : Nat → Nat → Nat → LkS → Nat × LkS} (hG : PageOk (pagerL p d bf A c X) p l bm g (depth + 1)) (hO : Own w0 (pagerL p d bf A c X)) (hX : X.fit) (hT : PgAt X i n) (hS : Chg w0 w [] (blk l (lookV p bm st.lvl) 130 :: setIt bm (mI st.met) :: L)) (hm : i ∉ st.met) (hd : depth ≤ 12) (hok : n.bad (X.used.has i) depth a b = false) (hl : n.kids.length ≠ 0) :
    Calls Tryz.prog 97 #[ptr l, .int .i64 (i : Int), .int .i64 (depth : Int), .int .i64 (a : Int), .int .i64 (b : Int)] w fun e w' =>
      ∃ be, e = .returned (errV (lookK g (kidsL n a b) ⟨st.met ++ [i], st.lvl⟩).1 be) ∧ Chg w0 w' [] (blk l (lookV p bm (lookK g (kidsL n a b) ⟨st.met ++ [i], st.lvl⟩).2.lvl) 130 :: setIt bm (mI (lookK g (kidsL n a b) ⟨st.met ++ [i], st.lvl⟩).2.met) :: (errL (lookK g (kidsL n a b) ⟨st.met ++ [i], st.lvl⟩).1 be ++ L)) := by
  obtain ⟨hi, hb, h, hr⟩ := hT; have hm2 : (i : Int) ∉ mI st.met := fun h => hm (mem_mI.1 h); have Hm := Lib.hid (decide_eq_false hm2); have Hm2 := Lib.hid hm2; have Hsn := Lib.hid (mI_snoc st.met i); have e1 : decide (12 < (depth : Int)) = false := by (simp; omega)
  have HL : Hid (∀ (w : World) (hO : Own w (pagerL p d bf A c X)), Calls Tryz.prog 107 #[ptr p, .int .i64 (i : Int)] w fun e w' => e = .returned (.tuple #[strL n.bytes, .nilIface]) ∧ Below w.heap.size w w') := Lib.hid (fun w hO => pager_Load_ok hO hX.up hX.high (by have := hX.loose; omega) i hi hb ⟨n.bytes.toArray⟩ (Nd.bytes_length h) hr); have HR := Lib.hid (fun w => node_Read (w := w) h)
  have HU : Hid (∀ (w : World) (hO : Own w (pagerL p d bf A c X)), Calls Tryz.prog 27 #[ptr p] w fun e w' => e = .returned (.agg X.used.enc) ∧ Below w.heap.size w w') := Lib.hid (fun w hO => pager_Used (hO.all (blk p (pgrV d X.s X.fresh X.gone) 111) (by simp [pagerL]))); have HH := Lib.hid (fun w => bits_Has X.used i w (by have := hX.high; omega)); have hk7 := h.1.2.2; have HI := Lib.hid (fun (x y z : Sl) (w : World) (hn : NdR w x y z n) => check_within hn hk7 a b)
  have HW := Lib.hid check_wrong; have HLf := Lib.hid (fun (x y z : Sl) w => node_Leaf x y z n w); have HO := Lib.hid hO; have HZ := Lib.hid (fun (x y z : Sl) => show (ndV x y z n).size = 3 from rfl); have HZ0 := Lib.hid (fun (x y z : Sl) => show (ndV x y z n)[0]? = some (.slice x.a n.keys.length x.c) from rfl); have HZ1 := Lib.hid (fun (x y z : Sl) => ndV_one x y z n); clear hm hm2
  have hin : n.innerOk := by
    rcases h.2 with h2 | h2
    · exact absurd (by rw [h2.1]; rfl) hl
    · exact h2
  have HKD := Lib.hid (fun (x y z : Sl) (w : World) (M : List It) (hS : Chg w0 w [] (blk l (lookV p bm st.lvl) 130 :: setIt bm (mI (st.met ++ [i])) :: (ndL x y z n ++ M))) => check_kids (st := ⟨st.met ++ [i], st.lvl⟩) (x := x) (y := y) (z := z) (a := a) (b := b) hG (by omega) hin hk7 hO hS (fun it hi => List.mem_append_left _ hi))
  have e0 : decide (n.kids.length = 0) = false := by simp; intro e; exact hl (by rw [e]; rfl)
  rw [e0] at HLf
  have hc : X.used.has i = true ∧ withinB n a b = true ∧ (decide (1 < (depth : Int)) = false ∨ (decide (1 < (depth : Int)) = true ∧ decide ((n.keys.length : Int) < 3) = false)) := by
    simp only [Nd.bad, Bool.or_eq_false_iff, Bool.not_eq_false', Bool.and_eq_false_iff, decide_eq_false_iff_not, decide_eq_true_eq] at hok ⊢
    obtain ⟨⟨g1, g2⟩, g3⟩ := hok
    exact ⟨g1, g2, by omega⟩
  clear hok
  obtain ⟨h1, h2, h3⟩ := hc
  rw [h1] at HH
  rw [h2] at HI
  clear hO hr h e0 hl hin hG
  generalize pagerL p d bf A c X = PL at *
  generalize lookK g (kidsL n a b) ⟨st.met ++ [i], st.lvl⟩ = r at *
  generalize mI (st.met ++ [i]) = m2 at *
  generalize strL n.bytes = bts at *
  rcases h3 with h3 | ⟨h3, h4⟩
  all_goals
    go_enter Tryz.func97, Tryz.ntmps97
    go_wp2_with (first | ((first | (guard_target = wpList _ _ _ (Oper.mk _ (Op.load 128 _) _ _ _ none :: _) _ _) | (guard_target = wpList _ _ _ (Oper.mk _ (Op.load 128 _) _ _ _ (some _) :: _) _ _; (fail_if_success (fail_if_success go_big_want)); refine wl_unguard rfl ?_)); refine wl_load1_0 ‹Chg _ _ _ _› rfl rfl rfl rfl ?_) | (guard_target = wpList _ _ _ (Oper.mk _ (Op.lookup _ _ _ _) _ _ _ none :: _) _ _; refine wl_lookupSet rfl rfl rfl rfl (hS.get 1 rfl) Hm.out ?_) | (guard_target = wpList _ _ _ (Oper.mk _ (Op.mapUpdate _ _ _ _) _ _ _ none :: _) _ _; refine wl_updateSet 1 hS rfl rfl rfl rfl rfl rfl rfl Hm2.out ?_; intro w1 hS1; rw [Hsn.out] at hS1; have hS2 : Chg w0 w1 [] (blk l (lookV p bm st.lvl) 130 :: setIt bm m2 :: L) := hS1.swap; clear hS hS1) | ((first | (guard_target = wpList _ _ _ (Oper.mk _ (Op.load 28 _) _ _ _ none :: _) _ _) | (guard_target = wpList _ _ _ (Oper.mk _ (Op.load 28 _) _ _ _ (some _) :: _) _ _; (fail_if_success (fail_if_success go_big_want)); refine wl_unguard rfl ?_)); first | refine wl_load1_0 ‹Chg _ _ _ _› rfl rfl rfl rfl ?_ | refine wl_load1_1 ‹Chg _ _ _ _› rfl rfl rfl rfl ?_) | (go_at_call 107; refine (HL.out _ (HO.out.keep hS2)).mono ?_; rintro e w3 ⟨rfl, hB3⟩; have hS3 := hS2.bel hB3; clear hS2) | (go_at_call 108; refine (HR.out _).mono ?_; rintro e w4 ⟨x, y, z, rfl, hB4⟩; have hS4 := (hS3.pure hB4).mid2; have HN := Lib.hid (HZ.out x y z); have HN0 := Lib.hid (HZ0.out x y z); have HN1 := Lib.hid (HZ1.out x y z); have HIx := Lib.hid (HI.out x y z); have HLx := Lib.hid (HLf.out x y z); clear hS3 hB4) | (guard_target = wpList _ _ _ (Oper.mk _ (Op.alloc 34) _ _ _ none :: _) _ _; refine wl_alloc_agg rfl hS4 rfl rfl ?_; intro b13 w5 hS5; clear hS4) | (guard_target = wpList _ _ _ (Oper.mk _ (Op.store 34 _ _) _ _ _ none :: _) _ _; refine wl_storew_0 hS5 rfl rfl rfl rfl HN.out HN1.out rfl ?_; intro w6 hS6; clear hS5) | (go_at_call 27; refine (HU.out _ (HO.out.keep hS6)).mono ?_; rintro e w7 ⟨rfl, hB7⟩; have hS7 := hS6.bel hB7; clear hS6) | (go_at_call 64; refine (HH.out _).mono ?_; rintro e w8 ⟨rfl, hB8⟩; have hS8 := hS7.bel hB8; clear hS7) | ((first | (guard_target = wpList _ _ _ (Oper.mk _ (Op.load 34 _) _ _ _ none :: _) _ _) | (guard_target = wpList _ _ _ (Oper.mk _ (Op.load 34 _) _ _ _ (some _) :: _) _ _; (fail_if_success (fail_if_success go_big_want)); refine wl_unguard rfl ?_)); refine wl_loadw_0 ‹Chg _ _ _ _› rfl rfl rfl HN.out ?_) | (go_at_call 123; refine (HIx.out _ (NdR.of_all hS8 (fun it hi => by simp [hi]))).mono ?_; rintro e w9 ⟨rfl, hB9⟩; have hS9 := hS8.bel hB9; clear hS8) | ((first | (guard_target = wpList _ _ _ (Oper.mk _ (Op.load 31 _) _ _ _ none :: _) _ _) | (guard_target = wpList _ _ _ (Oper.mk _ (Op.load 31 _) _ _ _ (some _) :: _) _ _; (fail_if_success (fail_if_success go_big_want)); refine wl_unguard rfl ?_)); refine wl_load1_0 ‹Chg _ _ _ _› rfl rfl rfl HN0.out ?_) | (go_at_call 65; refine (HW.out _).mono ?_; rintro e w10 ⟨be, rfl, hE⟩; have hS10 := (Chg.pure ‹Chg w0 _ [] _› hE).mid3) | (go_at_call 52; refine (HLx.out _).mono ?_; rintro e w11 ⟨rfl, hB11⟩; have hS11 := Chg.bel ‹Chg w0 _ [] _› hB11) | (go_at_call 125; refine (HKD.out _ _ _ _ _ hS11.tail).mono ?_; rintro e w12 ⟨be, rfl, hS12⟩))
    go_ret
    exact ⟨be, rfl, hS12.sub (((List.Sublist.append (List.Sublist.refl _) (List.sublist_append_right _ _)).cons_cons _).cons_cons _)⟩
theorem check_page {p d bf c l bm : Nat} {A : Option Addr} {X : Pgr} (hX : X.fit) {T : Nat → Option Nd} (hT : View X T) : ∀ f, f ≤ 12 → PageOk (pagerL p d bf A c X) p l bm (lookP T X.used.has f) (13 - f)
  | 0, _ => fun i a b st w0 w L hO hS => by
    simp only [lookP]
    by_cases hm : i ∈ st.met
    · exact page_met hS hm
    · exact page_deep hS hm
  | f + 1, hf => fun i a b st w0 w L hO hS => by
    have hG := check_page (p := p) (d := d) (bf := bf) (c := c) (l := l) (bm := bm) (A := A) hX hT f (by omega)
    have hdp : 13 - (f + 1) = 12 - f := by omega
    have hdp2 : 13 - f = 12 - f + 1 := by omega
    rw [hdp2] at hG
    rw [hdp]
    simp only [lookP]
    by_cases hm : i ∈ st.met
    · rw [if_pos hm]
      exact page_met hS hm
    · rw [if_neg hm]
      cases hTi : T i with
      | none => exact page_none hO hS hm (by omega) ((hT i).2 hTi)
      | some n =>
        have hP := (hT i).1 n hTi
        simp only
        cases hbad : n.bad (X.used.has i) (12 - f) a b
        · simp only [Bool.false_eq_true, ↓reduceIte]
          by_cases hl : n.kids.length = 0
          · rw [if_pos hl]
            have := page_leaf hO hX hP hS hm (by omega) hbad hl
            unfold leafF at this
            split <;> simp_all
          · rw [if_neg hl]
            exact page_kids hG hO hX hP hS hm (by omega) hbad hl
        · simp only [↓reduceIte]
          exact page_bad hO hX hP hS hm (by omega) hbad
end Go.Dyn
namespace Go.Dyn
open Go Go.RowKit Go.Proofs
set_option maxRecDepth 20000
set_option maxHeartbeats 1000000
theorem check_looked {p d bf c root : Nat} {A : Option Addr} {X : Pgr} {T : Nat → Option Nd} {w : World} (hO : Own w (pagerL p d bf A c X)) (hX : X.fit) (hT : View X T) :
    Calls Tryz.prog 61 #[ptr p, .int .i64 (root : Int)] w fun e w' =>
      ∃ l bm be, e = .returned (.tuple #[ptr l, errV (looked T X.used.has root).1 be]) ∧ Chg w w' [] (blk l (lookV p bm (looked T X.used.has root).2.lvl) 130 :: setIt bm (mI (looked T X.used.has root).2.met) :: (errL (looked T X.used.has root).1 be ++ [])) := by
  have hS0 := Chg.nil w []
  have HP := Lib.hid (fun (l bm : Nat) (w' : World) (hS : Chg w w' [] [blk l (lookV p bm 0) 130, setIt bm []]) => check_page (p := p) (l := l) (bm := bm) hX hT 12 (by omega) root 0 4294967296 ⟨[], 0⟩ w w' [] hO hS)
  have HLV := Lib.hid (fun bm => show lookV p bm 0 = #[ptr p, .map (some bm), .int .i64 0] from rfl)
  by_cases h0 : root = 0
  · subst h0
    have HR : Hid (looked T X.used.has 0 = (0, ⟨[], 0⟩)) := Lib.hid rfl
    rw [HR.out]
    clear HP HR hO hX hT
    go_enter Tryz.func61, Tryz.ntmps61
    go_wp2_with (first | (guard_target = wpList _ _ _ (Oper.mk _ (Op.makeMap _ _) _ _ _ none :: _) _ _; refine wl_makeSet hS0 rfl rfl ?_; intro bm w1 hS1; clear hS0) | (guard_target = wpList _ _ _ (Oper.mk _ (Op.build _ _) _ _ _ none :: _) _ _; refine wl_build2 (cells := lookV p bm 0) rfl rfl rfl rfl rfl ?_) | (guard_target = wpList _ _ _ (Oper.mk _ (Op.box _ _) _ _ _ none :: _) _ _; refine wl_box_agg rfl hS1 rfl rfl rfl ?_; intro l w2 hS2; clear hS1))
    go_ret2
    exact ⟨l, bm, 0, rfl, hS2⟩
  · have e1 : ((root : Int) == 0) = false := by simp; omega
    have HR : Hid (looked T X.used.has root = lookP T X.used.has 12 root 0 4294967296 ⟨[], 0⟩) := Lib.hid (by simp [looked, h0])
    rw [← HR.out] at HP
    generalize looked T X.used.has root = r at *
    clear HR hO hX hT h0
    go_enter Tryz.func61, Tryz.ntmps61
    go_wp2_with (first | (guard_target = wpList _ _ _ (Oper.mk _ (Op.makeMap _ _) _ _ _ none :: _) _ _; refine wl_makeSet hS0 rfl rfl ?_; intro bm w1 hS1; clear hS0) | (guard_target = wpList _ _ _ (Oper.mk _ (Op.build _ _) _ _ _ none :: _) _ _; refine wl_build2 (cells := lookV p bm 0) rfl rfl rfl rfl rfl ?_) | (guard_target = wpList _ _ _ (Oper.mk _ (Op.box _ _) _ _ _ none :: _) _ _; refine wl_box_agg rfl hS1 rfl rfl rfl ?_; intro l w2 hS2; clear hS1) | (go_at_call 97; refine (HP.out _ _ _ hS2).mono ?_; rintro e w3 ⟨be, rfl, hS3⟩; clear hS2))
    go_ret2
    exact ⟨l, bm, be, rfl, hS3⟩
theorem check_Sound {p d bf c root : Nat} {A : Option Addr} {X : Pgr} {T : Nat → Option Nd} {w : World} (hO : Own w (pagerL p d bf A c X)) (hX : X.fit) (hT : View X T) :
    Calls Tryz.prog 18 #[ptr p, .int .i64 (root : Int)] w fun e w' => ∃ be, e = .returned (errV (looked T X.used.has root).1 be) ∧ Chg w w' [] (errL (looked T X.used.has root).1 be) := by
  have HL := Lib.hid (check_looked (root := root) hO hX hT)
  generalize looked T X.used.has root = r at *
  clear hO hX hT
  go_enter Tryz.func18, Tryz.ntmps18
  go_wp2_with (go_at_call 61; refine HL.out.mono ?_; rintro e w1 ⟨l, bm, be, rfl, hS1⟩)
  go_ret
  exact ⟨be, rfl, by have := hS1.tail.tail; rwa [List.append_nil] at this⟩
theorem check_Depth {p d bf c root : Nat} {A : Option Addr} {X : Pgr} {T : Nat → Option Nd} {w : World} (hO : Own w (pagerL p d bf A c X)) (hX : X.fit) (hT : View X T) :
    Calls Tryz.prog 20 #[ptr p, .int .i64 (root : Int)] w fun e w' => ∃ be, e = .returned (.tuple #[.int .i64 ((if (looked T X.used.has root).1 = 0 then (looked T X.used.has root).2.lvl else 0 : Nat) : Int), errV (looked T X.used.has root).1 be]) ∧ Chg w w' [] (errL (looked T X.used.has root).1 be) := by
  have HL := Lib.hid (check_looked (root := root) hO hX hT)
  generalize looked T X.used.has root = r at *
  clear hO hX hT
  by_cases he : r.1 = 0
  · rw [if_pos he]
    rw [he] at HL
    rw [he]
    clear he
    go_enter Tryz.func20, Tryz.ntmps20
    go_wp2_with (first | (go_at_call 61; refine HL.out.mono ?_; rintro e w1 ⟨l, bm, be, rfl, hS1⟩; rw [errV0]) | ((first | (guard_target = wpList _ _ _ (Oper.mk _ (Op.load 3 _) _ _ _ none :: _) _ _) | (guard_target = wpList _ _ _ (Oper.mk _ (Op.load 3 _) _ _ _ (some _) :: _) _ _; (fail_if_success (fail_if_success go_big_want)); refine wl_unguard rfl ?_)); refine wl_load1_0 hS1 rfl rfl rfl rfl ?_))
    go_ret2
    exact ⟨0, rfl, by have := hS1.tail.tail; rwa [List.append_nil] at this⟩
  · have HV : Hid (∀ be, errV r.1 be = .iface 150 (ptr be)) := Lib.hid (fun be => by unfold errV; rw [if_neg he])
    rw [if_neg he]
    clear he
    go_enter Tryz.func20, Tryz.ntmps20
    go_wp2_with (first | (go_at_call 61; refine HL.out.mono ?_; rintro e w1 ⟨l, bm, be, rfl, hS1⟩; rw [HV.out]))
    go_ret2
    exact ⟨be, by rw [HV.out]; rfl, by have := hS1.tail.tail; rwa [List.append_nil] at this⟩
end Go.Dyn
