/- Part of the proof that CheckWrong returns true, whatever the four bytes; tied to the program's own text (part 9 of 14) -/
import Derived.Test.YtgnkmahdcomjcaaGreatDoorCW08
set_option linter.unusedVariables false
set_option linter.unusedSimpArgs false
namespace Go.Dyn
open Go Go.RowKit Go.Proofs
set_option maxRecDepth 20000
set_option maxHeartbeats 1000000
theorem pager_Abort {p d : Nat} {s : Sup} {f g : BSet} {L : List It} {F : List Nat} {w0 w : World} (hS : Chg w0 w F (blk p (pgrV d s f g) 111 :: L)) :
    Calls Tryz.prog 30 #[ptr p] w fun e w' => e = .returned (.tuple #[]) ∧ Chg w0 w' F (blk p (pgrV d s BSet.none BSet.none) 111 :: L) := by
  have Hz := Lib.hid (pgrV_size d s f g)
  have Hz2 := Lib.hid (pgrV_size d s BSet.none g)
  have H1 : Hid (lay (pgrV d s f g) 33 (Array.replicate 30 (.int .u8 0)) = pgrV d s BSet.none g) := Lib.hid (by rw [BSet.enc_none, pgrV_setFresh])
  have H2 : Hid (lay (pgrV d s BSet.none g) 63 (Array.replicate 30 (.int .u8 0)) = pgrV d s BSet.none BSet.none) := Lib.hid (by rw [BSet.enc_none, pgrV_setGone])
  generalize pgrV d s f g = v0 at *
  generalize pgrV d s BSet.none g = v1 at *
  generalize pgrV d s BSet.none BSet.none = v2 at *
  go_enter Tryz.func30, Tryz.ntmps30
  go_wp2_with (first | (guard_target = wpList _ _ _ (Oper.mk _ (Op.call _) _ _ _ none :: _) _ _; refine wl_clear (n := 29) (z := .int .u8 0) rfl rfl Tryz.underlying74 rfl rfl hS rfl (by rw [Hz.out]; decide) ?_; intro w1 hS1; clear hS; rw [H1.out] at hS1) | (guard_target = wpList _ _ _ (Oper.mk _ (Op.call _) _ _ _ none :: _) _ _; refine wl_clear (n := 29) (z := .int .u8 0) rfl rfl Tryz.underlying74 rfl rfl hS1 rfl (by rw [Hz2.out]; decide) ?_; intro w2 hS2; clear hS1; rw [H2.out] at hS2))
  refine ⟨rfl, .tuple #[], ?_, rfl, hS2⟩
  first | rfl | kernel_rfl | simp [results]
def Pgr.used (X : Pgr) : BSet := X.busy.minus X.gone
def Pgr.next (X : Pgr) (root : Nat) : Sup := ⟨X.s.gen + 1, root, X.used⟩
def Pgr.commit (X : Pgr) (root : Nat) : Pgr := ⟨X.D.switch (X.next root), X.next root, BSet.none, BSet.none⟩
theorem pager_Commit {p d bf : Nat} {A : Option Addr} {c : Nat} {X : Pgr} {w : World} (hO : Own w (pagerL p d bf A c X)) (hd : X.D.down = false) (h2 : 2 ≤ X.D.firm.length) (hn : X.D.firm.length ≤ 240) (hk : X.D.loose.length ≤ 1000000) (hL : ∀ x ∈ X.D.loose, x.1 < X.D.firm.length) (root : Nat) (hs : (X.next root).right) :
    Calls Tryz.prog 21 #[ptr p, .int .i64 (root : Int)] w fun e w' => e = .returned .nilIface ∧ Chg w w' (ids (pagerL p d bf A c X)) (pagerL p d bf none 0 (X.commit root)) := by
  obtain ⟨D, sp, f, g⟩ := X
  have hg := hs.2.1
  have hroot := hs.2.2.1
  simp only [Pgr.commit, Pgr.next, Pgr.used, Pgr.busy] at *
  have hS0 : Chg w w (ids (pagerL p d bf A c ⟨D, sp, f, g⟩)) (blk p (pgrV d sp f g) 111 :: diskL d bf A c D) := hO.start
  generalize hFF : ids (pagerL p d bf A c ⟨D, sp, f, g⟩) = FF at *
  clear hO hFF
  have HU := Lib.hid (fun (w : World) (h : (blk p (pgrV d sp f g) 111).ok w) => pager_Used h)
  generalize hs' : (⟨sp.gen + 1, root, (sp.used.or f).minus g⟩ : Sup) = s' at *
  have Hfl : Hid (Instr.fill ((#[(0, 1), (1, 1), (2, 30)] : Array (Nat × Nat))[·]?) (#[Value.int .u32 0] ++ #[Value.int .i64 0] ++ (Array.replicate 30 (Value.int .u8 0))) [(0, .int .u32 ((sp.gen : Int) + 1)), (1, .int .i64 (root : Int)), (2, .agg ((sp.used.or f).minus g).enc)] = some (supC s')) := Lib.hid (by
    rw [← hs']
    have := sup_fill ⟨sp.gen + 1, root, (sp.used.or f).minus g⟩
    simpa [BSet.enc] using this)
  have HS := Lib.hid (fun (w : World) (hO : Own w (diskL d bf A c D)) => super_Switch hO hd h2 (by omega) hk hL s' hs)
  have Hz := Lib.hid (pgrV_size d sp f g)
  have Hd := Lib.hid (pgrV_d d sp f g)
  have Hgen := Lib.hid (pgrV_gen d sp f g)
  have Hset := Lib.hid (pgrV_setSup d sp s' f g)
  have Hsz := Lib.hid (supC_size s')
  have Hone := Lib.hid (@supC_one s')
  have HH : Hid (root ≠ 0 → ∀ w, Calls Tryz.prog 64 #[.agg ((sp.used.or f).minus g).enc, .int .i64 (root : Int)] w fun e w' => e = .returned (.bool true) ∧ Below w.heap.size w w') := Lib.hid (fun h0 w => by
    rcases hroot with h | ⟨h2, h3, h4⟩
    · exact absurd h h0
    · have := bits_Has ((sp.used.or f).minus g) root w h3
      rw [h4] at this
      exact this)
  have HAb := Lib.hid (fun (w1 : World) (hS : Chg w w1 FF (blk p (pgrV d s' f g) 111 :: diskL d bf none 0 (D.switch s'))) => pager_Abort hS)
  have HP : Hid (pagerL p d bf none 0 ⟨D.switch s', s', BSet.none, BSet.none⟩ = blk p (pgrV d s' BSet.none BSet.none) 111 :: diskL d bf none 0 (D.switch s')) := Lib.hid rfl
  rw [HP.out]
  clear HP hroot hs hs'
  generalize diskL d bf A c D = L0 at *
  generalize diskL d bf none 0 (D.switch s') = L1 at *
  generalize pgrV d sp f g = pv at *
  generalize pgrV d s' f g = pv2 at *
  generalize pgrV d s' BSet.none BSet.none = pv3 at *
  generalize supC s' = cs at *
  generalize (sp.used.or f).minus g = ub at *
  by_cases h0 : root = 0
  · subst h0
    have hne : (((0 : Nat) : Int) != 0) = false := by simp
    clear HH
    go_enter Tryz.func21, Tryz.ntmps21
    go_wp2_with (first | (go_at_call 54; refine (pager_none p _).mono ?_; rintro e w1 ⟨rfl, rfl⟩) | (go_at_call 27; refine (HU.out _ hS0.head).mono ?_; rintro e w1 ⟨rfl, hB1⟩; have hS1 := hS0.bel hB1; clear hS0) | (guard_target = wpList _ _ _ (Oper.mk _ (Op.alloc _) _ _ _ none :: _) _ _; (refine wl_alloc_agg (dst := 6) rfl ‹Chg _ _ _ _› rfl rfl ?_); intro b6 w2 hS2) | (guard_target = wpList _ _ _ (Oper.mk _ (Op.store 59 _ _) _ _ _ none :: _) _ _; refine wl_storew_0 hS2 rfl rfl rfl rfl (by simp) BSet.one (by simp) ?_; intro w3 hS4; clear hS1 hS2) | ((first | (guard_target = wpList _ _ _ (Oper.mk _ (Op.load 50 _) _ _ _ none :: _) _ _) | (guard_target = wpList _ _ _ (Oper.mk _ (Op.load 50 _) _ _ _ (some _) :: _) _ _; refine wl_unguard rfl ?_)); refine wl_load1_1 hS4 rfl rfl rfl Hgen.out ?_))
    refine wp_region_moves 10 (Held [blk p pv 111, blk b6 ub.enc 59]) (by kernel_rfl) (by kernel_rfl) ?_
    intro hwt
    have hS5 := hS4.drew
    clear hS4
    refine wpM_quiet hwt [0, 1, 2, 3, 4, 5, 6, 7, 8] [] _ (by kernel_rfl) (hS5.held [1, 0] rfl) ?_
    simp only [pick_cons, pick_nil, consO_some, List.getElem?_cons_zero, List.getElem?_cons_succ]
    (go_big_quiet_want; go_big_quiet_op; first | go_big_quiet_on | (refine ⟨_, fun _ _ => rfl, ?_⟩; go_big_quiet_on))
    (go_big_quiet_want; go_big_quiet_op; first | go_big_quiet_on | (refine ⟨_, fun _ _ => rfl, ?_⟩; go_big_quiet_on))
    (go_big_quiet_want; go_big_quiet_op; first | go_big_quiet_on | (refine ⟨_, fun _ _ => rfl, ?_⟩; go_big_quiet_on))
    (go_big_quiet_want; go_big_quiet_op; first | go_big_quiet_on | (refine ⟨_, fun _ _ => rfl, ?_⟩; go_big_quiet_on))
    (go_big_quiet_want; refine quiet_load1 rfl rfl (fun w' hw' => (blk_cell (hw'.get 0 rfl) 1).trans Hgen.out) ?_; go_frame; go_big_quiet_on)
    (go_big_quiet_want; go_big_quiet_op; first | go_big_quiet_on | (refine ⟨_, fun _ _ => rfl, ?_⟩; go_big_quiet_on))
    (go_big_quiet_want; go_big_quiet_op; first | go_big_quiet_on | (refine ⟨_, fun _ _ => rfl, ?_⟩; go_big_quiet_on))
    (go_big_quiet_want; refine quiet_loadw rfl rfl (fun w' hw' => hw'.get 1 rfl) (by simp) ?_; go_frame; go_big_quiet_on)
    (go_big_quiet_want; refine quiet_build3 rfl rfl rfl rfl Hfl.out ?_; go_frame; go_big_quiet_on)
    refine wpQuiet_nil ?_
    refine wpM_one 9 (by kernel_rfl) ?_
    simp only [pick_cons, pick_nil, consO_some, List.getElem?_cons_zero, List.getElem?_cons_succ]
    refine wl_alloc_agg (dst := 7) rfl hS5 rfl rfl ?_
    intro b7 w5 hS6
    refine wpList_nil ⟨hS6.held [2, 1] rfl, ?_⟩
    clear hS5
    refine wpM_done (by kernel_rfl) ?_
    simp only [List.take_succ_cons, List.take_zero, List.drop_succ_cons, List.drop_zero]
    (try go_frame)
    go_wp2_with (first | (guard_target = wpList _ _ _ (Oper.mk _ (Op.store 105 _ _) _ _ _ none :: _) _ _; refine wl_storew_0 hS6 rfl rfl rfl rfl Hsz.out Hone.out (by simp) ?_; intro w6 hS7; clear hS6))
    go_frame
    refine wp_region_quiet_tail 5 (fun w' => Chg w w' FF (blk b7 cs 105 :: blk b6 ub.enc 59 :: blk p pv 111 :: L0)) (by kernel_rfl) (by kernel_rfl) hS7.drew ?_
    simp only [List.take_succ_cons, List.take_zero, List.drop_succ_cons, List.drop_zero]
    (go_big_quiet_want; go_big_quiet_op; first | go_big_quiet_on | (refine ⟨_, fun _ _ => rfl, ?_⟩; go_big_quiet_on))
    (go_big_quiet_want; go_big_quiet_op; first | go_big_quiet_on | (refine ⟨_, fun _ _ => rfl, ?_⟩; go_big_quiet_on))
    (go_big_quiet_want; go_big_quiet_op; first | go_big_quiet_on | (refine ⟨_, fun _ _ => rfl, ?_⟩; go_big_quiet_on))
    (go_big_quiet_want; refine quiet_load1 rfl rfl (fun w' hw' => (blk_cell (hw'.get 2 rfl) 0).trans Hd.out) ?_; go_frame; go_big_quiet_on)
    (go_big_quiet_want; refine quiet_loadw rfl rfl (fun w' hw' => hw'.get 0 rfl) Hsz.out ?_; go_frame; go_big_quiet_on)
    refine wpQuiet_nil ?_
    intro w7 hS8
    clear hS7
    go_wp2_with (first | (go_at_call 50; refine (HS.out _ hS8.tail.tail.tail.ownL).mono ?_; rintro e w8 ⟨rfl, hB8⟩; have hS9 := hS8.after3 hB8; clear hS8) | ((first | (guard_target = wpList _ _ _ (Oper.mk _ (Op.load 105 _) _ _ _ none :: _) _ _) | (guard_target = wpList _ _ _ (Oper.mk _ (Op.load 105 _) _ _ _ (some _) :: _) _ _; refine wl_unguard rfl ?_)); refine wl_loadw_0 hS9 rfl rfl rfl Hsz.out ?_) | (guard_target = wpList _ _ _ (Oper.mk _ (Op.store 105 _ _) _ _ _ none :: _) _ _; refine wl_storer_2 hS9 rfl rfl rfl rfl Hsz.out Hone.out (by rw [Hz.out]; decide) ?_; intro w10 hS10; clear hS9; rw [Hset.out] at hS10) | (go_at_call 30; refine (HAb.out _ (hS10.sub ((((List.Sublist.refl L1).cons _).cons _).cons_cons _))).mono ?_; rintro e w11 ⟨rfl, hS11⟩))
    go_ret
    exact ⟨rfl, hS11⟩
  · have hne : (((root : Nat) : Int) == 0) = false := by simp; omega
    have hne2 : (((root : Nat) : Int) != 0) = true := by simp; omega
    have HHr := Lib.hid (HH.out h0)
    go_enter Tryz.func21, Tryz.ntmps21
    go_wp2_with (first | (go_at_call 54; refine (pager_none p _).mono ?_; rintro e w1 ⟨rfl, rfl⟩) | (go_at_call 27; refine (HU.out _ hS0.head).mono ?_; rintro e w1 ⟨rfl, hB1⟩; have hS1 := hS0.bel hB1; clear hS0) | (guard_target = wpList _ _ _ (Oper.mk _ (Op.alloc _) _ _ _ none :: _) _ _; (refine wl_alloc_agg (dst := 6) rfl ‹Chg _ _ _ _› rfl rfl ?_); intro b6 w2 hS2) | (guard_target = wpList _ _ _ (Oper.mk _ (Op.store 59 _ _) _ _ _ none :: _) _ _; refine wl_storew_0 hS2 rfl rfl rfl rfl (by simp) BSet.one (by simp) ?_; intro w3 hS3; clear hS1 hS2) | ((first | (guard_target = wpList _ _ _ (Oper.mk _ (Op.load 59 _) _ _ _ none :: _) _ _) | (guard_target = wpList _ _ _ (Oper.mk _ (Op.load 59 _) _ _ _ (some _) :: _) _ _; refine wl_unguard rfl ?_)); refine wl_loadw_0 hS3 rfl rfl rfl (by simp) ?_) | (go_at_call 64; refine (HHr.out _).mono ?_; rintro e w4 ⟨rfl, hB4⟩; have hS4 := hS3.bel hB4; clear hS3) | ((first | (guard_target = wpList _ _ _ (Oper.mk _ (Op.load 50 _) _ _ _ none :: _) _ _) | (guard_target = wpList _ _ _ (Oper.mk _ (Op.load 50 _) _ _ _ (some _) :: _) _ _; refine wl_unguard rfl ?_)); refine wl_load1_1 hS4 rfl rfl rfl Hgen.out ?_))
    refine wp_region_moves 10 (Held [blk p pv 111, blk b6 ub.enc 59]) (by kernel_rfl) (by kernel_rfl) ?_
    intro hwt
    have hS5 := hS4.drew
    clear hS4
    refine wpM_quiet hwt [0, 1, 2, 3, 4, 5, 6, 7, 8] [] _ (by kernel_rfl) (hS5.held [1, 0] rfl) ?_
    simp only [pick_cons, pick_nil, consO_some, List.getElem?_cons_zero, List.getElem?_cons_succ]
    (go_big_quiet_want; go_big_quiet_op; first | go_big_quiet_on | (refine ⟨_, fun _ _ => rfl, ?_⟩; go_big_quiet_on))
    (go_big_quiet_want; go_big_quiet_op; first | go_big_quiet_on | (refine ⟨_, fun _ _ => rfl, ?_⟩; go_big_quiet_on))
    (go_big_quiet_want; go_big_quiet_op; first | go_big_quiet_on | (refine ⟨_, fun _ _ => rfl, ?_⟩; go_big_quiet_on))
    (go_big_quiet_want; go_big_quiet_op; first | go_big_quiet_on | (refine ⟨_, fun _ _ => rfl, ?_⟩; go_big_quiet_on))
    (go_big_quiet_want; refine quiet_load1 rfl rfl (fun w' hw' => (blk_cell (hw'.get 0 rfl) 1).trans Hgen.out) ?_; go_frame; go_big_quiet_on)
    (go_big_quiet_want; go_big_quiet_op; first | go_big_quiet_on | (refine ⟨_, fun _ _ => rfl, ?_⟩; go_big_quiet_on))
    (go_big_quiet_want; go_big_quiet_op; first | go_big_quiet_on | (refine ⟨_, fun _ _ => rfl, ?_⟩; go_big_quiet_on))
    (go_big_quiet_want; refine quiet_loadw rfl rfl (fun w' hw' => hw'.get 1 rfl) (by simp) ?_; go_frame; go_big_quiet_on)
    (go_big_quiet_want; refine quiet_build3 rfl rfl rfl rfl Hfl.out ?_; go_frame; go_big_quiet_on)
    refine wpQuiet_nil ?_
    refine wpM_one 9 (by kernel_rfl) ?_
    simp only [pick_cons, pick_nil, consO_some, List.getElem?_cons_zero, List.getElem?_cons_succ]
    refine wl_alloc_agg (dst := 7) rfl hS5 rfl rfl ?_
    intro b7 w5 hS6
    refine wpList_nil ⟨hS6.held [2, 1] rfl, ?_⟩
    clear hS5
    refine wpM_done (by kernel_rfl) ?_
    simp only [List.take_succ_cons, List.take_zero, List.drop_succ_cons, List.drop_zero]
    (try go_frame)
    go_wp2_with (first | (guard_target = wpList _ _ _ (Oper.mk _ (Op.store 105 _ _) _ _ _ none :: _) _ _; refine wl_storew_0 hS6 rfl rfl rfl rfl Hsz.out Hone.out (by simp) ?_; intro w6 hS7; clear hS6))
    go_frame
    refine wp_region_quiet_tail 5 (fun w' => Chg w w' FF (blk b7 cs 105 :: blk b6 ub.enc 59 :: blk p pv 111 :: L0)) (by kernel_rfl) (by kernel_rfl) hS7.drew ?_
    simp only [List.take_succ_cons, List.take_zero, List.drop_succ_cons, List.drop_zero]
    (go_big_quiet_want; go_big_quiet_op; first | go_big_quiet_on | (refine ⟨_, fun _ _ => rfl, ?_⟩; go_big_quiet_on))
    (go_big_quiet_want; go_big_quiet_op; first | go_big_quiet_on | (refine ⟨_, fun _ _ => rfl, ?_⟩; go_big_quiet_on))
    (go_big_quiet_want; go_big_quiet_op; first | go_big_quiet_on | (refine ⟨_, fun _ _ => rfl, ?_⟩; go_big_quiet_on))
    (go_big_quiet_want; refine quiet_load1 rfl rfl (fun w' hw' => (blk_cell (hw'.get 2 rfl) 0).trans Hd.out) ?_; go_frame; go_big_quiet_on)
    (go_big_quiet_want; refine quiet_loadw rfl rfl (fun w' hw' => hw'.get 0 rfl) Hsz.out ?_; go_frame; go_big_quiet_on)
    refine wpQuiet_nil ?_
    intro w7 hS8
    clear hS7
    go_wp2_with (first | (go_at_call 50; refine (HS.out _ hS8.tail.tail.tail.ownL).mono ?_; rintro e w8 ⟨rfl, hB8⟩; have hS9 := hS8.after3 hB8; clear hS8) | ((first | (guard_target = wpList _ _ _ (Oper.mk _ (Op.load 105 _) _ _ _ none :: _) _ _) | (guard_target = wpList _ _ _ (Oper.mk _ (Op.load 105 _) _ _ _ (some _) :: _) _ _; refine wl_unguard rfl ?_)); refine wl_loadw_0 hS9 rfl rfl rfl Hsz.out ?_) | (guard_target = wpList _ _ _ (Oper.mk _ (Op.store 105 _ _) _ _ _ none :: _) _ _; refine wl_storer_2 hS9 rfl rfl rfl rfl Hsz.out Hone.out (by rw [Hz.out]; decide) ?_; intro w10 hS10; clear hS9; rw [Hset.out] at hS10) | (go_at_call 30; refine (HAb.out _ (hS10.sub ((((List.Sublist.refl L1).cons _).cons _).cons_cons _))).mono ?_; rintro e w11 ⟨rfl, hS11⟩))
    go_ret
    exact ⟨rfl, hS11⟩
end Go.Dyn
namespace Go.Dyn
open Go Go.RowKit Go.Proofs
set_option maxRecDepth 20000
set_option maxHeartbeats 1000000
instance : SetT Tryz.prog 128 := ⟨⟨_, _, Tryz.underlying128, Tryz.underlying3, by kernel_rfl⟩⟩
theorem node_rising {A : Option Addr} {c : Nat} {l : List Nat} {w : World} (h : SlR w A (intsV l)) (hr : risingOk l) : Calls Tryz.prog 85 #[.slice A l.length c] w fun e w' => e = .returned (.bool true) ∧ w = w' := by
  obtain ⟨h1, h2, h3⟩ := hr
  have hlen : ((l.length : Nat) : Int) ≤ 7 := by omega
  go_enter Tryz.func85, Tryz.ntmps85
  go_wp2
  go_loop [7] (fun v => ∃ k : Nat, k ≤ l.length ∧ v = .int .i64 k) (fun v => l.length - (intOf v).toNat)
  case atStart => exact ⟨0, by omega, rfl⟩
  case round =>
    obtain ⟨k, hk2, rfl⟩ := hrel
    by_cases hlt : k < l.length
    · obtain ⟨b, off, rfl, hc0⟩ := h.at (by simp; omega)
      have hc := SlR.ints hc0 k hlt
      have hk1 := h1 l[k] (by simp)
      have hprev : 0 < k → ∃ v : Nat, w.cell? ⟨b, off + (k - 1), none⟩ = some (.int .i64 (v : Int)) ∧ v < l[k] := fun h0 => ⟨l[k - 1], SlR.ints hc0 (k - 1) (by omega), (List.pairwise_iff_getElem.1 h2) (k - 1) k (by omega) hlt (by omega)⟩
      generalize l[k] = x at *
      clear h h1 h2 hc0
      by_cases h0 : k = 0
      · subst h0
        simp only [Nat.add_zero] at hc
        clear hprev
        go_wp2
        exact ⟨⟨1, by omega, rfl⟩, by simp [intOf]; omega⟩
      · obtain ⟨v, hc', hv⟩ := hprev (by omega)
        obtain ⟨j, rfl⟩ : ∃ j, k = j + 1 := ⟨k - 1, by omega⟩
        simp only [Nat.add_sub_cancel] at hc'
        clear hprev
        go_wp2
        exact ⟨⟨j + 2, by omega, by go_num⟩, by simp [intOf]; omega⟩
    · have : k = l.length := by omega
      subst this
      go_wp2
      go_ret
      exact ⟨rfl, rfl⟩
theorem node_kids {A : Option Addr} {c : Nat} {l : List Nat} {w : World} (h : SlR w A (intsV l)) (hl : l.length ≤ 1000) (hr : kidsOk l) : Calls Tryz.prog 88 #[.slice A l.length c] w fun e w' => e = .returned (.bool true) ∧ Below w.heap.size w w' := by
  obtain ⟨h1, h2⟩ := hr
  have hlen : ((l.length : Nat) : Int) ≤ 1000 := by omega
  have hS0 := Chg.nil w []
  go_enter Tryz.func88, Tryz.ntmps88
  go_wp2_with (guard_target = wpList _ _ _ (Oper.mk _ (Op.makeMap _ _) _ _ _ none :: _) _ _; refine wl_makeSet hS0 rfl rfl ?_; intro bm w1 hS1; clear hS0)
  go_loopw [9] (fun v w' => ∃ k : Nat, k ≤ l.length ∧ v = .int .i64 k ∧ Chg w w' [] [setIt bm ((l.take k).map fun (x : Nat) => (x : Int))]) (fun v _ => l.length - (intOf v).toNat)
  case atStart => exact ⟨0, by omega, rfl, hS1⟩
  case round =>
    obtain ⟨k, hk2, rfl, hS⟩ := hrel
    clear hS1
    by_cases hlt : k < l.length
    · obtain ⟨b, off, rfl, hc0⟩ := h.at (by simp; omega)
      have hc := hS.old (SlR.ints hc0 k hlt) (by simp)
      have hk1 := h1 l[k] (by simp)
      have hni : ((l[k] : Nat) : Int) ∉ (l.take k).map fun (x : Nat) => (x : Int) := by
        intro hm
        obtain ⟨x, hx, e⟩ := List.mem_map.1 hm
        have e' : x = l[k] := by omega
        obtain ⟨j, hj, rfl⟩ := List.mem_iff_getElem.1 hx
        simp only [List.length_take] at hj
        rw [List.getElem_take] at e'
        have := (List.getElem_inj h2).1 e'
        omega
      have Hn := Lib.hid (decide_eq_false hni)
      have Ht : Hid ((l.take k).map (fun (x : Nat) => (x : Int)) ++ [((l[k] : Nat) : Int)] = (l.take (k + 1)).map (fun (x : Nat) => (x : Int))) := Lib.hid (by rw [List.take_succ_eq_append_getElem hlt, List.map_append]; rfl)
      have Hn2 := Lib.hid hni
      clear hni
      generalize ((l.take k).map fun (x : Nat) => (x : Int)) = ks at *
      generalize hks2 : ((l.take (k + 1)).map fun (x : Nat) => (x : Int)) = ks2 at *
      have Hk2 := Lib.hid hks2
      clear hks2
      generalize l[k] = x at *
      have e1 : decide ((x : Int) < 2) = false := by simp; omega
      have e2 : decide (240 ≤ (x : Int)) = false := by simp; omega
      clear h h1 h2 hc0
      go_wp2_with (first | ((first | (guard_target = wpList _ _ _ (Oper.mk _ (Op.lookup _ _ _ _) _ _ _ none :: _) _ _) | (guard_target = wpList _ _ _ (Oper.mk _ (Op.lookup _ _ _ _) _ _ _ (some _) :: _) _ _; refine wl_unguard rfl ?_)); refine wl_lookupSet rfl rfl rfl rfl hS.head Hn.out ?_) | (guard_target = wpList _ _ _ (Oper.mk _ (Op.mapUpdate _ _ _ _) _ _ _ none :: _) _ _; refine wl_updateSet 0 hS rfl rfl rfl rfl rfl rfl rfl Hn2.out ?_; intro w2 hS2; clear hS; rw [Ht.out] at hS2))
      go_roundw
      case rel => exact ⟨k + 1, by omega, by go_num, by rw [Hk2.out]; exact hS2⟩
      case measure => simp [intOf]; omega
    · have : k = l.length := by omega
      subst this
      go_wp2
      go_ret
      exact ⟨rfl, hS.below⟩
theorem node_Right1 (s : ByteArray) (w : World) (h : s.size = 12) : Calls Tryz.prog 87 #[.string s] w fun e w' => e = .returned (.bool false) ∧ w = w' := by
  go_enter Tryz.func87, Tryz.ntmps87
  go_wp2
  go_ret
  exact ⟨rfl, rfl⟩
theorem slices_IndexFunc_no {A : Option Addr} {c : Nat} {l : List ByteArray} {w : World} (h : SlR w A (strsV l)) (hl : l.length ≤ 1000) (hv : ∀ v ∈ l, v.size = 12) : Calls Tryz.prog 117 #[.slice A l.length c, .func (.func 87) #[] #[]] w fun e w' => e = .returned (.int .i64 (-1)) ∧ w = w' := by
  have hlen : ((l.length : Nat) : Int) ≤ 1000 := by omega
  go_enter Tryz.func117, Tryz.ntmps117
  go_wp2
  go_loop [8] (fun v => ∃ k : Nat, k ≤ l.length ∧ v = .int .i64 k) (fun v => l.length - (intOf v).toNat)
  case atStart => exact ⟨0, by omega, rfl⟩
  case round =>
    obtain ⟨k, hk2, rfl⟩ := hrel
    by_cases hlt : k < l.length
    · obtain ⟨b, off, rfl, hc0⟩ := h.at (by simp; omega)
      have hc := SlR.strs hc0 k hlt
      have hs := hv l[k] (by simp)
      generalize l[k] = x at *
      clear h hv hc0
      go_wp2_with (go_at_call 87; refine (node_Right1 _ _ hs).mono ?_; rintro e w' ⟨rfl, rfl⟩)
      exact ⟨⟨k + 1, by omega, by go_num⟩, by simp [intOf]; omega⟩
    · have : k = l.length := by omega
      subst this
      go_wp2
      go_ret
      exact ⟨rfl, rfl⟩
theorem slices_ContainsFunc_no {A : Option Addr} {c : Nat} {l : List ByteArray} {w : World} (h : SlR w A (strsV l)) (hl : l.length ≤ 1000) (hv : ∀ v ∈ l, v.size = 12) : Calls Tryz.prog 86 #[.slice A l.length c, .func (.func 87) #[] #[]] w fun e w' => e = .returned (.bool false) ∧ w = w' := by
  have H := Lib.hid (fun c => slices_IndexFunc_no (c := c) h hl hv)
  clear h hv
  go_enter Tryz.func86, Tryz.ntmps86
  go_wp2_with (go_at_call 117; refine (H.out _).mono ?_; rintro e w' ⟨rfl, rfl⟩)
  go_ret
  exact ⟨rfl, rfl⟩
theorem node_Leaf (x y z : Sl) (n : Nd) (w : World) : Calls Tryz.prog 52 #[.agg (ndV x y z n)] w fun e w' => e = .returned (.bool (decide (n.kids.length = 0))) ∧ Below w.heap.size w w' := by
  have hS0 := Chg.nil w []
  unfold ndV
  go_enter Tryz.func52, Tryz.ntmps52
  go_wp2_with (first | (guard_target = wpList _ _ _ (Oper.mk _ (Op.box _ _) _ _ _ none :: _) _ _; (first | refine wl_box_agg (dst := 1) rfl ‹Chg _ _ _ _› rfl rfl rfl ?_ | refine wl_box_int (dst := 1) rfl ‹Chg _ _ _ _› rfl rfl rfl ?_ | refine wl_box_str (dst := 1) rfl ‹Chg _ _ _ _› rfl rfl rfl ?_ | refine wl_box_slice (dst := 1) rfl ‹Chg _ _ _ _› rfl rfl rfl ?_ | refine wl_box_ptr (dst := 1) rfl ‹Chg _ _ _ _› rfl rfl rfl ?_); intro b w1 hS1) | ((first | (first | (guard_target = wpList _ _ _ (Oper.mk _ (Op.load 31 _) _ _ _ none :: _) _ _) | (guard_target = wpList _ _ _ (Oper.mk _ (Op.load 31 _) _ _ _ (some _) :: _) _ _; refine wl_unguard rfl ?_)) | (first | (guard_target = wpList _ _ _ (Oper.mk _ (Op.load 32 _) _ _ _ none :: _) _ _) | (guard_target = wpList _ _ _ (Oper.mk _ (Op.load 32 _) _ _ _ (some _) :: _) _ _; refine wl_unguard rfl ?_))); refine wl_load1_0 ‹Chg _ _ _ _› rfl rfl rfl rfl ?_))
  go_ret
  refine ⟨congrArg (fun x => Ending.returned (.bool x)) ?_, hS1.below⟩
  rw [Bool.eq_iff_iff]
  simp
theorem node_Right_leaf {x y z : Sl} {n : Nd} {w : World} (hn : NdR w x y z n) (h1 : risingOk n.keys) (h2 : n.leafOk) : Calls Tryz.prog 51 #[.agg (ndV x y z n)] w fun e w' => e = .returned (.bool true) ∧ Below w.heap.size w w' := by
  have hS0 := Chg.nil w []
  obtain ⟨h3, h4, h5⟩ := h2
  have HR := Lib.hid (fun (w' : World) (L : List It) (h : Chg w w' [] L) => node_rising (c := x.c) (hn.old h).keys h1)
  have HC := Lib.hid (fun (w' : World) (L : List It) (h : Chg w w' [] L) => slices_ContainsFunc_no (c := y.c) (hn.old h).vals (by have := h1.2.2; omega) h5)
  have e3 : ((n.vals.length : Int) == (n.keys.length : Int)) = true := by simp [h4]
  have e4 : decide (n.kids.length = 0) = true := by simp [h3]
  have HL := Lib.hid (fun w => by have := node_Leaf x y z n w; rw [e4] at this; exact this)
  clear e4
  have HB : Hid ((ndV x y z n).size = 3) := Lib.hid rfl
  have Hf0 : Hid ((ndV x y z n)[0]? = some (.slice x.a n.keys.length x.c)) := Lib.hid rfl
  have Hf1 : Hid ((ndV x y z n)[1]? = some (.slice y.a n.vals.length y.c)) := Lib.hid rfl
  clear hn h3 h4 h5
  generalize ndV x y z n = nv at *
  go_enter Tryz.func51, Tryz.ntmps51
  go_wp2_with (first | (guard_target = wpList _ _ _ (Oper.mk _ (Op.box _ _) _ _ _ none :: _) _ _; (first | refine wl_box_agg (dst := 1) rfl ‹Chg _ _ _ _› rfl rfl rfl ?_ | refine wl_box_int (dst := 1) rfl ‹Chg _ _ _ _› rfl rfl rfl ?_ | refine wl_box_str (dst := 1) rfl ‹Chg _ _ _ _› rfl rfl rfl ?_ | refine wl_box_slice (dst := 1) rfl ‹Chg _ _ _ _› rfl rfl rfl ?_ | refine wl_box_ptr (dst := 1) rfl ‹Chg _ _ _ _› rfl rfl rfl ?_); intro b w1 hS1) | ((first | (guard_target = wpList _ _ _ (Oper.mk _ (Op.load 31 _) _ _ _ none :: _) _ _) | (guard_target = wpList _ _ _ (Oper.mk _ (Op.load 31 _) _ _ _ (some _) :: _) _ _; refine wl_unguard rfl ?_)); refine wl_load1_0 ‹Chg _ _ _ _› rfl rfl rfl Hf0.out ?_) | ((first | (guard_target = wpList _ _ _ (Oper.mk _ (Op.load 32 _) _ _ _ none :: _) _ _) | (guard_target = wpList _ _ _ (Oper.mk _ (Op.load 32 _) _ _ _ (some _) :: _) _ _; refine wl_unguard rfl ?_)); refine wl_load1_0 ‹Chg _ _ _ _› rfl rfl rfl Hf1.out ?_) | ((first | (guard_target = wpList _ _ _ (Oper.mk _ (Op.load 34 _) _ _ _ none :: _) _ _) | (guard_target = wpList _ _ _ (Oper.mk _ (Op.load 34 _) _ _ _ (some _) :: _) _ _; refine wl_unguard rfl ?_)); refine wl_loadw_0 ‹Chg _ _ _ _› rfl rfl rfl HB.out ?_) | (go_at_call 85; refine (HR.out _ _ hS1).mono ?_; rintro e w' ⟨rfl, rfl⟩) | (go_at_call 52; refine (HL.out _).mono ?_; rintro e w2 ⟨rfl, hB2⟩; have hS2 := hS1.bel hB2; clear hS1) | (go_at_call 86; refine (HC.out _ _ hS2).mono ?_; rintro e w' ⟨rfl, rfl⟩))
  go_ret
  exact ⟨rfl, hS2.below⟩
theorem node_Right_inner {x y z : Sl} {n : Nd} {w : World} (hn : NdR w x y z n) (h1 : risingOk n.keys) (h2 : n.innerOk) : Calls Tryz.prog 51 #[.agg (ndV x y z n)] w fun e w' => e = .returned (.bool true) ∧ Below w.heap.size w w' := by
  have hS0 := Chg.nil w []
  obtain ⟨h3, h4, h5, h6⟩ := h2
  have HR := Lib.hid (fun (w' : World) (L : List It) (h : Chg w w' [] L) => node_rising (c := x.c) (hn.old h).keys h1)
  have HK := Lib.hid (fun (w' : World) (L : List It) (h : Chg w w' [] L) => node_kids (c := z.c) (hn.old h).kids (by have := h1.2.2; omega) h6)
  have h7 := h1.2.2
  have e0 : ((n.vals.length : Int) == 0) = true := by simp [h3]
  have e1 : decide (1 ≤ (n.keys.length : Int)) = true := by simp; omega
  have e3 : ((n.kids.length : Int) == (n.keys.length : Int) + 1) = true := by simp [h5]
  have e4 : decide (n.kids.length = 0) = false := by simp; intro h; simp [h] at h5
  have HL := Lib.hid (fun w => by have := node_Leaf x y z n w; rw [e4] at this; exact this)
  clear e4
  have HB : Hid ((ndV x y z n).size = 3) := Lib.hid rfl
  have Hf0 : Hid ((ndV x y z n)[0]? = some (.slice x.a n.keys.length x.c)) := Lib.hid rfl
  have Hf1 : Hid ((ndV x y z n)[1]? = some (.slice y.a n.vals.length y.c)) := Lib.hid rfl
  have Hf2 : Hid ((ndV x y z n)[2]? = some (.slice z.a n.kids.length z.c)) := Lib.hid rfl
  clear hn h3 h5 h6 h1
  generalize ndV x y z n = nv at *
  go_enter Tryz.func51, Tryz.ntmps51
  go_wp2_with (first | (guard_target = wpList _ _ _ (Oper.mk _ (Op.box _ _) _ _ _ none :: _) _ _; (first | refine wl_box_agg (dst := 1) rfl ‹Chg _ _ _ _› rfl rfl rfl ?_ | refine wl_box_int (dst := 1) rfl ‹Chg _ _ _ _› rfl rfl rfl ?_ | refine wl_box_str (dst := 1) rfl ‹Chg _ _ _ _› rfl rfl rfl ?_ | refine wl_box_slice (dst := 1) rfl ‹Chg _ _ _ _› rfl rfl rfl ?_ | refine wl_box_ptr (dst := 1) rfl ‹Chg _ _ _ _› rfl rfl rfl ?_); intro b w1 hS1) | ((first | (guard_target = wpList _ _ _ (Oper.mk _ (Op.load 31 _) _ _ _ none :: _) _ _) | (guard_target = wpList _ _ _ (Oper.mk _ (Op.load 31 _) _ _ _ (some _) :: _) _ _; refine wl_unguard rfl ?_)); first | refine wl_load1_0 ‹Chg _ _ _ _› rfl rfl rfl Hf0.out ?_ | refine wl_load1_0 ‹Chg _ _ _ _› rfl rfl rfl Hf2.out ?_) | ((first | (guard_target = wpList _ _ _ (Oper.mk _ (Op.load 32 _) _ _ _ none :: _) _ _) | (guard_target = wpList _ _ _ (Oper.mk _ (Op.load 32 _) _ _ _ (some _) :: _) _ _; refine wl_unguard rfl ?_)); refine wl_load1_0 ‹Chg _ _ _ _› rfl rfl rfl Hf1.out ?_) | ((first | (guard_target = wpList _ _ _ (Oper.mk _ (Op.load 34 _) _ _ _ none :: _) _ _) | (guard_target = wpList _ _ _ (Oper.mk _ (Op.load 34 _) _ _ _ (some _) :: _) _ _; refine wl_unguard rfl ?_)); refine wl_loadw_0 ‹Chg _ _ _ _› rfl rfl rfl HB.out ?_) | (go_at_call 85; refine (HR.out _ _ hS1).mono ?_; rintro e w' ⟨rfl, rfl⟩) | (go_at_call 52; refine (HL.out _).mono ?_; rintro e w2 ⟨rfl, hB2⟩; have hS2 := hS1.bel hB2; clear hS1) | (go_at_call 88; refine (HK.out _ _ hS2).mono ?_; rintro e w3 ⟨rfl, hB3⟩; have hS3 := hS2.bel hB3; clear hS2))
  go_ret
  exact ⟨rfl, hS3.below⟩
theorem node_Right {x y z : Sl} {n : Nd} {w : World} (hn : NdR w x y z n) (h : n.right) : Calls Tryz.prog 51 #[.agg (ndV x y z n)] w fun e w' => e = .returned (.bool true) ∧ Below w.heap.size w w' := by
  rcases h.2 with h2 | h2
  · exact node_Right_leaf hn h.1 h2
  · exact node_Right_inner hn h.1 h2
end Go.Dyn
namespace Go.Dyn
open Go Go.RowKit Go.Proofs
set_option maxRecDepth 20000
set_option maxHeartbeats 1000000
def strL (l : List UInt8) : Value := .string ⟨l.toArray⟩
theorem strL_of (s : ByteArray) : Value.string s = strL s.data.toList := by cases s; rfl
def Nd.kind (n : Nd) : Nat := if n.kids.length = 0 then 0 else 1
def Nd.hd (n : Nd) : List UInt8 := be 1 n.kind ++ be 1 n.keys.length
def Nd.bytes (n : Nd) : List UInt8 := n.hd ++ n.keys.flatMap (be 4) ++ n.vals.flatMap (fun v => v.data.toList) ++ n.kids.flatMap (be 1)
section
variable {P : Program} {ops : Array Oper} {Q : Exit → Act → World → Prop} {rest : List Oper} {o : Oper} {a : Act} {w : World}
theorem wl_strcat {T rt : TypeId} {x y : Operand} (hgd : o.guard = none) (ho : o.op = .binOp .add T x y rt) {l m : List UInt8} (hx : a.eval x = strL l) (hy : a.eval y = strL m) (hl : l.length + m.length ≤ 1000000) (h : wpList P ops Q rest (a.put o.dst (strL (l ++ m))) w) : wpList P ops Q (o :: rest) a w :=
  wpList_plain hgd fun K hK => by
    unfold Oper.wp execOp
    simp only [ho, hx, hy, strL]
    have := run_strcat (P := P) T x y l m hl w
    rw [Sem.run_bind, this]
    exact hK _ _ h
end
theorem flat_snoc {α β : Type} (f : α → List β) (l : List α) (k : Nat) (h : k < l.length) : (l.take (k + 1)).flatMap f = (l.take k).flatMap f ++ f l[k] := by
  rw [List.take_succ_eq_append_getElem h, List.flatMap_append]; simp
theorem flat_be_length (k : Nat) (l : List Nat) : (l.flatMap (be k)).length = l.length * k := by
  induction l with
  | nil => simp
  | cons x l ih => simp [be_length, ih, Nat.add_mul]; omega
theorem flat_val_length (l : List ByteArray) (h : ∀ v ∈ l, v.size = 12) : (l.flatMap fun v => v.data.toList).length = l.length * 12 := by
  induction l with
  | nil => simp
  | cons x l ih =>
    have h1 := h x (by simp)
    have h2 : x.data.toList.length = 12 := h1
    simp only [List.flatMap_cons, List.length_append, h2, ih (fun v hv => h v (by simp [hv])), List.length_cons]
    omega
theorem node_Lay {x y z : Sl} {n : Nd} {w : World} (hn : NdR w x y z n) (h : n.right) : Calls Tryz.prog 15 #[.agg (ndV x y z n)] w fun e w' => e = .returned (.tuple #[strL n.bytes, .nilIface]) ∧ Below w.heap.size w w' := by
  have hS0 := Chg.nil w []
  have HRt := Lib.hid (fun (w' : World) (L : List It) (hw : Chg w w' [] L) => node_Right (hn.old hw) h)
  have h7 := h.1.2.2
  have hkey := h.1.1
  have hvs : ∀ v ∈ n.vals, v.size = 12 := by
    rcases h.2 with h2 | h2
    · exact h2.2.2
    · rw [h2.1]; simp
  have hvl : n.vals.length ≤ 7 := by
    rcases h.2 with h2 | h2
    · rw [h2.2.1]; exact h7
    · rw [h2.1]; simp
  have hkl : n.kids.length ≤ 8 := by
    rcases h.2 with h2 | h2
    · rw [h2.1]; simp
    · rw [h2.2.2.1]; omega
  have hkid : ∀ k ∈ n.kids, k < 256 := by
    rcases h.2 with h2 | h2
    · rw [h2.1]; simp
    · intro k hk; have := h2.2.2.2.1 k hk; omega
  clear h
  have HP := Lib.hid (fun (wd k : Nat) (w : World) (h1 : 1 ≤ wd) (h4 : wd ≤ 4) (hk : k < 256 ^ wd) => pack_Put wd k w h1 h4 hk)
  have HP2 : Hid (∀ w, Calls Tryz.prog 53 #[.int .i64 1, .int .i64 (n.keys.length : Int)] w fun e w' => e = .returned (strL (be 1 n.keys.length)) ∧ Below w.heap.size w w') := Lib.hid (fun w => HP.out 1 n.keys.length w (by omega) (by omega) (by omega))
  have HB : Hid ((ndV x y z n).size = 3) := Lib.hid rfl
  have Hf0 : Hid ((ndV x y z n)[0]? = some (.slice x.a n.keys.length x.c)) := Lib.hid rfl
  have Hf1 : Hid ((ndV x y z n)[1]? = some (.slice y.a n.vals.length y.c)) := Lib.hid rfl
  have Hf2 : Hid ((ndV x y z n)[2]? = some (.slice z.a n.kids.length z.c)) := Lib.hid rfl
  have HE := Lib.hid (show n.bytes = n.hd ++ n.keys.flatMap (be 4) ++ n.vals.flatMap (fun v => v.data.toList) ++ n.kids.flatMap (be 1) from rfl)
  have HE1 := Lib.hid (show n.hd = be 1 n.kind ++ be 1 n.keys.length from rfl)
  have hdl : n.hd.length = 2 := by simp [Nd.hd, be_length]
  have HL := Lib.hid (fun w => node_Leaf x y z n w)
  obtain ⟨kd, lf, Hlf, Hkd, hkd⟩ : ∃ (kd : Nat) (lf : Bool), Hid (decide (n.kids.length = 0) = lf) ∧ Hid (n.kind = kd) ∧ ((kd = 0 ∧ lf = true) ∨ (kd = 1 ∧ lf = false)) := by
    by_cases h0 : n.kids.length = 0
    · exact ⟨0, true, Lib.hid (by simp [h0]), Lib.hid (by simp [Nd.kind, h0]), .inl ⟨rfl, rfl⟩⟩
    · exact ⟨1, false, Lib.hid (by simp; intro e; simp [e] at h0), Lib.hid (by simp [Nd.kind, h0]), .inr ⟨rfl, rfl⟩⟩
  rw [Hlf.out] at HL
  have HP1 : Hid (∀ w, Calls Tryz.prog 53 #[.int .i64 1, .int .i64 (kd : Int)] w fun e w' => e = .returned (strL (be 1 n.kind)) ∧ Below w.heap.size w w') := Lib.hid (fun w => by rw [Hkd.out]; exact HP.out 1 kd w (by omega) (by omega) (by omega))
  clear Hlf Hkd
  have hK := hn.keys
  have hV := hn.vals
  have hC := hn.kids
  clear hn
  generalize ndV x y z n = nv at *
  generalize n.bytes = bts at *
  rcases hkd with ⟨rfl, rfl⟩ | ⟨rfl, rfl⟩
  all_goals
    go_enter Tryz.func15, Tryz.ntmps15
    go_wp2_with (first | (guard_target = wpList _ _ _ (Oper.mk _ (Op.box _ _) _ _ _ none :: _) _ _; (first | refine wl_box_agg (dst := 1) rfl ‹Chg _ _ _ _› rfl rfl rfl ?_ | refine wl_box_int (dst := 1) rfl ‹Chg _ _ _ _› rfl rfl rfl ?_ | refine wl_box_str (dst := 1) rfl ‹Chg _ _ _ _› rfl rfl rfl ?_ | refine wl_box_slice (dst := 1) rfl ‹Chg _ _ _ _› rfl rfl rfl ?_ | refine wl_box_ptr (dst := 1) rfl ‹Chg _ _ _ _› rfl rfl rfl ?_); intro b w1 hS1) | ((first | (guard_target = wpList _ _ _ (Oper.mk _ (Op.load 34 _) _ _ _ none :: _) _ _) | (guard_target = wpList _ _ _ (Oper.mk _ (Op.load 34 _) _ _ _ (some _) :: _) _ _; refine wl_unguard rfl ?_)); refine wl_loadw_0 ‹Chg _ _ _ _› rfl rfl rfl HB.out ?_) | (go_at_call 51; refine (HRt.out _ _ hS1).mono ?_; rintro e w2 ⟨rfl, hB2⟩; have hS2 := hS1.bel hB2; clear hS1) | (go_at_call 52; refine (HL.out _).mono ?_; rintro e w3 ⟨rfl, hB3⟩; have hS3 := hS2.bel hB3; clear hS2))
    refine wp_region_quiet_C (fun w' => Chg w w' [] [blk b nv 34]) (by kernel_rfl) (by kernel_rfl) hS3.drew ?_
    (go_big_quiet_want; go_big_quiet_op; first | go_big_quiet_on | (refine ⟨_, fun _ _ => rfl, ?_⟩; go_big_quiet_on))
    (go_big_quiet_want; go_big_quiet_op; refine ⟨_, fun w' hw' => (HP1.out _).mono (fun e w'' h => ⟨h.1, hw'.bel h.2⟩), ?_⟩; go_big_quiet_on)
    (go_big_quiet_want; go_big_quiet_op; first | go_big_quiet_on | (refine ⟨_, fun _ _ => rfl, ?_⟩; go_big_quiet_on))
    (go_big_quiet_want; refine quiet_load1 rfl rfl (fun w' hw' => (blk_cell (hw'.get 0 rfl) 0).trans Hf0.out) ?_; go_frame; go_big_quiet_on)
    (go_big_quiet_want; go_big_quiet_op; first | go_big_quiet_on | (refine ⟨_, fun _ _ => rfl, ?_⟩; go_big_quiet_on))
    (go_big_quiet_want; go_big_quiet_op; refine ⟨_, fun w' hw' => (HP2.out _).mono (fun e w'' h => ⟨h.1, hw'.bel h.2⟩), ?_⟩; go_big_quiet_on)
    (go_big_quiet_want; refine quiet_strcat rfl rfl rfl (by simp [be_length]) ?_; go_frame; go_big_quiet_on)
    (go_big_quiet_want; go_big_quiet_op; first | go_big_quiet_on | (refine ⟨_, fun _ _ => rfl, ?_⟩; go_big_quiet_on))
    refine wpQuiet_nil ?_
    intro w4 hS4
    clear hS3
    rw [← HE1.out]
    have hHd := Lib.hid hdl
    generalize n.hd = hd at *
    go_wp2_with (first | ((first | (guard_target = wpList _ _ _ (Oper.mk _ (Op.load 31 _) _ _ _ none :: _) _ _) | (guard_target = wpList _ _ _ (Oper.mk _ (Op.load 31 _) _ _ _ (some _) :: _) _ _; refine wl_unguard rfl ?_)); refine wl_load1_0 ‹Chg _ _ _ _› rfl rfl rfl Hf0.out ?_))
    go_loopw [5, 29] (fun v i w' => ∃ k : Nat, k ≤ n.keys.length ∧ i = .int .i64 k ∧ v = strL (hd ++ (n.keys.take k).flatMap (be 4)) ∧ Chg w w' [] [blk b nv 34]) (fun _ i _ => n.keys.length - (intOf i).toNat)
    case atStart => exact ⟨0, by omega, rfl, by simp [strL], hS4⟩
    case round =>
      obtain ⟨k, hk, rfl, rfl, hS⟩ := hrel
      clear hS4
      by_cases hlt : k < n.keys.length
      · obtain ⟨bk, off, hxa, hc0⟩ := (hK.old hS).at (by simp; omega)
        rw [hxa]
        have hc := SlR.ints hc0 k hlt
        have Ht : Hid (hd ++ (n.keys.take (k + 1)).flatMap (be 4) = (hd ++ (n.keys.take k).flatMap (be 4)) ++ be 4 n.keys[k]) := Lib.hid (by rw [flat_snoc _ _ _ hlt, List.append_assoc])
        have HPk := Lib.hid (fun w => HP.out 4 n.keys[k] w (by omega) (by omega) (hkey _ (by simp)))
        have Hln : Hid ((hd ++ (n.keys.take k).flatMap (be 4)).length + (be 4 n.keys[k]).length ≤ 1000000) := Lib.hid (by simp only [List.length_append, flat_be_length, hHd.out, be_length, List.length_take]; omega)
        clear hc0
        generalize hd ++ (n.keys.take k).flatMap (be 4) = s1 at *
        generalize n.keys[k] = key at *
        go_wp2_with (first | (go_at_call 53; refine (HPk.out _).mono ?_; rintro e w5 ⟨rfl, hB5⟩; have hS5 := hS.bel hB5; clear hS) | (guard_target = wpList _ _ _ (Oper.mk _ (Op.binOp .add 9 _ _ _) _ _ _ none :: _) _ _; refine wl_strcat rfl rfl rfl rfl Hln.out ?_))
        go_roundw
        case rel => exact ⟨k + 1, by omega, by go_num, by rw [Ht.out], hS5⟩
        case measure => simp [intOf]; omega
      · have : k = n.keys.length := by omega
        subst this
        rw [List.take_length]
        have Hl1 : Hid ((hd ++ n.keys.flatMap (be 4)).length ≤ 100) := Lib.hid (by simp only [List.length_append, flat_be_length, hHd.out]; omega)
        generalize hd ++ n.keys.flatMap (be 4) = h1 at *
        clear hkey hK
        go_wp2_with (first | ((first | (guard_target = wpList _ _ _ (Oper.mk _ (Op.load 32 _) _ _ _ none :: _) _ _) | (guard_target = wpList _ _ _ (Oper.mk _ (Op.load 32 _) _ _ _ (some _) :: _) _ _; refine wl_unguard rfl ?_)); refine wl_load1_0 ‹Chg _ _ _ _› rfl rfl rfl Hf1.out ?_))
        go_loopw [5, 41] (fun v i w' => ∃ k : Nat, k ≤ n.vals.length ∧ i = .int .i64 k ∧ v = strL (h1 ++ (n.vals.take k).flatMap (fun v => v.data.toList)) ∧ Chg w w' [] [blk b nv 34]) (fun _ i _ => n.vals.length - (intOf i).toNat)
        case atStart => exact ⟨0, by omega, rfl, by simp, hS⟩
        case round =>
          obtain ⟨k, hk, rfl, rfl, hS2⟩ := hrel
          clear hS
          by_cases hlt : k < n.vals.length
          · obtain ⟨bk, off, hya, hc0⟩ := (hV.old hS2).at (by simp; omega)
            rw [hya]
            have hc := SlR.strs hc0 k hlt
            have Ht : Hid (h1 ++ (n.vals.take (k + 1)).flatMap (fun v => v.data.toList) = (h1 ++ (n.vals.take k).flatMap (fun v => v.data.toList)) ++ n.vals[k].data.toList) := Lib.hid (by rw [flat_snoc _ _ _ hlt, List.append_assoc])
            have Hln : Hid ((h1 ++ (n.vals.take k).flatMap (fun v => v.data.toList)).length + n.vals[k].data.toList.length ≤ 1000000) := Lib.hid (by
              have h2 : n.vals[k].data.toList.length = 12 := hvs _ (by simp)
              simp only [List.length_append, flat_val_length _ (fun v hv => hvs v (List.mem_of_mem_take hv)), h2, List.length_take]
              have := Hl1.out
              omega)
            have Hst := Lib.hid (strL_of n.vals[k])
            clear hc0
            generalize h1 ++ (n.vals.take k).flatMap (fun v => v.data.toList) = s1 at *
            generalize n.vals[k] = val at *
            go_wp2_with (first | (guard_target = wpList _ _ _ (Oper.mk _ (Op.binOp .add 9 _ _ _) _ _ _ none :: _) _ _; refine wl_strcat rfl rfl rfl Hst.out Hln.out ?_))
            go_roundw
            case rel => exact ⟨k + 1, by omega, by go_num, by rw [Ht.out], hS2⟩
            case measure => simp [intOf]; omega
          · have : k = n.vals.length := by omega
            subst this
            rw [List.take_length]
            have Hl2 : Hid ((h1 ++ n.vals.flatMap (fun v => v.data.toList)).length ≤ 500) := Lib.hid (by
              simp only [List.length_append, flat_val_length _ hvs]
              have := Hl1.out
              omega)
            generalize h1 ++ n.vals.flatMap (fun v => v.data.toList) = h2 at *
            clear hvs hV
            go_wp2_with (first | ((first | (guard_target = wpList _ _ _ (Oper.mk _ (Op.load 31 _) _ _ _ none :: _) _ _) | (guard_target = wpList _ _ _ (Oper.mk _ (Op.load 31 _) _ _ _ (some _) :: _) _ _; refine wl_unguard rfl ?_)); refine wl_load1_0 ‹Chg _ _ _ _› rfl rfl rfl Hf2.out ?_))
            go_loopw [5, 52] (fun v i w' => ∃ k : Nat, k ≤ n.kids.length ∧ i = .int .i64 k ∧ v = strL (h2 ++ (n.kids.take k).flatMap (be 1)) ∧ Chg w w' [] [blk b nv 34]) (fun _ i _ => n.kids.length - (intOf i).toNat)
            case atStart => exact ⟨0, by omega, rfl, by simp, hS2⟩
            case round =>
              obtain ⟨k, hk, rfl, rfl, hS3⟩ := hrel
              clear hS2
              by_cases hlt : k < n.kids.length
              · obtain ⟨bk, off, hza, hc0⟩ := (hC.old hS3).at (by simp; omega)
                rw [hza]
                have hc := SlR.ints hc0 k hlt
                have Ht : Hid (h2 ++ (n.kids.take (k + 1)).flatMap (be 1) = (h2 ++ (n.kids.take k).flatMap (be 1)) ++ be 1 n.kids[k]) := Lib.hid (by rw [flat_snoc _ _ _ hlt, List.append_assoc])
                have HPk := Lib.hid (fun w => HP.out 1 n.kids[k] w (by omega) (by omega) (hkid _ (by simp)))
                have Hln : Hid ((h2 ++ (n.kids.take k).flatMap (be 1)).length + (be 1 n.kids[k]).length ≤ 1000000) := Lib.hid (by
                  simp only [List.length_append, flat_be_length, be_length, List.length_take]
                  have := Hl2.out
                  omega)
                clear hc0
                generalize h2 ++ (n.kids.take k).flatMap (be 1) = s1 at *
                generalize n.kids[k] = key at *
                go_wp2_with (first | (go_at_call 53; refine (HPk.out _).mono ?_; rintro e w5 ⟨rfl, hB5⟩; have hS5 := hS3.bel hB5; clear hS3) | (guard_target = wpList _ _ _ (Oper.mk _ (Op.binOp .add 9 _ _ _) _ _ _ none :: _) _ _; refine wl_strcat rfl rfl rfl rfl Hln.out ?_))
                go_roundw
                case rel => exact ⟨k + 1, by omega, by go_num, by rw [Ht.out], hS5⟩
                case measure => simp [intOf]; omega
              · have : k = n.kids.length := by omega
                subst this
                rw [List.take_length]
                rw [← HE.out]
                go_wp2
                go_ret2
                exact ⟨rfl, hS3.below⟩
end Go.Dyn
namespace Go.Dyn
open Go Go.RowKit Go.Proofs
set_option maxHeartbeats 1000000
section
variable {P : Program} {ops : Array Oper} {Q : Exit → Act → World → Prop} {rest : List Oper} {o : Oper} {a : Act} {w : World}
theorem run_strTo {T : TypeId} (hu : P.underlying T = some .string) (l : List UInt8) (k : Nat) (q : IntKind) (hk : k ≤ l.length) (w : World) : (Instr.sliceAt T (.string ⟨l.toArray⟩) none (some (.int q (k : Int))) none).run P w = .ok (.string ⟨(l.take k).toArray⟩) w := by
  rw [run_sliceAt_string _ T _ _ _ _ hu, run_slice_string_to_if _ T _ q _ hu]
  rw [if_pos ⟨by omega, by simp [ByteArray.size]; omega⟩]
  congr 2
  apply ByteArray.ext
  apply Array.ext'
  simp [ByteArray.data_extract]
theorem wl_strFrom {T : TypeId} {x : Operand} {i : Operand} (hu : P.underlying T = some .string) (hgd : o.guard = none) (ho : o.op = .slice T x (some i) none none) {l : List UInt8} (hx : a.eval x = strL l) {q : IntKind} {k : Nat} (hi : a.eval i = .int q (k : Int)) (hk : k ≤ l.length) (h : wpList P ops Q rest (a.put o.dst (strL (l.drop k))) w) : wpList P ops Q (o :: rest) a w :=
  wpList_plain hgd fun K hK => by
    unfold Oper.wp execOp
    simp only [ho, hx, hi, strL, Option.map_some, Option.map_none, Sem.run_bind, run_strFrom hu l k q hk, Result.andThen_ok, Sem.run_pure]
    exact hK _ _ h
theorem wl_strTo {T : TypeId} {x : Operand} {i : Operand} (hu : P.underlying T = some .string) (hgd : o.guard = none) (ho : o.op = .slice T x none (some i) none) {l : List UInt8} (hx : a.eval x = strL l) {q : IntKind} {k : Nat} (hi : a.eval i = .int q (k : Int)) (hk : k ≤ l.length) (h : wpList P ops Q rest (a.put o.dst (strL (l.take k))) w) : wpList P ops Q (o :: rest) a w :=
  wpList_plain hgd fun K hK => by
    unfold Oper.wp execOp
    simp only [ho, hx, hi, strL, Option.map_some, Option.map_none, Sem.run_bind, run_strTo hu l k q hk, Result.andThen_ok, Sem.run_pure]
    exact hK _ _ h
end
theorem node_take {b1 b4 : Nat} {l : List UInt8} {L : List It} {F : List Nat} {w0 w : World} (hS : Chg w0 w F (blk b1 #[strL l] 9 :: L)) (k : Nat) (hk : k ≤ l.length) (hl : l.length ≤ 1000) :
    Calls Tryz.prog 156 #[.int .i64 (k : Int), ptr b1, ptr b4] w fun e w' => e = .returned (strL (l.take k)) ∧ Chg w0 w' F (blk b1 #[strL (l.drop k)] 9 :: L) := by
  have hlen : ((⟨l.toArray⟩ : ByteArray).size : Int) = l.length := by simp [ByteArray.size]
  have e1 : decide ((l.length : Int) < (k : Int)) = false := by simp; omega
  unfold strL at *
  go_enter Tryz.func156, Tryz.ntmps156
  go_wp2_with (first | ((first | (guard_target = wpList _ _ _ (Oper.mk _ (Op.load 9 _) _ _ _ none :: _) _ _) | (guard_target = wpList _ _ _ (Oper.mk _ (Op.load 9 _) _ _ _ (some _) :: _) _ _; refine wl_unguard rfl ?_)); refine wl_load1_0 hS rfl rfl rfl rfl ?_) | (guard_target = wpList _ _ _ (Oper.mk _ (Op.slice _ _ none _ none) _ _ _ none :: _) _ _; refine wl_strTo Tryz.underlying9 rfl rfl rfl rfl hk ?_) | (guard_target = wpList _ _ _ (Oper.mk _ (Op.slice _ _ _ _ _) _ _ _ none :: _) _ _; refine wl_strFrom Tryz.underlying9 rfl rfl rfl rfl hk ?_) | (guard_target = wpList _ _ _ (Oper.mk _ (Op.store 9 _ _) _ _ _ none :: _) _ _; refine wl_store1_0 hS rfl rfl rfl rfl rfl (by simp) ?_; intro w1 hS1; clear hS))
  go_ret
  exact ⟨rfl, hS1⟩
theorem node_number {b1 b4 b5 : Nat} {l : List UInt8} {L : List It} {F : List Nat} {w0 w : World} (hS : Chg w0 w F (blk b1 #[strL l] 9 :: blk b5 #[.func (.func 156) #[] #[ptr b1, ptr b4]] 241 :: L)) (k : Nat) (h1 : 1 ≤ k) (h4 : k ≤ 4) (hk : k ≤ l.length) (hl : l.length ≤ 1000) :
    Calls Tryz.prog 157 #[.int .i64 (k : Int), ptr b5] w fun e w' => e = .returned (.int .i64 (beVal (l.take k) : Nat)) ∧ Chg w0 w' F (blk b1 #[strL (l.drop k)] 9 :: blk b5 #[.func (.func 156) #[] #[ptr b1, ptr b4]] 241 :: L) := by
  have hG : Hid (∀ w, Calls Tryz.prog 139 #[strL (l.take k), .int .i64 (k : Int)] w fun e w' => e = .returned (.tuple #[.int .i64 (beVal (l.take k) : Nat), .nilIface]) ∧ w = w') := Lib.hid (fun w => by
    have := pack_Get ⟨(l.take k).toArray⟩ k w h1 h4 (by simp [ByteArray.size]; omega) (by simp [ByteArray.size]; omega)
    simpa [List.take_take, strL] using this)
  go_enter Tryz.func157, Tryz.ntmps157
  go_wp2_with (first | ((first | (guard_target = wpList _ _ _ (Oper.mk _ (Op.load 241 _) _ _ _ none :: _) _ _) | (guard_target = wpList _ _ _ (Oper.mk _ (Op.load 241 _) _ _ _ (some _) :: _) _ _; refine wl_unguard rfl ?_)); refine wl_load1_1 hS rfl rfl rfl rfl ?_) | (go_at_call 156; refine (node_take hS k hk hl).mono ?_; rintro e w1 ⟨rfl, hS1⟩; clear hS) | (go_at_call 139; refine (hG.out _).mono ?_; rintro e w2 ⟨rfl, rfl⟩))
  go_ret
  exact ⟨rfl, hS1⟩

theorem node_take_app {b1 b4 : Nat} {u rest : List UInt8} {L : List It} {F : List Nat} {w0 w : World} (hS : Chg w0 w F (blk b1 #[strL (u ++ rest)] 9 :: L)) (k : Nat) (hk : u.length = k) (hl : (u ++ rest).length ≤ 1000) :
    Calls Tryz.prog 156 #[.int .i64 (k : Int), ptr b1, ptr b4] w fun e w' => e = .returned (strL u) ∧ Chg w0 w' F (blk b1 #[strL rest] 9 :: L) := by
  have := node_take (b4 := b4) hS k (by simp; omega) hl
  subst hk
  simpa using this
theorem beVal_be {k m : Nat} (hk : k = 1 ∧ m < 256 ∨ k = 4 ∧ m < 4294967296) : beVal (be k m) = m := by
  rcases hk with ⟨rfl, h⟩ | ⟨rfl, h⟩
  · exact beVal_be1 m h
  · exact beVal_be4 m h
theorem node_number_be {b1 b4 b5 : Nat} {k m : Nat} {rest : List UInt8} {L : List It} {F : List Nat} {w0 w : World} (hS : Chg w0 w F (blk b1 #[strL (be k m ++ rest)] 9 :: blk b5 #[.func (.func 156) #[] #[ptr b1, ptr b4]] 241 :: L)) (hk : k = 1 ∧ m < 256 ∨ k = 4 ∧ m < 4294967296) (hl : (be k m ++ rest).length ≤ 1000) :
    Calls Tryz.prog 157 #[.int .i64 (k : Int), ptr b5] w fun e w' => e = .returned (.int .i64 (m : Int)) ∧ Chg w0 w' F (blk b1 #[strL rest] 9 :: blk b5 #[.func (.func 156) #[] #[ptr b1, ptr b4]] 241 :: L) := by
  have := node_number hS k (by omega) (by omega) (by simp [be_length]) hl
  have e1 : (be k m ++ rest).take k = be k m := by rw [List.take_append_of_le_length (by simp [be_length]), List.take_of_length_le (by simp [be_length])]
  have e2 : (be k m ++ rest).drop k = rest := by rw [List.drop_append_of_le_length (by simp [be_length]), List.drop_eq_nil_of_le (by simp [be_length]), List.nil_append]
  rw [e1, e2, beVal_be hk] at this
  exact this
end Go.Dyn
