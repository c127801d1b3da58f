/- Part of the proof that CheckWrong returns true, whatever the four bytes; tied to the program's own text (part 7 of 14) -/
import Derived.Test.YtgnkmahdcomjcaaGreatDoorCW06
import Derived.Lib.Hide
import Derived.LoopTactic
import Derived.Lib.ConvBytes
import Derived.Laws.Cover3
set_option linter.unusedVariables false
set_option linter.unusedSimpArgs false
namespace Go.Dyn
open Go Go.RowKit Go.Proofs
set_option maxRecDepth 20000
set_option maxHeartbeats 400000

theorem u8_ofInt (x : UInt8) : BitVec.ofInt 8 (x.toNat : Int) = x.toBitVec := by
  apply BitVec.eq_of_toNat_eq
  simp
theorem u8_mod (x : UInt8) : ((x.toNat : Int)) % 256 = x.toNat := by have := x.toNat_lt; omega
theorem bits_and8 (x y : UInt8) : bits .and .u8 (x.toNat : Int) (y.toNat : Int) = ((x &&& y).toNat : Int) := by
  have := u8_mod (x &&& y)
  unfold bits
  simp only [IntKind.bits, u8_ofInt, IntKind.wrap_u8]
  exact this
theorem bits_or8 (x y : UInt8) : bits .or .u8 (x.toNat : Int) (y.toNat : Int) = ((x ||| y).toNat : Int) := by
  have := u8_mod (x ||| y)
  unfold bits
  simp only [IntKind.bits, u8_ofInt, IntKind.wrap_u8]
  exact this
theorem bits_andNot8 (x y : UInt8) : bits .andNot .u8 (x.toNat : Int) (y.toNat : Int) = ((x &&& ~~~ y).toNat : Int) := by
  have := u8_mod (x &&& ~~~ y)
  unfold bits
  simp only [IntKind.bits, u8_ofInt, IntKind.wrap_u8]
  exact this
theorem bits_may_yes (n : Int) (w : World) (h0 : 0 ≤ n) (h1 : n < 240) :
    Calls Tryz.prog 91 #[.int .i64 n] w fun e w' => e = .returned (.bool true) ∧ w = w' := by
  go_enter Tryz.func91, Tryz.ntmps91
  go_wp2
  go_ret
  exact ⟨rfl, rfl⟩
theorem bits_may_no (n : Int) (w : World) (h : n < 0 ∨ 240 ≤ n) :
    Calls Tryz.prog 91 #[.int .i64 n] w fun e w' => e = .returned (.bool false) ∧ w = w' := by
  rcases h with h | h
  · go_enter Tryz.func91, Tryz.ntmps91
    go_wp2
    go_ret
    exact ⟨rfl, rfl⟩
  · have h' : 0 ≤ n := by omega
    go_enter Tryz.func91, Tryz.ntmps91
    go_wp2
    go_ret
    refine ⟨?_, rfl⟩
    simp
    omega
theorem bits_bit (n : Nat) (w : World) (h1 : n < 240) :
    Calls Tryz.prog 92 #[.int .i64 n] w fun e w' => e = .returned (.int .u8 (bitU n).toNat) ∧ w = w' := by
  go_enter Tryz.func92, Tryz.ntmps92
  go_wp2
  go_ret
  refine ⟨?_, rfl⟩
  rw [bitU_toNat]
  rcases mod8 n with h | h | h | h | h | h | h | h <;> simp [h]
theorem and_ne (x y : UInt8) : ((((x &&& y).toNat : Int)) != 0) = ((x &&& y) != 0) := by
  have h : ((x &&& y).toNat : Int) = 0 ↔ (x &&& y) = 0 := by
    constructor
    · intro h
      have : (x &&& y).toNat = (0 : UInt8).toNat := by simpa using h
      exact UInt8.toNat_inj.1 this
    · intro h; rw [h]; rfl
  rw [Bool.eq_iff_iff]
  simp only [bne_iff_ne, ne_eq, h]
theorem bits_Has (s : BSet) (n : Nat) (w : World) (h1 : n < 240) :
    Calls Tryz.prog 64 #[.agg s.enc, .int .i64 n] w fun e w' => e = .returned (.bool (s.has n)) ∧ Below w.heap.size w w' := by
  have hS0 := Chg.nil w []
  go_enter Tryz.func64, Tryz.ntmps64
  go_wp2_with (guard_target = wpList _ _ _ (Oper.mk _ (Op.box _ _) _ _ _ none :: _) _ _; (first | refine wl_box_agg (dst := 2) rfl ‹Chg _ _ _ _› rfl rfl rfl ?_ | refine wl_box_int (dst := 2) rfl ‹Chg _ _ _ _› rfl rfl rfl ?_ | refine wl_box_str (dst := 2) rfl ‹Chg _ _ _ _› rfl rfl rfl ?_ | refine wl_box_slice (dst := 2) rfl ‹Chg _ _ _ _› rfl rfl rfl ?_ | refine wl_box_ptr (dst := 2) rfl ‹Chg _ _ _ _› rfl rfl rfl ?_); intro b w1 hS1)
  have hc : w1.cell? ⟨b, n / 8, none⟩ = some (.int .u8 ((s.byte (n / 8)).toNat : Int)) := (blk_cell hS1.head _).trans (s.at_ _ (by omega))
  have h2 : n / 8 < 30 := by omega
  go_quiet ((first | (go_at_call 91; exact Calls.quiet_of_same ((bits_may_yes _ _ (by omega) (by omega)).mono fun _ _ h => ⟨h.1, h.2.symm⟩)) | (go_at_call 92; exact Calls.quiet_of_same ((bits_bit _ _ (by omega)).mono fun _ _ h => ⟨h.1, h.2.symm⟩))))
  go_wp2
  go_ret
  refine ⟨?_, (hS1.drewN _).below⟩
  simp only [bits_and8, and_ne]
  simp [BSet.has, h1, BSet.byte]
theorem bits_Has_no (s : BSet) (n : Int) (w : World) (h : n < 0 ∨ 240 ≤ n) :
    Calls Tryz.prog 64 #[.agg s.enc, .int .i64 n] w fun e w' => e = .returned (.bool false) ∧ Below w.heap.size w w' := by
  have hS0 := Chg.nil w []
  go_enter Tryz.func64, Tryz.ntmps64
  go_wp2_with (guard_target = wpList _ _ _ (Oper.mk _ (Op.box _ _) _ _ _ none :: _) _ _; (first | refine wl_box_agg (dst := 2) rfl ‹Chg _ _ _ _› rfl rfl rfl ?_ | refine wl_box_int (dst := 2) rfl ‹Chg _ _ _ _› rfl rfl rfl ?_ | refine wl_box_str (dst := 2) rfl ‹Chg _ _ _ _› rfl rfl rfl ?_ | refine wl_box_slice (dst := 2) rfl ‹Chg _ _ _ _› rfl rfl rfl ?_ | refine wl_box_ptr (dst := 2) rfl ‹Chg _ _ _ _› rfl rfl rfl ?_); intro b w1 hS1)
  go_quiet ((first | (go_at_call 91; exact Calls.quiet_of_same ((bits_may_no _ _ h).mono fun _ _ h => ⟨h.1, h.2.symm⟩))))
  go_wp2
  go_ret
  exact ⟨rfl, (hS1.drewN _).below⟩
theorem bits_HasI (s : BSet) (n : Int) (w : World) :
    Calls Tryz.prog 64 #[.agg s.enc, .int .i64 n] w fun e w' => e = .returned (.bool (s.hasI n)) ∧ Below w.heap.size w w' := by
  by_cases h0 : 0 ≤ n
  · obtain ⟨m, rfl⟩ := Int.eq_ofNat_of_zero_le h0
    by_cases h1 : m < 240
    · have := bits_Has s m w h1
      simpa [BSet.hasI] using this
    · have := bits_Has_no s m w (.inr (by omega))
      have e : s.hasI m = false := by simp [BSet.hasI, BSet.has, h1]
      rw [e]; exact this
  · have := bits_Has_no s n w (.inl (by omega))
    have e : s.hasI n = false := by simp [BSet.hasI, h0]
    rw [e]; exact this
theorem bits_With (s : BSet) (n : Nat) (w : World) (h1 : n < 240) :
    Calls Tryz.prog 59 #[.agg s.enc, .int .i64 n] w fun e w' => e = .returned (.agg (s.add n).enc) ∧ Below w.heap.size w w' := by
  have hS0 := Chg.nil w []
  go_enter Tryz.func59, Tryz.ntmps59
  go_wp2_with (first | (guard_target = wpList _ _ _ (Oper.mk _ (Op.box _ _) _ _ _ none :: _) _ _; (first | refine wl_box_agg (dst := 2) rfl ‹Chg _ _ _ _› rfl rfl rfl ?_ | refine wl_box_int (dst := 2) rfl ‹Chg _ _ _ _› rfl rfl rfl ?_ | refine wl_box_str (dst := 2) rfl ‹Chg _ _ _ _› rfl rfl rfl ?_ | refine wl_box_slice (dst := 2) rfl ‹Chg _ _ _ _› rfl rfl rfl ?_ | refine wl_box_ptr (dst := 2) rfl ‹Chg _ _ _ _› rfl rfl rfl ?_); intro b w1 hS1) | (guard_target = wpList _ _ _ (Oper.mk _ (Op.alloc _) _ _ _ none :: _) _ _; (refine wl_alloc_agg (dst := 4) rfl ‹Chg _ _ _ _› rfl rfl ?_); intro b2 w2 hS2) | (go_at_call 91; refine (bits_may_yes _ _ (by omega) (by omega)).mono ?_; rintro e w' ⟨rfl, rfl⟩))
  have hc : w2.cell? ⟨b, n / 8, none⟩ = some (.int .u8 ((s.byte (n / 8)).toNat : Int)) := (blk_cell (hS2.get 1 rfl) _).trans (s.at_ _ (by omega))
  have h2 : n / 8 < 30 := by omega
  refine wp_region_quiet_tail 8 (fun w' => ∃ n, w' = w2.drewN n) (by kernel_rfl) (by kernel_rfl) ⟨1, rfl⟩ ?_
  simp only [List.take_succ_cons, List.take_zero, List.drop_succ_cons, List.drop_zero]
  repeat (go_big_quiet_step ((go_at_call 92; exact Calls.quiet_of_same ((bits_bit _ _ (by omega)).mono fun _ _ h => ⟨h.1, h.2.symm⟩))))
  (refine wpQuiet_nil ?_; rintro _ ⟨nq, rfl⟩)
  have hS3 := hS2.drewN nq
  simp only [bits_or8]
  generalize hy : s.byte (n / 8) ||| bitU n = y
  have Hy := Lib.hid hy
  clear hy hc
  refine wl_store1_1 (v := .int _ _) hS3 rfl rfl rfl rfl rfl (by simp; omega) ?_
  intro w4 hS4
  rw [← Hy.out, BSet.enc_add] at hS4
  clear Hy
  go_wp2_with (first | (first | refine wl_loadw_0 ‹Chg _ _ _ _› rfl rfl rfl (by simp) ?_ | refine wl_loadw_1 ‹Chg _ _ _ _› rfl rfl rfl (by simp) ?_ | refine wl_loadw_2 ‹Chg _ _ _ _› rfl rfl rfl (by simp) ?_ | refine wl_loadw_3 ‹Chg _ _ _ _› rfl rfl rfl (by simp) ?_ | refine wl_loadw_4 ‹Chg _ _ _ _› rfl rfl rfl (by simp) ?_ | refine wl_loadw_5 ‹Chg _ _ _ _› rfl rfl rfl (by simp) ?_) | ((first | refine wl_storew_0 ‹Chg _ _ _ _› rfl rfl rfl rfl (by simp) (by first | exact BSet.one | exact Pg.one) (by simp) ?_ | refine wl_storew_1 ‹Chg _ _ _ _› rfl rfl rfl rfl (by simp) (by first | exact BSet.one | exact Pg.one) (by simp) ?_ | refine wl_storew_2 ‹Chg _ _ _ _› rfl rfl rfl rfl (by simp) (by first | exact BSet.one | exact Pg.one) (by simp) ?_ | refine wl_storew_3 ‹Chg _ _ _ _› rfl rfl rfl rfl (by simp) (by first | exact BSet.one | exact Pg.one) (by simp) ?_ | refine wl_storew_4 ‹Chg _ _ _ _› rfl rfl rfl rfl (by simp) (by first | exact BSet.one | exact Pg.one) (by simp) ?_ | refine wl_storew_5 ‹Chg _ _ _ _› rfl rfl rfl rfl (by simp) (by first | exact BSet.one | exact Pg.one) (by simp) ?_); intro w5 hS5))
  exact ret_row 0 hS5 rfl rfl rfl (by simp) rfl ⟨rfl, hS5.below⟩
theorem bits_Without (s : BSet) (n : Nat) (w : World) (h1 : n < 240) :
    Calls Tryz.prog 71 #[.agg s.enc, .int .i64 n] w fun e w' => e = .returned (.agg (s.del n).enc) ∧ Below w.heap.size w w' := by
  have hS0 := Chg.nil w []
  go_enter Tryz.func71, Tryz.ntmps71
  go_wp2_with (first | (guard_target = wpList _ _ _ (Oper.mk _ (Op.box _ _) _ _ _ none :: _) _ _; (first | refine wl_box_agg (dst := 2) rfl ‹Chg _ _ _ _› rfl rfl rfl ?_ | refine wl_box_int (dst := 2) rfl ‹Chg _ _ _ _› rfl rfl rfl ?_ | refine wl_box_str (dst := 2) rfl ‹Chg _ _ _ _› rfl rfl rfl ?_ | refine wl_box_slice (dst := 2) rfl ‹Chg _ _ _ _› rfl rfl rfl ?_ | refine wl_box_ptr (dst := 2) rfl ‹Chg _ _ _ _› rfl rfl rfl ?_); intro b w1 hS1) | (guard_target = wpList _ _ _ (Oper.mk _ (Op.alloc _) _ _ _ none :: _) _ _; (refine wl_alloc_agg (dst := 4) rfl ‹Chg _ _ _ _› rfl rfl ?_); intro b2 w2 hS2) | (go_at_call 91; refine (bits_may_yes _ _ (by omega) (by omega)).mono ?_; rintro e w' ⟨rfl, rfl⟩))
  have hc : w2.cell? ⟨b, n / 8, none⟩ = some (.int .u8 ((s.byte (n / 8)).toNat : Int)) := (blk_cell (hS2.get 1 rfl) _).trans (s.at_ _ (by omega))
  have h2 : n / 8 < 30 := by omega
  refine wp_region_quiet_tail 8 (fun w' => ∃ n, w' = w2.drewN n) (by kernel_rfl) (by kernel_rfl) ⟨1, rfl⟩ ?_
  simp only [List.take_succ_cons, List.take_zero, List.drop_succ_cons, List.drop_zero]
  repeat (go_big_quiet_step ((go_at_call 92; exact Calls.quiet_of_same ((bits_bit _ _ (by omega)).mono fun _ _ h => ⟨h.1, h.2.symm⟩))))
  (refine wpQuiet_nil ?_; rintro _ ⟨nq, rfl⟩)
  have hS3 := hS2.drewN nq
  simp only [bits_andNot8]
  generalize hy : s.byte (n / 8) &&& ~~~ bitU n = y
  have Hy := Lib.hid hy
  clear hy hc
  refine wl_store1_1 (v := .int _ _) hS3 rfl rfl rfl rfl rfl (by simp; omega) ?_
  intro w4 hS4
  rw [← Hy.out, BSet.enc_del] at hS4
  clear Hy
  go_wp2_with (first | (first | refine wl_loadw_0 ‹Chg _ _ _ _› rfl rfl rfl (by simp) ?_ | refine wl_loadw_1 ‹Chg _ _ _ _› rfl rfl rfl (by simp) ?_ | refine wl_loadw_2 ‹Chg _ _ _ _› rfl rfl rfl (by simp) ?_ | refine wl_loadw_3 ‹Chg _ _ _ _› rfl rfl rfl (by simp) ?_ | refine wl_loadw_4 ‹Chg _ _ _ _› rfl rfl rfl (by simp) ?_ | refine wl_loadw_5 ‹Chg _ _ _ _› rfl rfl rfl (by simp) ?_) | ((first | refine wl_storew_0 ‹Chg _ _ _ _› rfl rfl rfl rfl (by simp) (by first | exact BSet.one | exact Pg.one) (by simp) ?_ | refine wl_storew_1 ‹Chg _ _ _ _› rfl rfl rfl rfl (by simp) (by first | exact BSet.one | exact Pg.one) (by simp) ?_ | refine wl_storew_2 ‹Chg _ _ _ _› rfl rfl rfl rfl (by simp) (by first | exact BSet.one | exact Pg.one) (by simp) ?_ | refine wl_storew_3 ‹Chg _ _ _ _› rfl rfl rfl rfl (by simp) (by first | exact BSet.one | exact Pg.one) (by simp) ?_ | refine wl_storew_4 ‹Chg _ _ _ _› rfl rfl rfl rfl (by simp) (by first | exact BSet.one | exact Pg.one) (by simp) ?_ | refine wl_storew_5 ‹Chg _ _ _ _› rfl rfl rfl rfl (by simp) (by first | exact BSet.one | exact Pg.one) (by simp) ?_); intro w5 hS5))
  exact ret_row 0 hS5 rfl rfl rfl (by simp) rfl ⟨rfl, hS5.below⟩
/-- Both, so far as they have been gone through. -/
def BSet.orTo (s t : BSet) (k : Nat) : BSet := ⟨(List.range 30).map fun i => if i < k then s.byte i ||| t.byte i else s.byte i, by simp⟩
theorem BSet.orTo_byte (s t : BSet) (k i : Nat) (h : i < 30) : (s.orTo t k).byte i = if i < k then s.byte i ||| t.byte i else s.byte i := by simp [BSet.orTo, BSet.byte, h]
theorem BSet.orTo_zero (s t : BSet) : s.orTo t 0 = s := by
  apply BSet.ext
  apply List.ext_getElem (by simp [BSet.orTo, s.len])
  intro i h1 h2
  simp [BSet.orTo, BSet.byte, h2]
theorem BSet.orTo_all (s t : BSet) : s.orTo t 30 = s.or t := by
  apply BSet.ext
  simp only [BSet.orTo, BSet.or, orL, s.len]
  apply List.map_congr_left
  intro i hi
  simp at hi
  simp [hi, BSet.byte]
theorem BSet.orTo_succ (s t : BSet) (k : Nat) (h : k < 30) : (s.orTo t k).enc.setIfInBounds k (.int .u8 ((s.byte k ||| t.byte k).toNat : Int)) = (s.orTo t (k + 1)).enc := by
  rw [BSet.enc_set]
  congr 1
  apply BSet.ext
  apply List.ext_getElem (by simp [BSet.orTo])
  intro i h1 h2
  simp only [BSet.orTo, List.getElem_set, List.getElem_map, List.getElem_range]
  by_cases e : k = i
  · subst e; simp
  · by_cases e2 : i < k
    · simp [e, e2, show i < k + 1 by omega]
    · simp [e, e2, show ¬ i < k + 1 by omega]
theorem bits_Both (s t : BSet) (w : World) :
    Calls Tryz.prog 56 #[.agg s.enc, .agg t.enc] w fun e w' => e = .returned (.agg (s.or t).enc) ∧ Below w.heap.size w w' := by
  have hS0 := Chg.nil w []
  go_enter Tryz.func56, Tryz.ntmps56
  go_wp2_with (first | (guard_target = wpList _ _ _ (Oper.mk _ (Op.box _ _) _ _ _ none :: _) _ _; (first | refine wl_box_agg (dst := 2) rfl ‹Chg _ _ _ _› rfl rfl rfl ?_ | refine wl_box_int (dst := 2) rfl ‹Chg _ _ _ _› rfl rfl rfl ?_ | refine wl_box_str (dst := 2) rfl ‹Chg _ _ _ _› rfl rfl rfl ?_ | refine wl_box_slice (dst := 2) rfl ‹Chg _ _ _ _› rfl rfl rfl ?_ | refine wl_box_ptr (dst := 2) rfl ‹Chg _ _ _ _› rfl rfl rfl ?_); intro b0 w1 hS1) | (guard_target = wpList _ _ _ (Oper.mk _ (Op.box _ _) _ _ _ none :: _) _ _; (first | refine wl_box_agg (dst := 3) rfl ‹Chg _ _ _ _› rfl rfl rfl ?_ | refine wl_box_int (dst := 3) rfl ‹Chg _ _ _ _› rfl rfl rfl ?_ | refine wl_box_str (dst := 3) rfl ‹Chg _ _ _ _› rfl rfl rfl ?_ | refine wl_box_slice (dst := 3) rfl ‹Chg _ _ _ _› rfl rfl rfl ?_ | refine wl_box_ptr (dst := 3) rfl ‹Chg _ _ _ _› rfl rfl rfl ?_); intro b1 w2 hS2) | (guard_target = wpList _ _ _ (Oper.mk _ (Op.alloc _) _ _ _ none :: _) _ _; (refine wl_alloc_agg (dst := 4) rfl ‹Chg _ _ _ _› rfl rfl ?_); intro b2 w3 hS3) | (first | refine wl_loadw_0 ‹Chg _ _ _ _› rfl rfl rfl (by simp) ?_ | refine wl_loadw_1 ‹Chg _ _ _ _› rfl rfl rfl (by simp) ?_ | refine wl_loadw_2 ‹Chg _ _ _ _› rfl rfl rfl (by simp) ?_ | refine wl_loadw_3 ‹Chg _ _ _ _› rfl rfl rfl (by simp) ?_ | refine wl_loadw_4 ‹Chg _ _ _ _› rfl rfl rfl (by simp) ?_ | refine wl_loadw_5 ‹Chg _ _ _ _› rfl rfl rfl (by simp) ?_))
  go_loopw [8] (fun i w' => ∃ k : Nat, k ≤ 30 ∧ i = .int .i64 k ∧ ∃ L, Chg w w' [] (blk b0 (s.orTo t k).enc 59 :: L) ∧ L = [blk b2 (Array.replicate 30 (Value.int .u8 0)) 59, blk b1 t.enc 59]) (fun i _ => 30 - (intOf i).toNat)
  case atStart => exact ⟨0, by omega, rfl, _, by rw [BSet.orTo_zero]; exact hS3.front_2, rfl⟩
  case round =>
    obtain ⟨k, hk, rfl, L, hS, rfl⟩ := hrel
    clear hS0 hS1 hS2 hS3
    by_cases hlt : k < 30
    · have ht := t.at_ k hlt
      have hs : (s.orTo t k).enc[k]? = some (.int .u8 ((s.byte k).toNat : Int)) := by rw [BSet.at_ _ _ hlt, BSet.orTo_byte _ _ _ _ hlt]; simp
      have ho := BSet.orTo_succ s t k hlt
      have Ho := Lib.hid ho
      have Hs := Lib.hid hs
      have Ht := Lib.hid ht
      clear ho ht hs
      go_wp2_with (first | (refine wl_load1_0 ‹Chg _ _ _ _› rfl rfl rfl Hs.out ?_) | (refine wl_index1 Tryz.underlying59 rfl rfl rfl rfl hlt Ht.out ?_) | (refine wl_store1_0 (v := .int _ _) ‹Chg _ _ _ _› rfl rfl rfl rfl rfl (by simp <;> omega) ?_; simp only [bits_or8]; intro w5 hS5; rw [Ho.out] at hS5))
      go_roundw
      case rel => exact ⟨k + 1, by omega, by go_num, _, hS5, rfl⟩
      case measure => simp [intOf]; omega
    · have : k = 30 := by omega
      subst this
      rw [BSet.orTo_all] at hS
      go_wp2_with (first | (first | refine wl_loadw_0 ‹Chg _ _ _ _› rfl rfl rfl (by simp) ?_ | refine wl_loadw_1 ‹Chg _ _ _ _› rfl rfl rfl (by simp) ?_ | refine wl_loadw_2 ‹Chg _ _ _ _› rfl rfl rfl (by simp) ?_ | refine wl_loadw_3 ‹Chg _ _ _ _› rfl rfl rfl (by simp) ?_ | refine wl_loadw_4 ‹Chg _ _ _ _› rfl rfl rfl (by simp) ?_ | refine wl_loadw_5 ‹Chg _ _ _ _› rfl rfl rfl (by simp) ?_) | ((first | refine wl_storew_0 ‹Chg _ _ _ _› rfl rfl rfl rfl (by simp) (by first | exact BSet.one | exact Pg.one) (by simp) ?_ | refine wl_storew_1 ‹Chg _ _ _ _› rfl rfl rfl rfl (by simp) (by first | exact BSet.one | exact Pg.one) (by simp) ?_ | refine wl_storew_2 ‹Chg _ _ _ _› rfl rfl rfl rfl (by simp) (by first | exact BSet.one | exact Pg.one) (by simp) ?_ | refine wl_storew_3 ‹Chg _ _ _ _› rfl rfl rfl rfl (by simp) (by first | exact BSet.one | exact Pg.one) (by simp) ?_ | refine wl_storew_4 ‹Chg _ _ _ _› rfl rfl rfl rfl (by simp) (by first | exact BSet.one | exact Pg.one) (by simp) ?_ | refine wl_storew_5 ‹Chg _ _ _ _› rfl rfl rfl rfl (by simp) (by first | exact BSet.one | exact Pg.one) (by simp) ?_); intro w5 hS5))
      exact ret_row 0 hS5 rfl rfl rfl (by simp) rfl ⟨rfl, hS5.below⟩
theorem ones8 (x : UInt8) (w : World) : Calls Tryz.prog 70 #[.int .u8 (x.toNat : Int)] w fun e w' => e = .returned (.int .i64 (pop x : Nat)) ∧ w = w' := by
  have hp := pop_le x
  have hy : ((UInt8.ofNat (pop x)).toNat : Int) = (pop x : Int) := by simp; omega
  have Hy := Lib.hid hy
  have Ht := Lib.hid (popTab_at x)
  clear hy
  generalize UInt8.ofNat (pop x) = y at *
  go_enter Tryz.func70, Tryz.ntmps70
  go_wp2_with (refine wl_index_str (s := ⟨popTab.toArray⟩) Tryz.underlying9 rfl rfl (by kernel_rfl) rfl (by omega) Ht.out ?_; rw [Hy.out])
  go_ret
  exact ⟨rfl, rfl⟩
theorem bits_Count (s : BSet) (w : World) : Calls Tryz.prog 26 #[.agg s.enc] w fun e w' => e = .returned (.int .i64 (s.count : Nat)) ∧ Below w.heap.size w w' := by
  have hS0 := Chg.nil w []
  go_enter Tryz.func26, Tryz.ntmps26
  go_wp2_with (first | (guard_target = wpList _ _ _ (Oper.mk _ (Op.box _ _) _ _ _ none :: _) _ _; (first | refine wl_box_agg (dst := 1) rfl ‹Chg _ _ _ _› rfl rfl rfl ?_ | refine wl_box_int (dst := 1) rfl ‹Chg _ _ _ _› rfl rfl rfl ?_ | refine wl_box_str (dst := 1) rfl ‹Chg _ _ _ _› rfl rfl rfl ?_ | refine wl_box_slice (dst := 1) rfl ‹Chg _ _ _ _› rfl rfl rfl ?_ | refine wl_box_ptr (dst := 1) rfl ‹Chg _ _ _ _› rfl rfl rfl ?_); intro b0 w1 hS1) | (first | refine wl_loadw_0 ‹Chg _ _ _ _› rfl rfl rfl (by simp) ?_ | refine wl_loadw_1 ‹Chg _ _ _ _› rfl rfl rfl (by simp) ?_ | refine wl_loadw_2 ‹Chg _ _ _ _› rfl rfl rfl (by simp) ?_ | refine wl_loadw_3 ‹Chg _ _ _ _› rfl rfl rfl (by simp) ?_ | refine wl_loadw_4 ‹Chg _ _ _ _› rfl rfl rfl (by simp) ?_ | refine wl_loadw_5 ‹Chg _ _ _ _› rfl rfl rfl (by simp) ?_))
  clear hS0
  go_loop [3, 7] (fun n i => ∃ k : Nat, k ≤ 30 ∧ i = .int .i64 k ∧ n = .int .i64 (s.countTo k : Nat)) (fun _ i => 30 - (intOf i).toNat)
  case atStart => exact ⟨0, by omega, rfl, rfl⟩
  case round =>
    obtain ⟨k, hk, rfl, rfl⟩ := hrel
    have hle := s.countTo_le k
    by_cases hlt : k < 30
    · have Ht := Lib.hid (s.at_ k hlt)
      have Hs := Lib.hid (s.countTo_succ k)
      have hp := pop_le (s.byte k)
      generalize s.byte k = x at *
      go_wp2_with (first | (refine wl_index1 Tryz.underlying59 rfl rfl rfl rfl hlt Ht.out ?_) | (go_at_call 70; refine (ones8 x _).mono ?_; rintro e w' ⟨rfl, rfl⟩))
      go_round
      case rel => exact ⟨k + 1, by omega, by go_num, by rw [Hs.out]; go_num⟩
      case measure => simp [intOf]; omega
    · have : k = 30 := by omega
      subst this
      go_wp2
      go_ret
      exact ⟨rfl, hS1.below⟩
def firstV : Option Nat → Value
  | some k => .tuple #[.int .i64 (k : Nat), .bool true]
  | none => .tuple #[.int .i64 0, .bool false]
theorem bits_First (s : BSet) (n : Nat) (hn : n ≤ 240) (w : World) : Calls Tryz.prog 55 #[.agg s.enc, .int .i64 2, .int .i64 n] w fun e w' =>
    e = .returned (firstV (s.firstFrom 2 (n - 2))) ∧ Below w.heap.size w w' := by
  have hS0 := Chg.nil w []
  go_enter Tryz.func55, Tryz.ntmps55
  go_wp2_with (first | (guard_target = wpList _ _ _ (Oper.mk _ (Op.box _ _) _ _ _ none :: _) _ _; (first | refine wl_box_agg (dst := 3) rfl ‹Chg _ _ _ _› rfl rfl rfl ?_ | refine wl_box_int (dst := 3) rfl ‹Chg _ _ _ _› rfl rfl rfl ?_ | refine wl_box_str (dst := 3) rfl ‹Chg _ _ _ _› rfl rfl rfl ?_ | refine wl_box_slice (dst := 3) rfl ‹Chg _ _ _ _› rfl rfl rfl ?_ | refine wl_box_ptr (dst := 3) rfl ‹Chg _ _ _ _› rfl rfl rfl ?_); intro b0 w1 hS1))
  clear hS0
  go_loopw [8] (fun i w' => ∃ k : Nat, 2 ≤ k ∧ (k ≤ n ∨ k = 2) ∧ i = .int .i64 k ∧ Hid (s.firstFrom k (n - k) = s.firstFrom 2 (n - 2)) ∧ Chg w w' [] [blk b0 s.enc 59]) (fun i _ => 240 - (intOf i).toNat)
  case atStart => exact ⟨2, by omega, by omega, rfl, Lib.hid rfl, hS1⟩
  case round =>
    obtain ⟨k, hk, hk2, rfl, He, hS⟩ := hrel
    clear hS1
    by_cases hlt : k < n
    · have He2 : Hid (s.firstFrom k (n - k) = if s.has k then s.firstFrom (k + 1) (n - (k + 1)) else some k) := by
        show _ = _
        rw [show n - k = (n - (k + 1)) + 1 by omega]
        rfl
      by_cases hh : s.has k = true
      · have He3 : Hid (s.firstFrom (k + 1) (n - (k + 1)) = s.firstFrom 2 (n - 2)) := by
          show _ = _
          rw [← He.out, He2.out, if_pos hh]
        clear He He2
        go_wp2_with (first | (first | refine wl_loadw_0 ‹Chg _ _ _ _› rfl rfl rfl (by simp) ?_ | refine wl_loadw_1 ‹Chg _ _ _ _› rfl rfl rfl (by simp) ?_ | refine wl_loadw_2 ‹Chg _ _ _ _› rfl rfl rfl (by simp) ?_ | refine wl_loadw_3 ‹Chg _ _ _ _› rfl rfl rfl (by simp) ?_ | refine wl_loadw_4 ‹Chg _ _ _ _› rfl rfl rfl (by simp) ?_ | refine wl_loadw_5 ‹Chg _ _ _ _› rfl rfl rfl (by simp) ?_) | (go_at_call 64; refine (bits_Has s k _ (by omega)).mono ?_; rintro e w' ⟨rfl, hB⟩))
        go_roundw
        case rel => exact ⟨k + 1, by omega, by omega, by go_num, He3, hS.bel hB⟩
        case measure => simp [intOf]; omega
      · have hh : s.has k = false := by simpa using hh
        have He3 : Hid (firstV (s.firstFrom 2 (n - 2)) = .tuple #[.int .i64 (k : Nat), .bool true]) := by
          show _ = _
          rw [← He.out, He2.out, if_neg (by simp [hh])]
          rfl
        clear He He2
        go_wp2_with (first | (first | refine wl_loadw_0 ‹Chg _ _ _ _› rfl rfl rfl (by simp) ?_ | refine wl_loadw_1 ‹Chg _ _ _ _› rfl rfl rfl (by simp) ?_ | refine wl_loadw_2 ‹Chg _ _ _ _› rfl rfl rfl (by simp) ?_ | refine wl_loadw_3 ‹Chg _ _ _ _› rfl rfl rfl (by simp) ?_ | refine wl_loadw_4 ‹Chg _ _ _ _› rfl rfl rfl (by simp) ?_ | refine wl_loadw_5 ‹Chg _ _ _ _› rfl rfl rfl (by simp) ?_) | (go_at_call 64; refine (bits_Has s k _ (by omega)).mono ?_; rintro e w' ⟨rfl, hB⟩))
        go_ret2
        exact ⟨by rw [He3.out]; rfl, (hS.bel hB).below⟩
    · have He3 : Hid (firstV (s.firstFrom 2 (n - 2)) = .tuple #[.int .i64 0, .bool false]) := by
        show _ = _
        rw [← He.out, show n - k = 0 by omega]
        rfl
      clear He
      go_wp2
      go_ret2
      exact ⟨by rw [He3.out]; rfl, hS.below⟩
end Go.Dyn
namespace Go.Dyn
open Go Go.RowKit Go.Proofs
set_option maxRecDepth 20000
set_option maxHeartbeats 400000
structure Sup where
  gen : Nat
  root : Nat
  used : BSet
def supL (s : Sup) : List Value := .int .u32 (s.gen : Int) :: .int .i64 (s.root : Int) :: u8s s.used.b
def supC (s : Sup) : Array Value := (supL s).toArray
@[simp] theorem supC_size (s : Sup) : (supC s).size = 32 := by simp [supC, supL, s.used.len]
theorem supC_one {s : Sup} : ∀ v, v ∈ supC s → v.oneCell' = true := fun v hv => by
  simp only [supC, supL, List.mem_toArray, List.mem_cons] at hv
  rcases hv with rfl | rfl | hv
  · rfl
  · rfl
  · exact u8s_one (by simpa using hv)
theorem supC_used (s : Sup) : part (supC s) 2 30 = s.used.enc := by
  apply Array.ext'
  simp only [part, supC, supL, BSet.enc]
  simp [s.used.len]
  exact List.take_of_length_le (by simp [s.used.len])
def Sup.right (s : Sup) : Prop := 0 < s.gen ∧ s.gen < 4294967296 ∧ (s.root = 0 ∨ (2 ≤ s.root ∧ s.root < 240 ∧ s.used.has s.root = true)) ∧ s.used.has 0 = false ∧ s.used.has 1 = false
theorem super_Right (s : Sup) (w : World) (h : s.right) : Calls Tryz.prog 116 #[.agg (supC s)] w fun e w' => e = .returned (.bool true) ∧ Below w.heap.size w w' := by
  have hS0 := Chg.nil w []
  obtain ⟨hg, hg2, hroot, h0, h1⟩ := h
  have Hu := Lib.hid (supC_used s)
  have H0 : Hid (∀ w, Calls Tryz.prog 64 #[.agg s.used.enc, .int .i64 0] w fun e w' => e = .returned (.bool false) ∧ Below w.heap.size w w') := Lib.hid (fun w => by
    have := bits_Has s.used 0 w (by omega)
    rw [h0] at this
    exact this)
  have H1 : Hid (∀ w, Calls Tryz.prog 64 #[.agg s.used.enc, .int .i64 1] w fun e w' => e = .returned (.bool false) ∧ Below w.heap.size w w') := Lib.hid (fun w => by
    have := bits_Has s.used 1 w (by omega)
    rw [h1] at this
    exact this)
  have Hz := Lib.hid (supC_size s)
  have Hc0 : Hid ((supC s)[0]? = some (.int .u32 (s.gen : Int))) := Lib.hid rfl
  have Hc1 : Hid ((supC s)[1]? = some (.int .i64 (s.root : Int))) := Lib.hid rfl
  generalize supC s = cs at *
  obtain ⟨gen, root, used⟩ := s
  simp only at *
  rcases hroot with hr | ⟨hr2, hr3, hr⟩
  · subst hr
    have Hc1 : Hid (cs[1]? = some (.int .i64 0)) := Lib.hid Hc1.out
    go_enter Tryz.func116, Tryz.ntmps116
    go_wp2_with (first | (guard_target = wpList _ _ _ (Oper.mk _ (Op.box _ _) _ _ _ none :: _) _ _; (first | refine wl_box_agg (dst := 1) rfl ‹Chg _ _ _ _› rfl rfl rfl ?_ | refine wl_box_int (dst := 1) rfl ‹Chg _ _ _ _› rfl rfl rfl ?_ | refine wl_box_str (dst := 1) rfl ‹Chg _ _ _ _› rfl rfl rfl ?_ | refine wl_box_slice (dst := 1) rfl ‹Chg _ _ _ _› rfl rfl rfl ?_ | refine wl_box_ptr (dst := 1) rfl ‹Chg _ _ _ _› rfl rfl rfl ?_); intro b1 w1 hS1) | ((first | (guard_target = wpList _ _ _ (Oper.mk _ (Op.load 3 _) _ _ _ none :: _) _ _) | (guard_target = wpList _ _ _ (Oper.mk _ (Op.load 3 _) _ _ _ (some _) :: _) _ _; refine wl_unguard rfl ?_)); refine wl_load1_0 hS1 rfl rfl rfl Hc1.out ?_) | ((first | (guard_target = wpList _ _ _ (Oper.mk _ (Op.load 50 _) _ _ _ none :: _) _ _) | (guard_target = wpList _ _ _ (Oper.mk _ (Op.load 50 _) _ _ _ (some _) :: _) _ _; refine wl_unguard rfl ?_)); refine wl_load1_0 hS1 rfl rfl rfl Hc0.out ?_) | ((first | (guard_target = wpList _ _ _ (Oper.mk _ (Op.load 59 _) _ _ _ none :: _) _ _) | (guard_target = wpList _ _ _ (Oper.mk _ (Op.load 59 _) _ _ _ (some _) :: _) _ _; refine wl_unguard rfl ?_)); first | refine wl_loadr_0 hS2 rfl rfl rfl (by rw [Hz.out]; decide) Hu.out ?_ | refine wl_loadr_0 hS1 rfl rfl rfl (by rw [Hz.out]; decide) Hu.out ?_) | (go_at_call 64; refine (H0.out _).mono ?_; rintro e w2 ⟨rfl, hB2⟩; have hS2 := hS1.bel hB2; clear H0) | (go_at_call 64; refine (H1.out _).mono ?_; rintro e w3 ⟨rfl, hB3⟩; have hS3 := hS2.bel hB3))
    go_ret
    exact ⟨rfl, hS3.below⟩
  · have Hr : Hid (∀ w, Calls Tryz.prog 64 #[.agg used.enc, .int .i64 root] w fun e w' => e = .returned (.bool true) ∧ Below w.heap.size w w') := Lib.hid (fun w => by
      have := bits_Has used root w (by omega)
      rw [hr] at this
      exact this)
    have hz : (((root : Nat) : Int) == 0) = false := by simp; omega
    have hz2 : decide ((root : Int) = 0) = false := by simp; omega
    go_enter Tryz.func116, Tryz.ntmps116
    go_wp2_with (first | (guard_target = wpList _ _ _ (Oper.mk _ (Op.box _ _) _ _ _ none :: _) _ _; (first | refine wl_box_agg (dst := 1) rfl ‹Chg _ _ _ _› rfl rfl rfl ?_ | refine wl_box_int (dst := 1) rfl ‹Chg _ _ _ _› rfl rfl rfl ?_ | refine wl_box_str (dst := 1) rfl ‹Chg _ _ _ _› rfl rfl rfl ?_ | refine wl_box_slice (dst := 1) rfl ‹Chg _ _ _ _› rfl rfl rfl ?_ | refine wl_box_ptr (dst := 1) rfl ‹Chg _ _ _ _› rfl rfl rfl ?_); intro b1 w1 hS1) | ((first | (guard_target = wpList _ _ _ (Oper.mk _ (Op.load 3 _) _ _ _ none :: _) _ _) | (guard_target = wpList _ _ _ (Oper.mk _ (Op.load 3 _) _ _ _ (some _) :: _) _ _; refine wl_unguard rfl ?_)); refine wl_load1_0 hS1 rfl rfl rfl Hc1.out ?_) | ((first | (guard_target = wpList _ _ _ (Oper.mk _ (Op.load 50 _) _ _ _ none :: _) _ _) | (guard_target = wpList _ _ _ (Oper.mk _ (Op.load 50 _) _ _ _ (some _) :: _) _ _; refine wl_unguard rfl ?_)); refine wl_load1_0 hS2 rfl rfl rfl Hc0.out ?_) | ((first | (guard_target = wpList _ _ _ (Oper.mk _ (Op.load 59 _) _ _ _ none :: _) _ _) | (guard_target = wpList _ _ _ (Oper.mk _ (Op.load 59 _) _ _ _ (some _) :: _) _ _; refine wl_unguard rfl ?_)); first | refine wl_loadr_0 hS3 rfl rfl rfl (by rw [Hz.out]; decide) Hu.out ?_ | refine wl_loadr_0 hS2 rfl rfl rfl (by rw [Hz.out]; decide) Hu.out ?_ | refine wl_loadr_0 hS1 rfl rfl rfl (by rw [Hz.out]; decide) Hu.out ?_) | (go_at_call 64; refine (Hr.out _).mono ?_; rintro e w2 ⟨rfl, hB2⟩; have hS2 := hS1.bel hB2; clear Hr) | (go_at_call 64; refine (H0.out _).mono ?_; rintro e w3 ⟨rfl, hB3⟩; have hS3 := hS2.bel hB3; clear H0) | (go_at_call 64; refine (H1.out _).mono ?_; rintro e w4 ⟨rfl, hB4⟩; have hS4 := hS3.bel hB4))

    go_ret
    exact ⟨rfl, hS4.below⟩
end Go.Dyn
namespace Go.Dyn
open Go Go.RowKit Go.Proofs
set_option maxRecDepth 20000
set_option maxHeartbeats 400000
def supD (s : Sup) : List UInt8 := be 4 s.gen ++ be 1 s.root ++ s.used.b
theorem supD_length (s : Sup) : (supD s).length = 35 := by simp [supD, be, s.used.len]
theorem super_Lay (s : Sup) (w : World) (h : s.right) : Calls Tryz.prog 83 #[.agg (supC s)] w fun e w' => e = .returned (.tuple #[.string ⟨(supD s).toArray⟩, .nilIface]) ∧ Below w.heap.size w w' := by
  have hS0 := Chg.nil w []
  have HR := Lib.hid (fun w => super_Right s w h)
  obtain ⟨hg, hg2, hroot, h0, h1⟩ := h
  have hr : s.root < 240 := by rcases hroot with h | h <;> omega
  clear hroot h0 h1
  have Hu := Lib.hid (supC_used s)
  have Hz := Lib.hid (supC_size s)
  have Hone := Lib.hid (@supC_one s)
  have Hc0 : Hid ((supC s)[0]? = some (.int .u32 (s.gen : Int))) := Lib.hid rfl
  have Hc1 : Hid ((supC s)[1]? = some (.int .i64 (s.root : Int))) := Lib.hid rfl
  have Hd : Hid (supD s = be 4 s.gen ++ be 1 s.root ++ s.used.b) := Lib.hid rfl
  have HC : Hid (∀ w' b, (blk b (supC s) 105).ok w' → CellsAt w' b 2 (u8s s.used.b)) := Lib.hid (fun w' b hb => cellsAt_blk hb _ (by
    simp only [supC, supL]
    simp [s.used.len, List.take_of_length_le]))
  have Hl := Lib.hid s.used.len
  generalize supD s = dd at *
  generalize supC s = cs at *
  obtain ⟨gen, root, ⟨ub, ul⟩⟩ := s
  simp only at *
  have Hp4 : Hid (∀ w, Calls Tryz.prog 53 #[.int .i64 4, .int .i64 (gen : Int)] w fun e w' => e = .returned (.string ⟨(be 4 gen).toArray⟩) ∧ Below w.heap.size w w') := Lib.hid (fun w => pack_Put 4 gen w (by omega) (by omega) (by simpa using hg2))
  have Hp1 : Hid (∀ w, Calls Tryz.prog 53 #[.int .i64 1, .int .i64 (root : Int)] w fun e w' => e = .returned (.string ⟨(be 1 root).toArray⟩) ∧ Below w.heap.size w w') := Lib.hid (fun w => pack_Put 1 root w (by omega) (by omega) (by omega))
  have hl4 : (be 4 gen).length = 4 := by simp [be]
  have hl1 : (be 1 root).length = 1 := by simp [be]
  generalize be 4 gen = l4 at *
  generalize be 1 root = l1 at *
  go_enter Tryz.func83, Tryz.ntmps83
  go_wp2_with (first | (guard_target = wpList _ _ _ (Oper.mk _ (Op.box _ _) _ _ _ none :: _) _ _; (first | refine wl_box_agg (dst := 1) rfl ‹Chg _ _ _ _› rfl rfl rfl ?_ | refine wl_box_int (dst := 1) rfl ‹Chg _ _ _ _› rfl rfl rfl ?_ | refine wl_box_str (dst := 1) rfl ‹Chg _ _ _ _› rfl rfl rfl ?_ | refine wl_box_slice (dst := 1) rfl ‹Chg _ _ _ _› rfl rfl rfl ?_ | refine wl_box_ptr (dst := 1) rfl ‹Chg _ _ _ _› rfl rfl rfl ?_); intro b1 w1 hS1) | ((first | (guard_target = wpList _ _ _ (Oper.mk _ (Op.load 105 _) _ _ _ none :: _) _ _) | (guard_target = wpList _ _ _ (Oper.mk _ (Op.load 105 _) _ _ _ (some _) :: _) _ _; refine wl_unguard rfl ?_)); refine wl_loadw_0 hS1 rfl rfl rfl Hz.out ?_) | (go_at_call 116; refine (HR.out _).mono ?_; rintro e w2 ⟨rfl, hB2⟩; have hS2 := hS1.bel hB2))
  refine wp_region_quiet_C (fun w' => Chg w w' [] [blk b1 cs 105]) (by kernel_rfl) (by kernel_rfl) hS2.drew ?_
  (go_big_quiet_want; go_big_quiet_op; first | go_big_quiet_on | (refine ⟨_, fun _ _ => rfl, ?_⟩; go_big_quiet_on))
  (go_big_quiet_want; refine quiet_load1 rfl rfl (fun w' hw' => (blk_cell (hw'.get 0 rfl) 0).trans Hc0.out) ?_; go_frame; go_big_quiet_on)
  (go_big_quiet_want; go_big_quiet_op; first | go_big_quiet_on | (refine ⟨_, fun _ _ => rfl, ?_⟩; go_big_quiet_on))
  (go_big_quiet_want; go_big_quiet_op; refine ⟨_, fun w' hw' => (Hp4.out _).mono (fun e w'' h => ⟨h.1, hw'.bel h.2⟩), ?_⟩; go_big_quiet_on)
  (go_big_quiet_want; go_big_quiet_op; first | go_big_quiet_on | (refine ⟨_, fun _ _ => rfl, ?_⟩; go_big_quiet_on))
  (go_big_quiet_want; refine quiet_load1 rfl rfl (fun w' hw' => (blk_cell (hw'.get 0 rfl) 1).trans Hc1.out) ?_; go_frame; go_big_quiet_on)
  (go_big_quiet_want; go_big_quiet_op; refine ⟨_, fun w' hw' => (Hp1.out _).mono (fun e w'' h => ⟨h.1, hw'.bel h.2⟩), ?_⟩; go_big_quiet_on)
  (go_big_quiet_want; refine quiet_strcat rfl rfl rfl (by first | omega | (simp only [List.length_append]; omega)) ?_; go_frame; go_big_quiet_on)
  (go_big_quiet_want; go_big_quiet_op; first | go_big_quiet_on | (refine ⟨_, fun _ _ => rfl, ?_⟩; go_big_quiet_on))
  (go_big_quiet_want; go_big_quiet_op; first | go_big_quiet_on | (refine ⟨_, fun _ _ => rfl, ?_⟩; go_big_quiet_on))
  (go_big_quiet_want; refine quiet_bytesStr Tryz.underlying74 Tryz.underlying5 Tryz.underlying9 rfl rfl ub Hl.out (fun w' hw' => HC.out _ _ (hw'.get 0 rfl)) ?_; go_frame; go_big_quiet_on)
  (go_big_quiet_want; refine quiet_strcat rfl rfl rfl (by first | omega | (simp only [List.length_append]; omega)) ?_; go_frame; go_big_quiet_on)
  (go_big_quiet_want; go_big_quiet_op; first | go_big_quiet_on | (refine ⟨_, fun _ _ => rfl, ?_⟩; go_big_quiet_on))
  (go_big_quiet_want; go_big_quiet_op; first | go_big_quiet_on | (refine ⟨_, fun _ _ => rfl, ?_⟩; go_big_quiet_on))
  refine wpQuiet_nil ?_
  intro w3 hS3
  rw [← Hd.out]
  go_wp2
  go_ret2
  exact ⟨rfl, hS3.below⟩
end Go.Dyn
namespace Go.Dyn
open Go Go.RowKit
set_option maxRecDepth 20000
/-- A block that begins with these cells. -/
def cellsIt (b : Nat) (l : List Value) : It where
  ids := [b]
  ok w := ∃ C T m, w.heap[b]? = some (.cells C T m) ∧ C.toList.take l.length = l
  loc h k := by
    obtain ⟨C, T, m, h1, h2⟩ := k
    exact ⟨C, T, m, by rw [h b (by simp)]; exact h1, h2⟩
  inb h i hi := by
    obtain ⟨C, T, m, h1, h2⟩ := h
    have : i = b := by simpa using hi
    subst this
    exact (Array.getElem?_eq_some_iff.1 h1).1
theorem cellsIt_at {w : World} {b : Nat} {l : List Value} (h : (cellsIt b l).ok w) : CellsAt w b 0 l := fun j hj => by
  obtain ⟨C, T, m, h1, h2⟩ := h
  have h3 : (C.toList.take l.length)[j]? = l[j]? := by rw [h2]
  rw [List.getElem?_take, if_pos hj, List.getElem?_eq_getElem hj] at h3
  simp only [World.cell?, h1, Nat.zero_add]
  simpa using h3
theorem Chg.newAt {w0 w w' : World} {F : List Nat} {L : List It} (h : Chg w0 w F L) (it : It) (hi : it.ids = [w.heap.size]) (hok : it.ok w') (e1 : w'.os = w.os) (e2 : w'.tape = w.tape) (e3 : w'.output = w.output) (hs : w'.heap.size = w.heap.size + 1) (ho : ∀ j, j < w.heap.size → w'.heap[j]? = w.heap[j]?) : Chg w0 w' F (it :: L) := by
  refine ⟨e1.trans h.os, e2.trans h.tape, e3.trans h.output, by have := h.size; omega, fun b hb hn => ?_, fun x hx => ?_, fun x hx i hk => ?_, ?_⟩
  · rw [ho b (by have := h.size; omega)]
    exact h.frame b hb hn
  · rcases List.mem_cons.1 hx with rfl | hx
    · exact hok
    · exact x.loc (fun i hk => ho i (h.lt hx hk)) (h.all x hx)
  · rcases List.mem_cons.1 hx with rfl | hx
    · rw [hi] at hk
      have : i = w.heap.size := by simpa using hk
      subst this
      exact .inr h.size
    · exact h.own x hx i hk
  · simp only [List.flatMap_cons, hi, List.cons_append, List.nil_append, List.nodup_cons]
    refine ⟨fun hm => ?_, h.nodup⟩
    obtain ⟨x, hx, hk⟩ := List.mem_flatMap.1 hm
    have := h.lt hx hk
    omega
section
variable {P : Program} {w0 w : World} {F : List Nat} {L : List It} {ops : Array Oper} {Q : Exit → Act → World → Prop} {rest : List Oper} {o : Oper} {a : Act}
theorem wl_strBytes {src dst e : TypeId} {x : Operand} (hs : P.underlying src = some .string) (hd : P.underlying dst = some (.slice e)) (he : P.underlying e = some (.int .u8)) (hS : Chg w0 w F L) (hgd : o.guard = none) (ho : o.op = .convert src dst x) {l : List UInt8} (hx : a.eval x = .string ⟨l.toArray⟩) {n : Nat} (hn : l.length = n)
    (h : ∀ b c w', Chg w0 w' F (cellsIt b (u8s l) :: L) → wpList P ops Q rest (a.put o.dst (.slice (some ⟨b, 0, none⟩) n c)) w') : wpList P ops Q (o :: rest) a w :=
  wpList_plain hgd fun K hK => by
    unfold Oper.wp execOp
    simp only [ho, hx, Sem.run_bind, Lib.run_convert_string_bytes w src dst e ⟨l.toArray⟩ hs hd he, Result.andThen_ok, Sem.run_pure]
    have hz : (⟨l.toArray⟩ : ByteArray).size = n := by simp [ByteArray.size, hn]
    simp only [hz]
    refine hK _ _ (h _ _ _ (hS.newAt _ rfl ⟨_, _, _, Lib.bytesWorld_at_new w e _, ?_⟩ ?_ ?_ ?_ (Lib.bytesWorld_size w e _) (Lib.bytesWorld_at_old w e _)))
    · simp [Lib.bytesCells, u8s]
    · simp [Lib.bytesWorld, World.freeze, World.alloc, World.drew, -World.alloc_eq, -World.drew_eq]
    · simp [Lib.bytesWorld, World.freeze, World.alloc, World.drew, -World.alloc_eq, -World.drew_eq]
    · simp [Lib.bytesWorld, World.freeze, World.alloc, World.drew, -World.alloc_eq, -World.drew_eq]
theorem run_strFrom {T : TypeId} (hu : P.underlying T = some .string) (l : List UInt8) (k : Nat) (q : IntKind) (hk : k ≤ l.length) (w : World) : (Instr.sliceAt T (.string ⟨l.toArray⟩) (some (.int q (k : Int))) none none).run P w = .ok (.string ⟨(l.drop k).toArray⟩) w := by
  rw [run_sliceAt_string _ T _ _ _ _ hu, run_slice_string_from_if _ T _ q _ hu]
  rw [if_pos ⟨by omega, by simp [ByteArray.size]; omega⟩]
  congr 2
  apply ByteArray.ext
  apply Array.ext'
  simp [ByteArray.data_extract, ByteArray.size, Array.toList_extract, List.extract_eq_take_drop]
  exact List.take_of_length_le (by simp)
theorem quiet_strFrom {C : World → Prop} {T : TypeId} {x : Operand} {i : Operand} {K : Act → Prop} (hu : P.underlying T = some .string) (ho : o.op = .slice T x (some i) none none) {l : List UInt8} (hx : a.eval x = .string ⟨l.toArray⟩) {q : IntKind} {k : Nat} (hi : a.eval i = .int q (k : Int)) (hk : k ≤ l.length) (h : K (a.put o.dst (.string ⟨(l.drop k).toArray⟩))) : o.quiet P a C K := by
  refine ⟨_, fun w' hw' => ?_, h⟩
  unfold Oper.quietAt execOp
  simp only [ho, hx, hi, Option.map_some, Option.map_none, Sem.run_bind, run_strFrom hu l k q hk, Result.andThen_ok, Sem.run_pure]
  exact ⟨rfl, rfl⟩
theorem quiet_strAt {C : World → Prop} {T : TypeId} {x ix : Operand} {K : Act → Prop} (hu : P.underlying T = some .string) (ho : o.op = .index T x ix) {l : List UInt8} (hx : a.eval x = .string ⟨l.toArray⟩) {q : IntKind} {n : Nat} (hi : a.eval ix = .int q (n : Int)) {c : UInt8} (hv : l[n]? = some c) (h : K (a.put o.dst (.int .u8 (c.toNat : Int)))) : o.quiet P a C K := by
  refine ⟨_, fun w' hw' => ?_, h⟩
  unfold Oper.quietAt execOp
  have hv' : (⟨l.toArray⟩ : ByteArray)[n]? = some c := by
    have : (⟨l.toArray⟩ : ByteArray).data[n]? = some c := by simpa using hv
    exact this
  simp only [ho, hx, hi, Instr.index, asIntOf, Sem.run_bind, Sem.run_pure, Result.andThen_ok, run_underlying hu]
  rw [if_pos (by omega), Int.toNat_natCast, hv']
  simp only [Sem.run_bind, Result.andThen_ok, Sem.run_pure]
  exact ⟨rfl, rfl⟩
theorem quiet_arrayAt {C : World → Prop} {arr e : TypeId} {n len cap : Nat} {x : Operand} {K : Act → Prop} {A : Option Addr} (hu : P.underlying arr = some (.array n e)) (ho : o.op = .sliceToArrayPointer arr x) (hx : a.eval x = .slice A len cap) (hn : n ≤ len) (h : K (a.put o.dst (.pointer A))) : o.quiet P a C K := by
  refine ⟨_, fun w' hw' => ?_, h⟩
  unfold Oper.quietAt execOp
  simp only [ho, hx, Sem.run_bind, run_arrayAt w' arr e n A len cap hu hn, Result.andThen_ok, Sem.run_pure]
  exact ⟨rfl, rfl⟩
end
end Go.Dyn
namespace Go.Dyn
open Go Go.RowKit Go.Proofs
set_option maxRecDepth 20000
set_option maxHeartbeats 400000
theorem sup_zero : (#[Value.int .u32 0] ++ #[Value.int .i64 0] ++ (Array.replicate 30 (Value.int .u8 0))) = supC ⟨0, 0, BSet.none⟩ := by kernel_rfl
theorem sup_fill (s : Sup) : Instr.fill ((#[(0, 1), (1, 1), (2, 30)] : Array (Nat × Nat))[·]?) (#[Value.int .u32 0] ++ #[Value.int .i64 0] ++ (Array.replicate 30 (Value.int .u8 0))) [(0, .int .u32 (s.gen : Int)), (1, .int .i64 (s.root : Int)), (2, .agg (u8s s.used.b).toArray)] = some (supC s) := by
  rw [fill_cons (off := 0) (size := 1) rfl (by rfl) (by simp)]
  rw [fill_cons (off := 1) (size := 1) rfl (by rfl) (by rw [size_lay _ _ _ (by simp [Value.cells])]; simp)]
  rw [fill_cons (off := 2) (size := 30) rfl (by simp [Value.cells, s.used.len]) (by rw [size_lay _ _ _ (by rw [size_lay _ _ _ (by simp [Value.cells])]; simp [Value.cells]), size_lay _ _ _ (by simp [Value.cells])]; simp)]
  simp only [Instr.fill, Option.some.injEq]
  apply Array.ext'
  simp [lay, supC, supL, Value.cells, s.used.len]
theorem super_Read (s : Sup) (w : World) (h : s.right) : Calls Tryz.prog 113 #[.string ⟨(supD s).toArray⟩] w fun e w' => e = .returned (.tuple #[.agg (supC s), .nilIface]) ∧ Below w.heap.size w w' := by
  have hS0 := Chg.nil w []
  have HR := Lib.hid (fun w => super_Right s w h)
  have hlen := supD_length s
  obtain ⟨hg, hg2, hroot, h0, h1⟩ := h
  have hr : s.root < 240 := by rcases hroot with h | h <;> omega
  clear hroot h0 h1
  have Hg : Hid (∀ w, Calls Tryz.prog 139 #[.string ⟨(supD s).toArray⟩, .int .i64 4] w fun e w' => e = .returned (.tuple #[.int .i64 (s.gen : Int), .nilIface]) ∧ w = w') := Lib.hid (fun w => by
    have := pack_Get ⟨(supD s).toArray⟩ 4 w (by omega) (by omega) (by simp [ByteArray.size, hlen]) (by simp [ByteArray.size, hlen])
    have h4 : (supD s).take 4 = be 4 s.gen := by
      unfold supD
      rw [List.append_assoc, List.take_append_of_le_length (by simp [be]), List.take_of_length_le (by simp [be])]
    simp only [h4, beVal_be4 _ hg2] at this
    exact this)
  have Hat : Hid ((supD s)[4]? = some (UInt8.ofNat s.root)) := Lib.hid (by
    unfold supD
    rw [List.append_assoc, List.getElem?_append_right (by simp [be])]
    simp [be, beTo])
  have Hrt : Hid (((UInt8.ofNat s.root).toNat : Int) = (s.root : Int)) := Lib.hid (by simp; omega)
  have Hdr : Hid ((supD s).drop 5 = s.used.b) := Lib.hid (by
    unfold supD
    rw [List.drop_append_of_le_length (by simp [be])]
    simp [be])
  have Hfl := Lib.hid (sup_fill s)
  have Hone := Lib.hid (@supC_one s)
  have Hz := Lib.hid (supC_size s)
  have hsz : (⟨(supD s).toArray⟩ : ByteArray).size = 35 := by simp [ByteArray.size, hlen]
  have hul := s.used.len
  generalize supC s = cs at *
  generalize supD s = dd at *
  obtain ⟨gen, root, ⟨ub, ul⟩⟩ := s
  simp only at *
  generalize UInt8.ofNat root = c8 at *
  go_enter Tryz.func113, Tryz.ntmps113
  go_wp2_with (first | (guard_target = wpList _ _ _ (Oper.mk _ (Op.alloc _) _ _ _ none :: _) _ _; (refine wl_alloc_agg (dst := 2) rfl ‹Chg _ _ _ _› rfl rfl ?_); intro b2 w1 hS1) | (go_at_call 139; refine (Hg.out _).mono ?_; rintro e w2 ⟨rfl, rfl⟩))
  have HE : Hid (∀ w, Held [] w) := Lib.hid (by intro w it hit; cases hit)
  refine wp_region_moves 12 (Held []) (by kernel_rfl) (by kernel_rfl) ?_
  intro hwt
  refine wpM_quiet hwt [0, 1, 2, 3, 4, 5, 6] [] _ (by kernel_rfl) (HE.out _) ?_
  simp only [pick_cons, pick_nil, consO_some, List.getElem?_cons_zero, List.getElem?_cons_succ]
  (go_big_quiet_want; go_big_quiet_op; first | go_big_quiet_on | (refine ⟨_, fun _ _ => rfl, ?_⟩; go_big_quiet_on))
  (go_big_quiet_want; go_big_quiet_op; first | go_big_quiet_on | (refine ⟨_, fun _ _ => rfl, ?_⟩; go_big_quiet_on))
  (go_big_quiet_want; go_big_quiet_op; first | go_big_quiet_on | (refine ⟨_, fun _ _ => rfl, ?_⟩; go_big_quiet_on))
  go_big_quiet_want
  refine quiet_strAt (n := 4) Tryz.underlying9 rfl rfl rfl Hat.out ?_
  go_frame
  go_big_quiet_on
  (go_big_quiet_want; go_big_quiet_op; first | go_big_quiet_on | (refine ⟨_, fun _ _ => rfl, ?_⟩; go_big_quiet_on))
  (go_big_quiet_want; go_big_quiet_op; first | go_big_quiet_on | (refine ⟨_, fun _ _ => rfl, ?_⟩; go_big_quiet_on))
  go_big_quiet_want
  refine quiet_strFrom (k := 5) Tryz.underlying9 rfl rfl rfl (by omega) ?_
  go_frame
  go_big_quiet_on
  refine wpQuiet_nil ?_
  have hS2 := hS1.drew
  clear hS1 hS0
  rw [Hrt.out, Hdr.out, show wrap64 (root : Int) = root by unfold wrap64; omega]
  refine wpM_two 7 11 (by kernel_rfl) ?_ ?_
  · simp only [pick_cons, pick_nil, consO_some, List.getElem?_cons_zero, List.getElem?_cons_succ]
    refine wl_strBytes Tryz.underlying9 Tryz.underlying74 Tryz.underlying5 hS2 rfl rfl rfl hul ?_
    intro b7 c7 w3 hS3
    refine wpList_nil ⟨HE.out _, ?_⟩
    (refine wpM_quiet hwt [8] _ _ (by kernel_rfl) (HE.out _) ?_; simp only [pick_cons, pick_nil, consO_some, List.getElem?_cons_zero, List.getElem?_cons_succ]; (try go_frame); go_big_quiet_want; refine quiet_arrayAt Tryz.underlying59 rfl rfl (by omega) ?_; go_frame; go_big_quiet_on; refine wpQuiet_nil ?_)
    refine wpM_two 9 11 (by kernel_rfl) ?_ ?_
    · simp only [pick_cons, pick_nil, consO_some, List.getElem?_cons_zero, List.getElem?_cons_succ]
      refine wl_loadc rfl rfl rfl (cs := u8s ub) (cellsIt_at (hS3.get 0 rfl)) (by simpa using hul) ?_
      refine wpList_nil ⟨HE.out _, ?_⟩
      (refine wpM_quiet hwt [10] _ _ (by kernel_rfl) (HE.out _) ?_; simp only [pick_cons, pick_nil, consO_some, List.getElem?_cons_zero, List.getElem?_cons_succ]; (try go_frame); go_big_quiet_want; refine quiet_build3 rfl rfl rfl rfl Hfl.out ?_; go_frame; go_big_quiet_on; refine wpQuiet_nil ?_)
      refine wpM_one 11 (by kernel_rfl) ?_
      simp only [pick_cons, pick_nil, consO_some, List.getElem?_cons_zero, List.getElem?_cons_succ]
      refine wl_alloc_agg (dst := 6) rfl hS3 rfl rfl ?_
      intro b6 w4 hS4
      refine wpList_nil ⟨HE.out _, ?_⟩
      have hS5 : Chg w w4 [] [blk b6 _ 105, blk b2 _ 105] := hS4.arr [0, 2] rfl
      clear hS2 hS3 hS4
      (refine wpM_done (by kernel_rfl) ?_; simp only [List.take_succ_cons, List.take_zero, List.drop_succ_cons, List.drop_zero]; (try go_frame); go_wp2_with (first | (guard_target = wpList _ _ _ (Oper.mk _ (Op.store 105 _ _) _ _ _ none :: _) _ _; refine wl_storew_0 hS5 rfl rfl rfl rfl Hz.out Hone.out (by simp) ?_; intro w5 hS6; clear hS5) | ((first | (guard_target = wpList _ _ _ (Oper.mk _ (Op.load 105 _) _ _ _ none :: _) _ _) | (guard_target = wpList _ _ _ (Oper.mk _ (Op.load 105 _) _ _ _ (some _) :: _) _ _; refine wl_unguard rfl ?_)); first | refine wl_loadw_0 hS7 rfl rfl rfl Hz.out ?_ | refine wl_loadw_0 hS6 rfl rfl rfl Hz.out ?_) | (go_at_call 116; refine (HR.out _).mono ?_; rintro e w6 ⟨rfl, hB6⟩; have hS7 := hS6.bel hB6; clear hS6) | (guard_target = wpList _ _ _ (Oper.mk _ (Op.store 105 _ _) _ _ _ none :: _) _ _; refine wl_storew_1 hS7 rfl rfl rfl rfl Hz.out Hone.out (by simp) ?_; intro w8 hS8)); exact ret_row2 0 hS8 rfl rfl rfl rfl Hz.out rfl ⟨rfl, hS8.below⟩)
    · simp only [pick_cons, pick_nil, consO_some, List.getElem?_cons_zero, List.getElem?_cons_succ]
      refine wl_alloc_agg (dst := 6) rfl hS3 rfl rfl ?_
      intro b6 w4 hS4
      refine wpList_nil ⟨HE.out _, ?_⟩
      refine wpM_one 9 (by kernel_rfl) ?_
      simp only [pick_cons, pick_nil, consO_some, List.getElem?_cons_zero, List.getElem?_cons_succ]
      refine wl_loadc rfl rfl rfl (cs := u8s ub) (cellsIt_at (hS4.get 1 rfl)) (by simpa using hul) ?_
      refine wpList_nil ⟨HE.out _, ?_⟩
      (refine wpM_quiet hwt [10] _ _ (by kernel_rfl) (HE.out _) ?_; simp only [pick_cons, pick_nil, consO_some, List.getElem?_cons_zero, List.getElem?_cons_succ]; (try go_frame); go_big_quiet_want; refine quiet_build3 rfl rfl rfl rfl Hfl.out ?_; go_frame; go_big_quiet_on; refine wpQuiet_nil ?_)
      have hS5 : Chg w w4 [] [blk b6 _ 105, blk b2 _ 105] := hS4.arr [0, 2] rfl
      clear hS2 hS3 hS4
      (refine wpM_done (by kernel_rfl) ?_; simp only [List.take_succ_cons, List.take_zero, List.drop_succ_cons, List.drop_zero]; (try go_frame); go_wp2_with (first | (guard_target = wpList _ _ _ (Oper.mk _ (Op.store 105 _ _) _ _ _ none :: _) _ _; refine wl_storew_0 hS5 rfl rfl rfl rfl Hz.out Hone.out (by simp) ?_; intro w5 hS6; clear hS5) | ((first | (guard_target = wpList _ _ _ (Oper.mk _ (Op.load 105 _) _ _ _ none :: _) _ _) | (guard_target = wpList _ _ _ (Oper.mk _ (Op.load 105 _) _ _ _ (some _) :: _) _ _; refine wl_unguard rfl ?_)); first | refine wl_loadw_0 hS7 rfl rfl rfl Hz.out ?_ | refine wl_loadw_0 hS6 rfl rfl rfl Hz.out ?_) | (go_at_call 116; refine (HR.out _).mono ?_; rintro e w6 ⟨rfl, hB6⟩; have hS7 := hS6.bel hB6; clear hS6) | (guard_target = wpList _ _ _ (Oper.mk _ (Op.store 105 _ _) _ _ _ none :: _) _ _; refine wl_storew_1 hS7 rfl rfl rfl rfl Hz.out Hone.out (by simp) ?_; intro w8 hS8)); exact ret_row2 0 hS8 rfl rfl rfl rfl Hz.out rfl ⟨rfl, hS8.below⟩)
  · simp only [pick_cons, pick_nil, consO_some, List.getElem?_cons_zero, List.getElem?_cons_succ]
    refine wl_alloc_agg (dst := 6) rfl hS2 rfl rfl ?_
    intro b6 w4 hS4
    refine wpList_nil ⟨HE.out _, ?_⟩
    refine wpM_one 7 (by kernel_rfl) ?_
    simp only [pick_cons, pick_nil, consO_some, List.getElem?_cons_zero, List.getElem?_cons_succ]
    refine wl_strBytes Tryz.underlying9 Tryz.underlying74 Tryz.underlying5 hS4 rfl rfl rfl hul ?_
    intro b7 c7 w3 hS3
    refine wpList_nil ⟨HE.out _, ?_⟩
    (refine wpM_quiet hwt [8] _ _ (by kernel_rfl) (HE.out _) ?_; simp only [pick_cons, pick_nil, consO_some, List.getElem?_cons_zero, List.getElem?_cons_succ]; (try go_frame); go_big_quiet_want; refine quiet_arrayAt Tryz.underlying59 rfl rfl (by omega) ?_; go_frame; go_big_quiet_on; refine wpQuiet_nil ?_)
    refine wpM_one 9 (by kernel_rfl) ?_
    simp only [pick_cons, pick_nil, consO_some, List.getElem?_cons_zero, List.getElem?_cons_succ]
    refine wl_loadc rfl rfl rfl (cs := u8s ub) (cellsIt_at (hS3.get 0 rfl)) (by simpa using hul) ?_
    refine wpList_nil ⟨HE.out _, ?_⟩
    (refine wpM_quiet hwt [10] _ _ (by kernel_rfl) (HE.out _) ?_; simp only [pick_cons, pick_nil, consO_some, List.getElem?_cons_zero, List.getElem?_cons_succ]; (try go_frame); go_big_quiet_want; refine quiet_build3 rfl rfl rfl rfl Hfl.out ?_; go_frame; go_big_quiet_on; refine wpQuiet_nil ?_)
    have hS5 : Chg w w3 [] [blk b6 _ 105, blk b2 _ 105] := hS3.arr [1, 2] rfl
    clear hS2 hS3 hS4
    (refine wpM_done (by kernel_rfl) ?_; simp only [List.take_succ_cons, List.take_zero, List.drop_succ_cons, List.drop_zero]; (try go_frame); go_wp2_with (first | (guard_target = wpList _ _ _ (Oper.mk _ (Op.store 105 _ _) _ _ _ none :: _) _ _; refine wl_storew_0 hS5 rfl rfl rfl rfl Hz.out Hone.out (by simp) ?_; intro w5 hS6; clear hS5) | ((first | (guard_target = wpList _ _ _ (Oper.mk _ (Op.load 105 _) _ _ _ none :: _) _ _) | (guard_target = wpList _ _ _ (Oper.mk _ (Op.load 105 _) _ _ _ (some _) :: _) _ _; refine wl_unguard rfl ?_)); first | refine wl_loadw_0 hS7 rfl rfl rfl Hz.out ?_ | refine wl_loadw_0 hS6 rfl rfl rfl Hz.out ?_) | (go_at_call 116; refine (HR.out _).mono ?_; rintro e w6 ⟨rfl, hB6⟩; have hS7 := hS6.bel hB6; clear hS6) | (guard_target = wpList _ _ _ (Oper.mk _ (Op.store 105 _ _) _ _ _ none :: _) _ _; refine wl_storew_1 hS7 rfl rfl rfl rfl Hz.out Hone.out (by simp) ?_; intro w8 hS8)); exact ret_row2 0 hS8 rfl rfl rfl rfl Hz.out rfl ⟨rfl, hS8.below⟩)
end Go.Dyn
namespace Go.Dyn
open Go Go.RowKit Go.Proofs Go.Extern.Stop Go.Stop Go.Extern
set_option maxHeartbeats 400000
set_option maxRecDepth 100000 in
theorem is_ne (b : Nat) (s : ByteArray) (n m : Int) (W : World) (hne : (n == m) = false) (hb : W.heap[b]? = some (.cells #[.string s, .iface 99 (.int .i64 n)] 152 (0, 0))) :
    Calls Tryz.prog 115 #[.iface 150 (.pointer (some ⟨b, 0, none⟩)), .iface 99 (.int .i64 m), .bool true] W fun e w' => e = .returned (.bool false) ∧ W = w' := by
  have e1 := eqTE
  have e2 := eqEE
  have nT := noIsT
  have nE := noIsE
  have uT := hasUnT
  have uE := noUnE
  have uE2 := noUn2E
  have mU := methodUnT
  have Hun := Lib.hid (tag_Unwrap b s (.iface 99 (.int .i64 n)) W hb)
  clear hb
  go_enter Tryz.func115, Tryz.ntmps115
  go_wp2
  refine wp_loop_rounds 2 ?_
  rw [rounds_succ]
  go_wp2_with (go_at_call 193; refine Hun.out.mono ?_; rintro e w' ⟨rfl, rfl⟩)
  rw [rounds_succ]
  go_wp2
  go_ret
  exact ⟨rfl, rfl⟩
set_option maxRecDepth 100000 in
theorem is_eq (b : Nat) (s : ByteArray) (n : Int) (W : World) (hb : W.heap[b]? = some (.cells #[.string s, .iface 99 (.int .i64 n)] 152 (0, 0))) :
    Calls Tryz.prog 115 #[.iface 150 (.pointer (some ⟨b, 0, none⟩)), .iface 99 (.int .i64 n), .bool true] W fun e w' => e = .returned (.bool true) ∧ W = w' := by
  have e1 := eqTE
  have e2 : ∀ w, (binOp .eql 25 (.iface 99 (.int .i64 n)) (.iface 99 (.int .i64 n))).run Tryz.prog w = .ok (.bool true) w := fun w => by rw [eqEE]; simp
  have nT := noIsT
  have uT := hasUnT
  have mU := methodUnT
  have Hun := Lib.hid (tag_Unwrap b s (.iface 99 (.int .i64 n)) W hb)
  clear hb
  go_enter Tryz.func115, Tryz.ntmps115
  go_wp2
  refine wp_loop_rounds 2 ?_
  rw [rounds_succ]
  go_wp2_with (go_at_call 193; refine Hun.out.mono ?_; rintro e w' ⟨rfl, rfl⟩)
  rw [rounds_succ]
  go_wp2
  go_ret
  exact ⟨rfl, rfl⟩
theorem is_1 (b : Nat) (s : ByteArray) (n m : Int) (W : World) (hb : W.heap[b]? = some (.cells #[.string s, .iface 99 (.int .i64 n)] 152 (0, 0))) :
    Calls Tryz.prog 115 #[.iface 150 (.pointer (some ⟨b, 0, none⟩)), .iface 99 (.int .i64 m), .bool true] W fun e w' => e = .returned (.bool (n == m)) ∧ W = w' := by
  cases h : n == m with
  | false => exact is_ne b s n m W h hb
  | true =>
    have : n = m := by simpa using h
    subst this
    exact is_eq b s n W hb
set_option maxRecDepth 100000 in
theorem Is_1 (b : Nat) (s : ByteArray) (n m : Int) (W : World) (hb : W.heap[b]? = some (.cells #[.string s, .iface 99 (.int .i64 n)] 152 (0, 0))) :
    Calls Tryz.prog 82 #[.iface 150 (.pointer (some ⟨b, 0, none⟩)), .iface 99 (.int .i64 m)] W fun e w' => e = .returned (.bool (n == m)) ∧ W = w' := by
  have h10 := @run_callFunc_extern Tryz.prog 114 _ ReflectliteType.typeOf Tryz.func114 (by kernel_rfl) (by kernel_rfl) (by kernel_rfl) (by kernel_rfl)
  have h11 := @run_callFunc_extern Tryz.prog 199 _ comparF Tryz.func199 (by kernel_rfl) (by kernel_rfl) (by kernel_rfl) (by kernel_rfl)
  have tE := typeOfE
  have mC := methodComparable
  have cE := comparE
  have H := Lib.hid (is_1 b s n m W hb)
  clear hb
  go_enter Tryz.func82, Tryz.ntmps82
  go_wp2_with (go_at_call 115; refine H.out.mono ?_; rintro e w' ⟨rfl, rfl⟩)
  go_ret
  exact ⟨rfl, rfl⟩
set_option maxRecDepth 100000 in
theorem tag_Same_nil (m : Int) (w : World) : Calls Tryz.prog 49 #[.nilIface, .int .i64 m] w fun e w' => e = .returned (.bool false) ∧ w = w' := by
  have H : ∀ w, Calls Tryz.prog 82 #[.nilIface, .iface 99 (.int .i64 m)] w fun e w' => e = .returned (.bool false) ∧ w = w' := fun w => by
    have e0 : ∀ w, (binOp .eql 25 .nilIface (.iface 99 (.int .i64 m))).run Tryz.prog w = .ok (.bool false) w := fun w => run_eql_iface_nil_left w _ _ Tryz.underlying25
    go_enter Tryz.func82, Tryz.ntmps82
    go_wp2
    go_ret
    exact ⟨rfl, rfl⟩
  have H := Lib.hid H
  go_enter Tryz.func49, Tryz.ntmps49
  go_wp2_with (go_at_call 82; refine (H.out _).mono ?_; rintro e w' ⟨rfl, rfl⟩)
  go_ret
  exact ⟨rfl, rfl⟩
theorem tag_Same_1 (b : Nat) (s : ByteArray) (n m : Int) (w : World) (hb : w.heap[b]? = some (.cells #[.string s, .iface 99 (.int .i64 n)] 152 (0, 0))) :
    Calls Tryz.prog 49 #[.iface 150 (.pointer (some ⟨b, 0, none⟩)), .int .i64 m] w fun e w' => e = .returned (.bool (n == m)) ∧ w = w' := by
  have H := Lib.hid (Is_1 b s n m w hb)
  clear hb
  go_enter Tryz.func49, Tryz.ntmps49
  go_wp2_with (go_at_call 82; refine H.out.mono ?_; rintro e w' ⟨rfl, rfl⟩)
  go_ret
  exact ⟨rfl, rfl⟩
end Go.Dyn
