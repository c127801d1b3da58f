/- Part of the proof that CheckWrong returns true, whatever the four bytes; tied to the program's own text (part 8 of 14) -/
import Derived.Test.YtgnkmahdcomjcaaGreatDoorCW07
set_option linter.unusedVariables false
set_option linter.unusedSimpArgs false
namespace Go.Dyn
open Go Go.RowKit Go.Proofs
set_option maxRecDepth 20000
set_option maxHeartbeats 400000
def Sup.zero : Sup := ⟨0, 0, BSet.none⟩
theorem supD_ok (s : Sup) : (⟨(supD s).toArray⟩ : ByteArray).data.toList.length ≤ 120 := by simp [supD_length]
/-- What a sector's page says. -/
def SupAt (p : Pg) (s : Sup) : Prop := (s.right ∧ p = laidP 1 (⟨(supD s).toArray⟩ : ByteArray).data.toList (supD_ok s)) ∨ (¬ readOk p.b ∧ s = Sup.zero)
theorem sup_zero0 : (#[Value.int .u32 0] ++ #[Value.int .i64 0] ++ (Array.replicate 30 (Value.int .u8 0))) = supC Sup.zero := sup_zero
theorem tag_Same_E {b : Nat} {n : Int} {w : World} (h : (errIt [b] n (.iface 150 (ptr b))).ok w) (m : Int) {r : Bool} (hr : (n == m) = r) : Calls Tryz.prog 49 #[.iface 150 (ptr b), .int .i64 m] w fun e w' => e = .returned (.bool r) ∧ w = w' := by
  obtain ⟨s, v', h1, h2, h3⟩ := h
  have h3' : v' = .iface 99 (.int .i64 n) := h3
  subst h3'
  subst hr
  exact tag_Same_1 b s n m w h2
theorem super_at {d bf : Nat} {A : Option Addr} {c : Nat} {D : Disk} {w : World} (hO : Own w (diskL d bf A c D)) (hd : D.down = false) (i : Nat) (hi : i < D.firm.length) (hn : D.firm.length ≤ 1000) (hk : D.loose.length ≤ 1000000) (s : Sup) (hs : SupAt (D.read i) s) :
    Calls Tryz.prog 81 #[ptr d, .int .i64 i] w fun e w' => e = .returned (.tuple #[.agg (supC s), .nilIface]) ∧ Below w.heap.size w w' := by
  have hS0 := Chg.nil w []
  have Hz := Lib.hid (supC_size s)
  have Hone := Lib.hid (@supC_one s)
  rcases hs with ⟨hr, hp⟩ | ⟨hr, rfl⟩
  · have HL := Lib.hid (fun (w : World) (hO : Own w (diskL d bf A c D)) => frame_Load_ok hO hd i hi hn hk 1 ⟨(supD s).toArray⟩ (by omega) (by omega) (supD_ok s) hp)
    have HR := Lib.hid (fun w => super_Read s w hr)
    have HS := Lib.hid (fun w => tag_Same_nil 7 w)
    clear hp
    generalize diskL d bf A c D = L0 at *
    generalize supD s = dd at *
    generalize supC s = cs at *
    go_enter Tryz.func81, Tryz.ntmps81
    go_wp2_with (first | (guard_target = wpList _ _ _ (Oper.mk _ (Op.alloc _) _ _ _ none :: _) _ _; (refine wl_alloc_agg (dst := 4) rfl ‹Chg _ _ _ _› rfl rfl ?_); intro b4 w1 hS1) | (go_at_call 112; refine (HL.out _ (hO.keep hS1)).mono ?_; rintro e w2 ⟨rfl, hB2⟩; have hS2 := hS1.bel hB2; clear hS1) | (go_at_call 49; refine (HS.out _).mono ?_; rintro e w3 ⟨rfl, rfl⟩) | (go_at_call 113; refine (HR.out _).mono ?_; rintro e w4 ⟨rfl, hB4⟩; have hS4 := hS2.bel hB4; clear hS2) | (guard_target = wpList _ _ _ (Oper.mk _ (Op.alloc _) _ _ _ none :: _) _ _; (refine wl_alloc_agg (dst := 8) rfl ‹Chg _ _ _ _› rfl rfl ?_); intro b8 w5 hS5) | (guard_target = wpList _ _ _ (Oper.mk _ (Op.store 105 _ _) _ _ _ none :: _) _ _; refine wl_storew_0 hS5 rfl rfl rfl rfl Hz.out Hone.out (by simp) ?_; intro w6 hS6; clear hS5) | ((first | (guard_target = wpList _ _ _ (Oper.mk _ (Op.load 105 _) _ _ _ none :: _) _ _) | (guard_target = wpList _ _ _ (Oper.mk _ (Op.load 105 _) _ _ _ (some _) :: _) _ _; refine wl_unguard rfl ?_)); refine wl_loadw_0 hS6 rfl rfl rfl Hz.out ?_) | (guard_target = wpList _ _ _ (Oper.mk _ (Op.store 105 _ _) _ _ _ none :: _) _ _; refine wl_storew_1 hS6 rfl rfl rfl rfl Hz.out Hone.out (by simp) ?_; intro w7 hS7))
    exact ret_row2 0 hS7 rfl rfl rfl rfl Hz.out rfl ⟨rfl, hS7.below⟩
  · have HL := Lib.hid (fun (w : World) (hO : Own w (diskL d bf A c D)) => frame_Load_sum hO hd i hi hn hk 1 hr)
    have Hf := Lib.hid sup_zero0
    generalize diskL d bf A c D = L0 at *
    generalize supC Sup.zero = cs at *
    go_enter Tryz.func81, Tryz.ntmps81
    go_wp2_with (first | (guard_target = wpList _ _ _ (Oper.mk _ (Op.alloc _) _ _ _ none :: _) _ _; (refine wl_alloc_agg (dst := 4) rfl ‹Chg _ _ _ _› rfl rfl ?_); intro b4 w1 hS1) | (go_at_call 112; refine (HL.out _ (hO.keep hS1)).mono ?_; rintro e w2 ⟨b, rfl, hE⟩; have hS2 := hS1.pure hE; clear hS1; have hb := hS2.get 0 rfl) | (go_at_call 49; refine (tag_Same_E hb 7 rfl).mono ?_; rintro e w3 ⟨rfl, rfl⟩) | (guard_target = wpList _ _ _ (Oper.mk _ (Op.build _ _) _ _ _ none :: _) _ _; refine wl_build0 rfl rfl Hf.out ?_) | (guard_target = wpList _ _ _ (Oper.mk _ (Op.store 105 _ _) _ _ _ none :: _) _ _; refine wl_storew_1 hS2 rfl rfl rfl rfl Hz.out Hone.out (by simp) ?_; intro w6 hS6; clear hS2))
    exact ret_row2 0 hS6 rfl rfl rfl rfl Hz.out rfl ⟨rfl, hS6.below⟩
def bstK (s0 s1 : Sup) : Nat → Sup
  | 0 => Sup.zero
  | 1 => s0
  | _ + 2 => if s0.gen < s1.gen then s1 else s0
theorem SupAt.zero_gen {p : Pg} {s : Sup} (h : SupAt p s) (hg : s.gen = 0) : s = Sup.zero := by
  rcases h with ⟨h, _⟩ | ⟨_, h⟩
  · have := h.1
    omega
  · exact h
theorem bstK_succ {p : Pg} {s0 s1 : Sup} (h : SupAt p s0) (k : Nat) (hk : k < 2) : bstK s0 s1 (k + 1) = if (bstK s0 s1 k).gen < (if k = 0 then s0 else s1).gen then (if k = 0 then s0 else s1) else bstK s0 s1 k := by
  rcases k with _ | _ | k
  · simp only [bstK, ↓reduceIte]
    split
    · rfl
    · rename_i hg
      have : s0.gen = 0 := by simp [Sup.zero] at hg; exact hg
      exact h.zero_gen this
  · simp [bstK]
  · omega
theorem SupAt.gen_lt {p : Pg} {s : Sup} (h : SupAt p s) : s.gen < 4294967296 := by
  rcases h with ⟨h, _⟩ | ⟨_, h⟩
  · exact h.2.1
  · subst h; decide
theorem super_Best {d bf : Nat} {A : Option Addr} {c : Nat} {D : Disk} {w : World} (hO : Own w (diskL d bf A c D)) (hd : D.down = false) (h3 : 3 ≤ D.firm.length) (hn : D.firm.length ≤ 1000) (hk : D.loose.length ≤ 1000000) (s0 s1 : Sup) (hs0 : SupAt (D.read 0) s0) (hs1 : SupAt (D.read 1) s1) :
    Calls Tryz.prog 48 #[ptr d] w fun e w' => ((bstK s0 s1 2).gen ≠ 0 ∧ e = .returned (.tuple #[.agg (supC (bstK s0 s1 2)), .nilIface]) ∧ Below w.heap.size w w') ∨
      ((bstK s0 s1 2).gen = 0 ∧ ∃ b, e = .returned (.tuple #[.agg (supC Sup.zero), .iface 150 (ptr b)]) ∧ Chg w w' [] [errIt [b] 4 (.iface 150 (ptr b))]) := by
  have hS0 := Chg.nil w []
  have Hz := Lib.hid @supC_size
  have Hone : Hid (∀ (s : Sup) v, v ∈ supC s → v.oneCell' = true) := Lib.hid (fun s => @supC_one s)
  have Hf := Lib.hid sup_zero0
  have Hc0 : Hid (∀ s : Sup, (supC s)[0]? = some (.int .u32 (s.gen : Int))) := Lib.hid fun s => rfl
  have HA : Hid (∀ (k : Nat), k < 2 → ∀ w, Own w (diskL d bf A c D) → Calls Tryz.prog 81 #[ptr d, .int .i64 (k : Int)] w fun e w' => e = .returned (.tuple #[.agg (supC (if k = 0 then s0 else s1)), .nilIface]) ∧ Below w.heap.size w w') := Lib.hid (fun k hk2 w hO => super_at hO hd k (by omega) hn hk _ (by
    rcases k with _ | _ | k
    · simpa using hs0
    · simpa using hs1
    · omega))
  have Hsz := Lib.hid (fun (w : World) (hO : Own w (diskL d bf A c D)) => disk_Size (hO.all (blk d (diskV bf A c D) 103) (by simp [diskL])))
  have Hb := Lib.hid (fun k hk => bstK_succ (s1 := s1) hs0 k hk)
  have Hgl : Hid (∀ k, (bstK s0 s1 k).gen < 4294967296) := Lib.hid (fun k => by
    rcases k with _ | _ | k
    · simp [bstK, Sup.zero]
    · exact hs0.gen_lt
    · simp only [bstK]
      split
      · exact hs1.gen_lt
      · exact hs0.gen_lt)
  generalize diskL d bf A c D = L0 at *
  go_enter Tryz.func48, Tryz.ntmps48
  go_wp2_with (first | (guard_target = wpList _ _ _ (Oper.mk _ (Op.alloc _) _ _ _ none :: _) _ _; (refine wl_alloc_agg (dst := 2) rfl ‹Chg _ _ _ _› rfl rfl ?_); intro b2 w1 hS1) | (go_at_call 57; refine (Hsz.out _ (hO.keep hS1)).mono ?_; rintro e w2 ⟨rfl, rfl⟩) | (guard_target = wpList _ _ _ (Oper.mk _ (Op.alloc _) _ _ _ none :: _) _ _; (refine wl_alloc_agg (dst := 4) rfl ‹Chg _ _ _ _› rfl rfl ?_); intro b4 w3 hS3))
  rw [Hf.out] at hS3
  clear hS0 hS1
  go_loopw [14] (fun v w' => ∃ k : Nat, k ≤ 2 ∧ v = .int .i64 k ∧ Chg w w' [] [blk b4 (supC (bstK s0 s1 k)) 105, blk b2 (supC Sup.zero) 105]) (fun v _ => 2 - (intOf v).toNat)
  case atStart => exact ⟨0, by omega, rfl, hS3⟩
  case round =>
    obtain ⟨k, hk2, rfl, hS⟩ := hrel
    clear hS3
    by_cases hlt : k < 2
    · have HAk := Lib.hid (HA.out k hlt)
      have Hbk := Lib.hid (Hb.out k hlt)
      have Hg1 := Hgl.out k
      have Hg2 : (if k = 0 then s0 else s1).gen < 4294967296 := by
        split
        · exact hs0.gen_lt
        · exact hs1.gen_lt
      generalize (if k = 0 then s0 else s1) = sk at *
      generalize bstK s0 s1 k = old at *
      by_cases hgt : old.gen < sk.gen
      · rw [if_pos hgt] at Hbk
        go_wp2_with (first | (go_at_call 81; refine (HAk.out _ (hO.keep hS)).mono ?_; rintro e w4 ⟨rfl, hB4⟩; have hS4 := hS.bel hB4; clear hS) | (guard_target = wpList _ _ _ (Oper.mk _ (Op.alloc _) _ _ _ none :: _) _ _; (refine wl_alloc_agg (dst := 6) rfl ‹Chg _ _ _ _› rfl rfl ?_); intro b6 w5 hS5) | (guard_target = wpList _ _ _ (Oper.mk _ (Op.store 105 _ _) _ _ _ none :: _) _ _; refine wl_storew_0 hS5 rfl rfl rfl rfl (Hz.out _) (Hone.out _) (by simp) ?_; intro w6 hS6; clear hS5) | ((first | (guard_target = wpList _ _ _ (Oper.mk _ (Op.load 50 _) _ _ _ none :: _) _ _) | (guard_target = wpList _ _ _ (Oper.mk _ (Op.load 50 _) _ _ _ (some _) :: _) _ _; refine wl_unguard rfl ?_)); first | refine wl_load1_0 hS6 rfl rfl rfl (Hc0.out _) ?_ | refine wl_load1_1 hS6 rfl rfl rfl (Hc0.out _) ?_) | ((first | (guard_target = wpList _ _ _ (Oper.mk _ (Op.load 105 _) _ _ _ none :: _) _ _) | (guard_target = wpList _ _ _ (Oper.mk _ (Op.load 105 _) _ _ _ (some _) :: _) _ _; refine wl_unguard rfl ?_)); refine wl_loadw_0 hS6 rfl rfl rfl (Hz.out _) ?_) | (guard_target = wpList _ _ _ (Oper.mk _ (Op.store 105 _ _) _ _ _ none :: _) _ _; refine wl_storew_1 hS6 rfl rfl rfl rfl (Hz.out _) (Hone.out _) (Hz.out _) ?_; intro w7 hS7; clear hS6))
        go_roundw
        case rel => exact ⟨k + 1, by omega, by go_num, by rw [Hbk.out]; exact hS7.arr [0, 2] rfl⟩
        case measure => simp [intOf]; omega
      · rw [if_neg hgt] at Hbk
        have hle : (sk.gen : Int) ≤ old.gen := by omega
        go_wp2_with (first | (go_at_call 81; refine (HAk.out _ (hO.keep hS)).mono ?_; rintro e w4 ⟨rfl, hB4⟩; have hS4 := hS.bel hB4; clear hS) | (guard_target = wpList _ _ _ (Oper.mk _ (Op.alloc _) _ _ _ none :: _) _ _; (refine wl_alloc_agg (dst := 6) rfl ‹Chg _ _ _ _› rfl rfl ?_); intro b6 w5 hS5) | (guard_target = wpList _ _ _ (Oper.mk _ (Op.store 105 _ _) _ _ _ none :: _) _ _; refine wl_storew_0 hS5 rfl rfl rfl rfl (Hz.out _) (Hone.out _) (by simp) ?_; intro w6 hS6; clear hS5) | ((first | (guard_target = wpList _ _ _ (Oper.mk _ (Op.load 50 _) _ _ _ none :: _) _ _) | (guard_target = wpList _ _ _ (Oper.mk _ (Op.load 50 _) _ _ _ (some _) :: _) _ _; refine wl_unguard rfl ?_)); first | refine wl_load1_0 hS6 rfl rfl rfl (Hc0.out _) ?_ | refine wl_load1_1 hS6 rfl rfl rfl (Hc0.out _) ?_))
        go_roundw
        case rel => exact ⟨k + 1, by omega, by go_num, by rw [Hbk.out]; exact hS6.arr [1, 2] rfl⟩
        case measure => simp [intOf]; omega
    · obtain rfl : k = 2 := by omega
      have hg := Hgl.out 2
      by_cases h0 : (bstK s0 s1 2).gen = 0
      · have hz0 : ((bstK s0 s1 2).gen : Int) = 0 := by omega
        generalize hbe : bstK s0 s1 2 = best at *
        have Hbe := Lib.hid hbe
        clear hbe
        go_wp2_with (first | ((first | (guard_target = wpList _ _ _ (Oper.mk _ (Op.load 50 _) _ _ _ none :: _) _ _) | (guard_target = wpList _ _ _ (Oper.mk _ (Op.load 50 _) _ _ _ (some _) :: _) _ _; refine wl_unguard rfl ?_)); refine wl_load1_0 (v := .int .u32 0) hS rfl rfl rfl (by rw [← hz0]; exact Hc0.out _) ?_) | (guard_target = wpList _ _ _ (Oper.mk _ (Op.build _ _) _ _ _ none :: _) _ _; refine wl_build0 rfl rfl Hf.out ?_) | (go_at_call 47; refine (tag_Tag _ _ _).mono ?_; rintro e w4 ⟨b, rfl, hE⟩; have hS4 := hS.pure hE) | (guard_target = wpList _ _ _ (Oper.mk _ (Op.store 105 _ _) _ _ _ none :: _) _ _; refine wl_storew_2 hS4 rfl rfl rfl rfl (Hz.out _) (Hone.out _) (Hz.out _) ?_; intro w6 hS6))
        exact ret_row2 0 hS6 rfl rfl rfl rfl (Hz.out _) rfl (.inr ⟨by rw [Hbe.out]; exact h0, b, rfl, hS6.arr [1] rfl⟩)
      · generalize hbe : bstK s0 s1 2 = best at *
        have Hbe := Lib.hid hbe
        clear hbe
        have hp : (best.gen : Int) ≠ 0 := by omega
        go_wp2_with (first | ((first | (guard_target = wpList _ _ _ (Oper.mk _ (Op.load 50 _) _ _ _ none :: _) _ _) | (guard_target = wpList _ _ _ (Oper.mk _ (Op.load 50 _) _ _ _ (some _) :: _) _ _; refine wl_unguard rfl ?_)); refine wl_load1_0 hS rfl rfl rfl (Hc0.out _) ?_) | ((first | (guard_target = wpList _ _ _ (Oper.mk _ (Op.load 105 _) _ _ _ none :: _) _ _) | (guard_target = wpList _ _ _ (Oper.mk _ (Op.load 105 _) _ _ _ (some _) :: _) _ _; refine wl_unguard rfl ?_)); refine wl_loadw_0 hS rfl rfl rfl (Hz.out _) ?_) | (guard_target = wpList _ _ _ (Oper.mk _ (Op.store 105 _ _) _ _ _ none :: _) _ _; refine wl_storew_1 hS rfl rfl rfl rfl (Hz.out _) (Hone.out _) (Hz.out _) ?_; intro w6 hS6))
        exact ret_row2 0 hS6 rfl rfl rfl rfl (Hz.out _) rfl (.inl ⟨by rw [Hbe.out]; exact h0, by rw [Hbe.out]; rfl, hS6.below⟩)
end Go.Dyn
namespace Go.Dyn
open Go Go.RowKit Go.Proofs
set_option maxRecDepth 20000
set_option maxHeartbeats 400000
def Sup.page (s : Sup) : Pg := laidP 1 (⟨(supD s).toArray⟩ : ByteArray).data.toList (supD_ok s)
def Disk.switch (D : Disk) (s : Sup) : Disk := (D.flush.write (s.gen % 2) s.page).flush
theorem super_Switch {d bf : Nat} {A : Option Addr} {c : Nat} {D : Disk} {w : World} (hO : Own w (diskL d bf A c D)) (hd : D.down = false) (h2 : 2 ≤ D.firm.length) (hn : D.firm.length ≤ 1000) (hk : D.loose.length ≤ 1000000) (hL : ∀ x ∈ D.loose, x.1 < D.firm.length) (s : Sup) (hs : s.right) :
    Calls Tryz.prog 50 #[ptr d, .agg (supC s)] w fun e w' => e = .returned .nilIface ∧ Chg w w' (ids (diskL d bf A c D)) (diskL d bf none 0 (D.switch s)) := by
  have hS0 := hO.start
  have Hz := Lib.hid (supC_size s)
  have Hlay := Lib.hid (fun w => super_Lay s w hs)
  have Hf1 := Lib.hid (fun (w : World) (hO : Own w (diskL d bf A c D)) => disk_Flush hO hd (by omega) hn hk hL)
  have hfl : D.flush.firm.length = D.firm.length := by simp [Disk.flush]
  have Hst := Lib.hid (fun (w : World) (hO : Own w (diskL d bf none 0 D.flush)) => frame_Store hO hd (s.gen % 2) (by omega) (by omega) (by simp [Disk.flush]) 1 ⟨(supD s).toArray⟩ (by omega) (by omega) (supD_ok s))
  have Hf2 := Lib.hid (fun A c (w : World) (hO : Own w (diskL d bf A c (D.flush.write (s.gen % 2) s.page))) => disk_Flush hO hd (by simp [Disk.flush, Disk.write]; omega) (by simp [Disk.flush, Disk.write]; omega) (by simp [Disk.flush, Disk.write]) (by simp [Disk.flush, Disk.write]; omega))
  have Hsw : Hid ((D.flush.write (s.gen % 2) s.page).flush = D.switch s) := Lib.hid rfl
  have Hpg : Hid (laidP 1 (⟨(supD s).toArray⟩ : ByteArray).data.toList (supD_ok s) = s.page) := Lib.hid rfl
  have hg := hs.2.1
  have Hc0 : Hid ((supC s)[0]? = some (.int .u32 (s.gen : Int))) := Lib.hid rfl
  rw [Hpg.out] at Hst
  rw [Hsw.out] at Hf2
  clear Hsw Hpg hs hO
  generalize supC s = cs at *
  generalize supD s = dd at *
  generalize s.page = pg at *
  generalize D.switch s = D3 at *
  generalize s.gen = g at *
  generalize D.flush = D1 at *
  generalize D1.write (g % 2) pg = D2 at *
  generalize diskL d bf A c D = L0 at *
  generalize diskL d bf none 0 D1 = L1 at *
  generalize diskL d bf none 0 D3 = L3 at *
  have hgm : ((g % 2 : Nat) : Int) = (g : Int) % 2 := by omega
  go_enter Tryz.func50, Tryz.ntmps50
  go_wp2_with (first | (guard_target = wpList _ _ _ (Oper.mk _ (Op.box _ _) _ _ _ none :: _) _ _; (first | refine wl_box_agg (dst := 3) rfl ‹Chg _ _ _ _› rfl rfl rfl ?_ | refine wl_box_int (dst := 3) rfl ‹Chg _ _ _ _› rfl rfl rfl ?_ | refine wl_box_str (dst := 3) rfl ‹Chg _ _ _ _› rfl rfl rfl ?_ | refine wl_box_slice (dst := 3) rfl ‹Chg _ _ _ _› rfl rfl rfl ?_ | refine wl_box_ptr (dst := 3) rfl ‹Chg _ _ _ _› rfl rfl rfl ?_); intro b3 w1 hS1) | ((first | (guard_target = wpList _ _ _ (Oper.mk _ (Op.load 105 _) _ _ _ none :: _) _ _) | (guard_target = wpList _ _ _ (Oper.mk _ (Op.load 105 _) _ _ _ (some _) :: _) _ _; refine wl_unguard rfl ?_)); refine wl_loadw_0 hS1 rfl rfl rfl Hz.out ?_) | (go_at_call 83; refine (Hlay.out _).mono ?_; rintro e w2 ⟨rfl, hB2⟩; have hS2 := hS1.bel hB2; clear hS1) | (go_at_call 84; refine (Hf1.out _ hS2.tail.ownL).mono ?_; rintro e w3 ⟨rfl, hB3⟩; have hS3 := hS2.after1 hB3; clear hS2) | ((first | (guard_target = wpList _ _ _ (Oper.mk _ (Op.load 50 _) _ _ _ none :: _) _ _) | (guard_target = wpList _ _ _ (Oper.mk _ (Op.load 50 _) _ _ _ (some _) :: _) _ _; refine wl_unguard rfl ?_)); refine wl_load1_0 hS3 rfl rfl rfl Hc0.out ?_) | (go_at_call 58; rw [← hgm]; refine (Hst.out _ hS3.tail.ownL).mono ?_; rintro e w4 ⟨A4, c4, rfl, hB4⟩; have hS4 := hS3.after1 hB4; clear hS3) | (go_at_call 84; refine (Hf2.out _ _ _ hS4.tail.ownL).mono ?_; rintro e w5 ⟨rfl, hB5⟩; have hS5 := hS4.after1 hB5; clear hS4))
  go_ret
  exact ⟨rfl, hS5.tail⟩
end Go.Dyn
namespace Go.Dyn
open Go Go.RowKit
set_option maxRecDepth 20000
structure Pgr where
  D : Disk
  s : Sup
  fresh : BSet
  gone : BSet
def pgrVL (d : Nat) (s : Sup) (f g : BSet) : List Value := .pointer (some ⟨d, 0, none⟩) :: (supL s ++ (u8s f.b ++ u8s g.b))
def pgrV (d : Nat) (s : Sup) (f g : BSet) : Array Value := (pgrVL d s f g).toArray
theorem supL_length (s : Sup) : (supL s).length = 32 := by simp [supL, s.used.len]
@[simp] theorem pgrV_size (d : Nat) (s : Sup) (f g : BSet) : (pgrV d s f g).size = 93 := by simp [pgrV, pgrVL, supL_length, f.len, g.len]
theorem pgrV_d (d : Nat) (s : Sup) (f g : BSet) : (pgrV d s f g)[0]? = some (.pointer (some ⟨d, 0, none⟩)) := rfl
theorem pgrV_gen (d : Nat) (s : Sup) (f g : BSet) : (pgrV d s f g)[1]? = some (.int .u32 (s.gen : Int)) := rfl
theorem pgrV_root (d : Nat) (s : Sup) (f g : BSet) : (pgrV d s f g)[2]? = some (.int .i64 (s.root : Int)) := rfl
theorem part_of (x y z : List Value) (a n : Nat) (ha : x.length = a) (hn : y.length = n) : part (x ++ (y ++ z)).toArray a n = y.toArray := by
  subst ha; subst hn
  apply Array.ext'
  simp [part, List.take_append, List.drop_append]
theorem pgrV_sup (d : Nat) (s : Sup) (f g : BSet) : part (pgrV d s f g) 1 32 = supC s := part_of [_] (supL s) _ 1 32 rfl (supL_length s)
theorem pgrV_used (d : Nat) (s : Sup) (f g : BSet) : part (pgrV d s f g) 3 30 = s.used.enc := by
  have := part_of [.pointer (some ⟨d, 0, none⟩), .int .u32 (s.gen : Int), .int .i64 (s.root : Int)] (u8s s.used.b) (u8s f.b ++ u8s g.b) 3 30 rfl (by simp [s.used.len])
  exact this
theorem pgrV_fresh (d : Nat) (s : Sup) (f g : BSet) : part (pgrV d s f g) 33 30 = f.enc := by
  have := part_of (.pointer (some ⟨d, 0, none⟩) :: supL s) (u8s f.b) (u8s g.b) 33 30 (by simp [supL_length]) (by simp [f.len])
  exact this
theorem pgrV_gone (d : Nat) (s : Sup) (f g : BSet) : part (pgrV d s f g) 63 30 = g.enc := by
  have := part_of (.pointer (some ⟨d, 0, none⟩) :: (supL s ++ u8s f.b)) (u8s g.b) [] 63 30 (by simp [supL_length, f.len]) (by simp [g.len])
  simpa [pgrV, pgrVL, BSet.enc] using this
theorem lay_of (x y z v : List Value) (a : Nat) (ha : x.length = a) (hn : v.length = y.length) : lay (x ++ (y ++ z)).toArray a v.toArray = (x ++ (v ++ z)).toArray := by
  subst ha
  apply Array.ext'
  simp [lay, hn, List.take_append, List.drop_append]
theorem pgrV_setFresh (d : Nat) (s : Sup) (f g f' : BSet) : lay (pgrV d s f g) 33 f'.enc = pgrV d s f' g :=
  lay_of (.pointer (some ⟨d, 0, none⟩) :: supL s) (u8s f.b) (u8s g.b) (u8s f'.b) 33 (by simp [supL_length]) (by simp [f.len, f'.len])
theorem pgrV_setGone (d : Nat) (s : Sup) (f g g' : BSet) : lay (pgrV d s f g) 63 g'.enc = pgrV d s f g' := by
  have := lay_of (.pointer (some ⟨d, 0, none⟩) :: (supL s ++ u8s f.b)) (u8s g.b) [] (u8s g'.b) 63 (by simp [supL_length, f.len]) (by simp [g.len, g'.len])
  simpa [pgrV, pgrVL, BSet.enc] using this
theorem pgrV_setSup (d : Nat) (s s' : Sup) (f g : BSet) : lay (pgrV d s f g) 1 (supC s') = pgrV d s' f g :=
  lay_of [.pointer (some ⟨d, 0, none⟩)] (supL s) (u8s f.b ++ u8s g.b) (supL s') 1 rfl (by simp [supL_length])
theorem pgr_zero : ((#[.pointer none] ++ (#[.int .u32 0] ++ #[.int .i64 0] ++ (Array.replicate 30 (.int .u8 0))) ++ (Array.replicate 30 (.int .u8 0)) ++ (Array.replicate 30 (.int .u8 0))) : Array Value) = ((.pointer none :: (supL ⟨0, 0, BSet.none⟩ ++ (u8s BSet.none.b ++ u8s BSet.none.b))) : List Value).toArray := by kernel_rfl
theorem pgr_fill (d : Nat) (s : Sup) : Instr.fill ((#[(0, 1), (1, 32), (33, 30), (63, 30)] : Array (Nat × Nat))[·]?) ((#[.pointer none] ++ (#[.int .u32 0] ++ #[.int .i64 0] ++ (Array.replicate 30 (.int .u8 0))) ++ (Array.replicate 30 (.int .u8 0)) ++ (Array.replicate 30 (.int .u8 0))) : Array Value) [(0, .pointer (some ⟨d, 0, none⟩)), (1, .agg (supC s))] = some (pgrV d s BSet.none BSet.none) := by
  rw [pgr_zero]
  rw [fill_cons (off := 0) (size := 1) rfl (by rfl) (by simp)]
  have h0 := lay_of [] [.pointer none] (supL ⟨0, 0, BSet.none⟩ ++ (u8s BSet.none.b ++ u8s BSet.none.b)) [.pointer (some ⟨d, 0, none⟩)] 0 rfl rfl
  simp only [List.nil_append] at h0
  have h0' : lay ((.pointer none :: (supL ⟨0, 0, BSet.none⟩ ++ (u8s BSet.none.b ++ u8s BSet.none.b))) : List Value).toArray 0 (Value.pointer (some ⟨d, 0, none⟩)).cells = (pgrV d ⟨0, 0, BSet.none⟩ BSet.none BSet.none) := h0
  rw [h0']
  rw [fill_cons (off := 1) (size := 32) rfl (by simp [Value.cells]) (by simp)]
  simp only [Instr.fill, Value.cells, pgrV_setSup]
end Go.Dyn
namespace Go.Dyn
open Go Go.RowKit Go.Proofs
set_option maxRecDepth 20000
set_option maxHeartbeats 400000
theorem pager_Root {p d : Nat} {s : Sup} {f g : BSet} {w : World} (h : (blk p (pgrV d s f g) 111).ok w) : Calls Tryz.prog 29 #[ptr p] w fun e w' => e = .returned (.int .i64 (s.root : Int)) ∧ w = w' := by
  have hc : w.cell? ⟨p, 2, none⟩ = some (.int .i64 (s.root : Int)) := blk_cell h 2
  clear h
  go_enter Tryz.func29, Tryz.ntmps29
  go_wp2
  go_ret
  exact ⟨rfl, rfl⟩
theorem pager_Gen {p d : Nat} {s : Sup} {f g : BSet} {w : World} (h : (blk p (pgrV d s f g) 111).ok w) : Calls Tryz.prog 76 #[ptr p] w fun e w' => e = .returned (.int .u32 (s.gen : Int)) ∧ w = w' := by
  have hc : w.cell? ⟨p, 1, none⟩ = some (.int .u32 (s.gen : Int)) := blk_cell h 1
  clear h
  go_enter Tryz.func76, Tryz.ntmps76
  go_wp2
  go_ret
  exact ⟨rfl, rfl⟩
theorem pager_none (p : Nat) (w : World) : Calls Tryz.prog 54 #[ptr p] w fun e w' => e = .returned .nilIface ∧ w = w' := by
  go_enter Tryz.func54, Tryz.ntmps54
  go_wp2
  go_ret
  exact ⟨rfl, rfl⟩
theorem pager_none_nil (w : World) : Calls Tryz.prog 54 #[.pointer none] w fun e w' => ∃ b, e = .returned (.iface 150 (ptr b)) ∧ Chg w w' [] [errIt [b] 9 (.iface 150 (ptr b))] := by
  go_enter Tryz.func54, Tryz.ntmps54
  go_wp2_with (go_at_call 47; refine (tag_Tag _ _ _).mono ?_; rintro e w' ⟨b, rfl, hE⟩)
  go_ret
  exact ⟨b, rfl, hE⟩
theorem pager_Format {d bf : Nat} {A : Option Addr} {c : Nat} {D : Disk} {w : World} (hO : Own w (diskL d bf A c D)) (hd : D.down = false) (h3 : 3 ≤ D.firm.length) (hn : D.firm.length ≤ 1000) (hk : D.loose.length ≤ 1000000) (hL : ∀ x ∈ D.loose, x.1 < D.firm.length) (h0 : ¬ readOk (D.read 0).b) (h1 : ¬ readOk (D.read 1).b) :
    Calls Tryz.prog 13 #[ptr d] w fun e w' => ∃ p, e = .returned (.tuple #[ptr p, .nilIface]) ∧ Chg w w' (ids (diskL d bf A c D)) (blk p (pgrV d ⟨1, 0, BSet.none⟩ BSet.none BSet.none) 111 :: diskL d bf none 0 (D.switch ⟨1, 0, BSet.none⟩)) := by
  have hS0 := hO.start
  have HB := Lib.hid (fun (w : World) (hO : Own w (diskL d bf A c D)) => super_Best hO hd h3 hn hk Sup.zero Sup.zero (.inr ⟨h0, rfl⟩) (.inr ⟨h1, rfl⟩))
  have hs : (⟨1, 0, BSet.none⟩ : Sup).right := ⟨by decide, by decide, .inl rfl, BSet.has_none 0, BSet.has_none 1⟩
  have HS := Lib.hid (fun (w : World) (hO : Own w (diskL d bf A c D)) => super_Switch hO hd (by omega) hn hk hL _ hs)
  have Hz0 := Lib.hid (supC_size Sup.zero)
  have Hz1 := Lib.hid (supC_size ⟨1, 0, BSet.none⟩)
  have Hone0 := Lib.hid (@supC_one Sup.zero)
  have Hone1 := Lib.hid (@supC_one ⟨1, 0, BSet.none⟩)
  have Hc0 : Hid ((supC Sup.zero)[0]? = some (.int .u32 0)) := Lib.hid rfl
  have Hb1 : Hid (Instr.fill ((#[(0, 1), (1, 1), (2, 30)] : Array (Nat × Nat))[·]?) (#[Value.int .u32 0] ++ #[Value.int .i64 0] ++ (Array.replicate 30 (Value.int .u8 0))) [(0, .int .u32 1)] = some (supC ⟨1, 0, BSet.none⟩)) := Lib.hid (by
    rw [fill_cons (off := 0) (size := 1) rfl (by rfl) (by simp), Instr.fill, sup_zero]
    rfl)
  have Hfl := Lib.hid (pgr_fill d ⟨1, 0, BSet.none⟩)
  generalize supC ⟨1, 0, BSet.none⟩ = c1 at *
  generalize supC Sup.zero = c0 at *
  generalize D.switch ⟨1, 0, BSet.none⟩ = D' at *
  generalize pgrV d ⟨1, 0, BSet.none⟩ BSet.none BSet.none = pv at *
  generalize diskL d bf A c D = L0 at *
  generalize diskL d bf none 0 D' = L1 at *
  clear hO
  go_enter Tryz.func13, Tryz.ntmps13
  go_wp2_with (first | (go_at_call 48; refine (HB.out _ hS0.ownL).mono ?_; rintro e w1 (⟨h, _⟩ | ⟨_, b, rfl, hE⟩); exact absurd rfl h; have hS1 := hS0.pure hE; clear hS0; have hb := hS1.get 0 rfl) | (guard_target = wpList _ _ _ (Oper.mk _ (Op.alloc _) _ _ _ none :: _) _ _; (refine wl_alloc_agg (dst := 4) rfl ‹Chg _ _ _ _› rfl rfl ?_); intro b4 w2 hS2) | (guard_target = wpList _ _ _ (Oper.mk _ (Op.store 105 _ _) _ _ _ none :: _) _ _; refine wl_storew_0 hS2 rfl rfl rfl rfl Hz0.out Hone0.out (by simp) ?_; intro w3 hS3; clear hS2; replace hb := hS3.get 1 rfl) | (go_at_call 49; refine (tag_Same_E hb 4 rfl).mono ?_; rintro e w4 ⟨rfl, rfl⟩) | ((first | (guard_target = wpList _ _ _ (Oper.mk _ (Op.load 50 _) _ _ _ none :: _) _ _) | (guard_target = wpList _ _ _ (Oper.mk _ (Op.load 50 _) _ _ _ (some _) :: _) _ _; refine wl_unguard rfl ?_)); refine wl_load1_0 hS3 rfl rfl rfl Hc0.out ?_) | (guard_target = wpList _ _ _ (Oper.mk _ (Op.build _ _) _ _ _ none :: _) _ _; first | refine wl_build1 rfl rfl rfl Hb1.out ?_ | refine wl_build2 rfl rfl rfl rfl Hfl.out ?_) | (guard_target = wpList _ _ _ (Oper.mk _ (Op.store 105 _ _) _ _ _ none :: _) _ _; refine wl_storew_0 hS3 rfl rfl rfl rfl Hz1.out Hone1.out Hz0.out ?_; intro w5 hS5; clear hS3) | ((first | (guard_target = wpList _ _ _ (Oper.mk _ (Op.load 105 _) _ _ _ none :: _) _ _) | (guard_target = wpList _ _ _ (Oper.mk _ (Op.load 105 _) _ _ _ (some _) :: _) _ _; refine wl_unguard rfl ?_)); first | refine wl_loadw_0 hS6 rfl rfl rfl Hz1.out ?_ | refine wl_loadw_0 hS5 rfl rfl rfl Hz1.out ?_) | (go_at_call 50; refine (HS.out _ (hS5.tail.tail.ownL)).mono ?_; rintro e w6 ⟨rfl, hB6⟩; have hS6 := hS5.after2 hB6; clear hS5) | (guard_target = wpList _ _ _ (Oper.mk _ (Op.box _ _) _ _ _ none :: _) _ _; (first | refine wl_box_agg (dst := 40) rfl ‹Chg _ _ _ _› rfl rfl rfl ?_ | refine wl_box_int (dst := 40) rfl ‹Chg _ _ _ _› rfl rfl rfl ?_ | refine wl_box_str (dst := 40) rfl ‹Chg _ _ _ _› rfl rfl rfl ?_ | refine wl_box_slice (dst := 40) rfl ‹Chg _ _ _ _› rfl rfl rfl ?_ | refine wl_box_ptr (dst := 40) rfl ‹Chg _ _ _ _› rfl rfl rfl ?_); intro p w7 hS7))
  go_ret2
  exact ⟨p, rfl, hS7.sub ((((List.Sublist.refl L1).cons _).cons _).cons_cons _)⟩
theorem pager_Open {d bf : Nat} {A : Option Addr} {c : Nat} {D : Disk} {w : World} (hO : Own w (diskL d bf A c D)) (hd : D.down = false) (h3 : 3 ≤ D.firm.length) (hn : D.firm.length ≤ 1000) (hk : D.loose.length ≤ 1000000) (s0 s1 : Sup) (hs0 : SupAt (D.read 0) s0) (hs1 : SupAt (D.read 1) s1) (hg : (bstK s0 s1 2).gen ≠ 0) :
    Calls Tryz.prog 33 #[ptr d] w fun e w' => ∃ p, e = .returned (.tuple #[ptr p, .nilIface]) ∧ Chg w w' [] [blk p (pgrV d (bstK s0 s1 2) BSet.none BSet.none) 111] := by
  have hS0 := Chg.nil w []
  have HB := Lib.hid (super_Best hO hd h3 hn hk s0 s1 hs0 hs1)
  generalize bstK s0 s1 2 = s at *
  have Hz := Lib.hid (supC_size s)
  have Hone := Lib.hid (@supC_one s)
  have Hfl := Lib.hid (pgr_fill d s)
  generalize supC s = cs at *
  generalize pgrV d s BSet.none BSet.none = pv at *
  clear hO
  go_enter Tryz.func33, Tryz.ntmps33
  go_wp2_with (first | (go_at_call 48; refine HB.out.mono ?_; rintro e w1 (⟨_, rfl, hB1⟩ | ⟨h, _⟩); have hS1 := hS0.bel hB1; clear hS0; rotate_left; exact absurd h hg) | (guard_target = wpList _ _ _ (Oper.mk _ (Op.alloc _) _ _ _ none :: _) _ _; (refine wl_alloc_agg (dst := 4) rfl ‹Chg _ _ _ _› rfl rfl ?_); intro b4 w2 hS2) | (guard_target = wpList _ _ _ (Oper.mk _ (Op.store 105 _ _) _ _ _ none :: _) _ _; refine wl_storew_0 hS2 rfl rfl rfl rfl Hz.out Hone.out (by simp) ?_; intro w3 hS3; clear hS2) | ((first | (guard_target = wpList _ _ _ (Oper.mk _ (Op.load 105 _) _ _ _ none :: _) _ _) | (guard_target = wpList _ _ _ (Oper.mk _ (Op.load 105 _) _ _ _ (some _) :: _) _ _; refine wl_unguard rfl ?_)); refine wl_loadw_0 hS3 rfl rfl rfl Hz.out ?_) | (guard_target = wpList _ _ _ (Oper.mk _ (Op.build _ _) _ _ _ none :: _) _ _; refine wl_build2 rfl rfl rfl rfl Hfl.out ?_) | (guard_target = wpList _ _ _ (Oper.mk _ (Op.box _ _) _ _ _ none :: _) _ _; (first | refine wl_box_agg (dst := 17) rfl ‹Chg _ _ _ _› rfl rfl rfl ?_ | refine wl_box_int (dst := 17) rfl ‹Chg _ _ _ _› rfl rfl rfl ?_ | refine wl_box_str (dst := 17) rfl ‹Chg _ _ _ _› rfl rfl rfl ?_ | refine wl_box_slice (dst := 17) rfl ‹Chg _ _ _ _› rfl rfl rfl ?_ | refine wl_box_ptr (dst := 17) rfl ‹Chg _ _ _ _› rfl rfl rfl ?_); intro p w7 hS7))
  go_ret2
  exact ⟨p, rfl, hS7.arr [0] rfl⟩
end Go.Dyn
namespace Go.Dyn
open Go Go.RowKit Go.Proofs
set_option maxRecDepth 20000
set_option maxHeartbeats 400000
def BSet.minusTo (s g : BSet) (k : Nat) : BSet := (List.range k).foldl (fun s i => if g.has i then s.del i else s) s
def BSet.minus (s g : BSet) : BSet := s.minusTo g 240
theorem BSet.minusTo_succ (s g : BSet) (k : Nat) : s.minusTo g (k + 1) = if g.has k then (s.minusTo g k).del k else s.minusTo g k := by
  unfold BSet.minusTo
  rw [List.range_succ, List.foldl_append]
  rfl
theorem BSet.has_minusTo (s g : BSet) (m : Nat) : ∀ k, k ≤ 240 → (s.minusTo g k).has m = (s.has m && !(decide (m < k) && g.has m))
  | 0, _ => by simp [BSet.minusTo]
  | k + 1, hk => by
    rw [BSet.minusTo_succ]
    have ih := BSet.has_minusTo s g m k (by omega)
    split
    · rename_i hg
      rw [BSet.has_del _ _ _ (by omega), ih]
      by_cases hmk : m = k
      · subst hmk
        simp [hg]
      · have : decide (m < k + 1) = decide (m < k) := by
          simp only [decide_eq_decide]; omega
        simp [hmk, this]
    · rename_i hg
      rw [ih]
      by_cases hmk : m = k
      · subst hmk
        simp only [Bool.not_eq_true] at hg
        simp [hg]
      · have : decide (m < k + 1) = decide (m < k) := by
          simp only [decide_eq_decide]; omega
        simp [this]
theorem BSet.has_minus (s g : BSet) (m : Nat) : (s.minus g).has m = (s.has m && !g.has m) := by
  rw [BSet.minus, BSet.has_minusTo _ _ _ 240 (by omega)]
  by_cases h : m < 240
  · simp [h]
  · have : s.has m = false := by
      cases hh : s.has m
      · rfl
      · exact absurd (BSet.has_lt hh) h
    simp [this]
set_option maxRecDepth 5000 in
set_option maxHeartbeats 2000000 in
theorem pager_Used {p d : Nat} {s : Sup} {f g : BSet} {w : World} (h : (blk p (pgrV d s f g) 111).ok w) : Calls Tryz.prog 27 #[ptr p] w fun e w' => e = .returned (.agg ((s.used.or f).minus g).enc) ∧ Below w.heap.size w w' := by
  have hS0 := Chg.nil w []
  have Hu := Lib.hid (pgrV_used d s f g)
  have Hf := Lib.hid (pgrV_fresh d s f g)
  have Hg := Lib.hid (pgrV_gone d s f g)
  have Hz := Lib.hid (pgrV_size d s f g)
  have Hgc : Hid (CellsAt w p 63 (u8s g.b)) := Lib.hid (cellsAt_blk h _ (by
    have := congrArg Array.toList (pgrV_gone d s f g)
    simpa [part, BSet.enc, g.len, List.extract_eq_take_drop] using this))
  generalize pgrV d s f g = pv at *
  have HB := Lib.hid (fun w => bits_Both s.used f w)
  generalize s.used = u at *
  have HI := Lib.hid (fun n w h => bits_Has g n w h)
  have HW := Lib.hid (fun s n h w => bits_Without s n w h)
  have Hsuc := Lib.hid (BSet.minusTo_succ (u.or f) g)
  have Hm0 : Hid ((u.or f).minusTo g 0 = u.or f) := Lib.hid rfl
  have Hm : Hid ((u.or f).minusTo g 240 = (u.or f).minus g) := Lib.hid rfl
  generalize u.or f = uf at *
  go_enter Tryz.func27, Tryz.ntmps27
  go_wp2_with (first | (guard_target = wpList _ _ _ (Oper.mk _ (Op.alloc _) _ _ _ none :: _) _ _; (refine wl_alloc_agg (dst := 2) rfl ‹Chg _ _ _ _› rfl rfl ?_); intro b2 w1 hS1))
  have Hp := Lib.hid h
  have hHeld : ∀ (w' : World) (L : List It), Chg w w' [] L → Held [blk p pv 111] w' := fun w' L hc => Held.one (hc.oldBlk h (by simp))
  have HH := Lib.hid hHeld
  clear h hHeld
  refine wp_region_moves 11 (Held [blk p pv 111]) (by kernel_rfl) (by kernel_rfl) ?_
  intro hwt
  have hS2 := hS1.drew
  clear hS1
  refine wpM_quiet hwt [0, 1, 2, 3, 4, 5, 6, 7, 8] [] _ (by kernel_rfl) (HH.out _ _ hS2) ?_
  simp only [pick_cons, pick_nil, consO_some, List.getElem?_cons_zero, List.getElem?_cons_succ]
  (go_big_quiet_want; go_big_quiet_op; first | go_big_quiet_on | (refine ⟨_, fun _ _ => rfl, ?_⟩; go_big_quiet_on))
  (go_big_quiet_want; go_big_quiet_op; first | go_big_quiet_on | (refine ⟨_, fun _ _ => rfl, ?_⟩; go_big_quiet_on))
  (go_big_quiet_want; go_big_quiet_op; first | go_big_quiet_on | (refine ⟨_, fun _ _ => rfl, ?_⟩; go_big_quiet_on))
  (go_big_quiet_want; go_big_quiet_op; first | go_big_quiet_on | (refine ⟨_, fun _ _ => rfl, ?_⟩; go_big_quiet_on))
  (go_big_quiet_want; refine quiet_loadr rfl rfl (fun w' hw' => hw'.get 0 rfl) (by rw [Hz.out]; decide) Hu.out ?_; go_frame; go_big_quiet_on)
  (go_big_quiet_want; go_big_quiet_op; first | go_big_quiet_on | (refine ⟨_, fun _ _ => rfl, ?_⟩; go_big_quiet_on))
  (go_big_quiet_want; go_big_quiet_op; first | go_big_quiet_on | (refine ⟨_, fun _ _ => rfl, ?_⟩; go_big_quiet_on))
  (go_big_quiet_want; go_big_quiet_op; first | go_big_quiet_on | (refine ⟨_, fun _ _ => rfl, ?_⟩; go_big_quiet_on))
  (go_big_quiet_want; refine quiet_loadr rfl rfl (fun w' hw' => hw'.get 0 rfl) (by rw [Hz.out]; decide) Hf.out ?_; go_frame; go_big_quiet_on)
  refine wpQuiet_nil ?_
  refine wpM_two 9 10 (by kernel_rfl) ?_ ?_
  · simp only [pick_cons, pick_nil, consO_some, List.getElem?_cons_zero, List.getElem?_cons_succ]
    go_wp2_with (go_at_call 56; refine (HB.out _).mono ?_; rintro e w3 ⟨rfl, hB3⟩; have hS3 := hS2.bel hB3)
    refine ⟨HH.out _ _ hS3, ?_⟩
    refine wpM_one 10 (by kernel_rfl) ?_
    simp only [pick_cons, pick_nil, consO_some, List.getElem?_cons_zero, List.getElem?_cons_succ]
    refine wl_alloc_agg (dst := 3) rfl hS3 rfl rfl ?_
    intro b3 w4 hS4
    refine wpList_nil ⟨HH.out _ _ hS4, ?_⟩
    clear hS2 hS3
    refine wpM_done (by kernel_rfl) ?_
    simp only [List.take_succ_cons, List.take_zero, List.drop_succ_cons, List.drop_zero]
    (try go_frame)
    go_wp2_with (first | (guard_target = wpList _ _ _ (Oper.mk _ (Op.store 59 _ _) _ _ _ none :: _) _ _; refine wl_storew_0 hS4 rfl rfl rfl rfl (by simp) BSet.one (by simp) ?_; intro w5 hS5; clear hS4))
    go_loopw [18] (fun v w' => ∃ k : Nat, k ≤ 240 ∧ v = .int .i64 k ∧ Chg w w' [] [blk b3 (uf.minusTo g k).enc 59, blk b2 (Array.replicate 30 (Value.int .u8 0)) 59]) (fun v _ => 240 - (intOf v).toNat)
    case atStart => exact ⟨0, by omega, rfl, by rw [Hm0.out]; exact hS5⟩
    case round =>
      obtain ⟨k, hk2, rfl, hS⟩ := hrel
      clear hS5
      by_cases hlt : k < 240
      · have HIk := Lib.hid (fun w => HI.out k w hlt)
        have Hsk := Lib.hid (Hsuc.out k)
        by_cases hb : g.has k = true
        · rw [hb] at HIk
          rw [if_pos hb] at Hsk
          go_wp2_with (first | ((first | (guard_target = wpList _ _ _ (Oper.mk _ (Op.load 59 _) _ _ _ none :: _) _ _) | (guard_target = wpList _ _ _ (Oper.mk _ (Op.load 59 _) _ _ _ (some _) :: _) _ _; refine wl_unguard rfl ?_)); refine wl_loadc rfl rfl rfl (cs := u8s g.b) (Hgc.out.old hS (by simp)) (by simp [g.len]) ?_) | (go_at_call 64; refine (HIk.out _).mono ?_; rintro e w6 ⟨rfl, hB6⟩; have hS6 := hS.bel hB6; clear hS) | ((first | (guard_target = wpList _ _ _ (Oper.mk _ (Op.load 59 _) _ _ _ none :: _) _ _) | (guard_target = wpList _ _ _ (Oper.mk _ (Op.load 59 _) _ _ _ (some _) :: _) _ _; refine wl_unguard rfl ?_)); refine wl_loadw_0 hS6 rfl rfl rfl (by simp) ?_) | (go_at_call 71; refine (HW.out _ k hlt _).mono ?_; rintro e w7 ⟨rfl, hB7⟩; have hS7 := hS6.bel hB7; clear hS6) | (guard_target = wpList _ _ _ (Oper.mk _ (Op.store 59 _ _) _ _ _ none :: _) _ _; refine wl_storew_0 hS7 rfl rfl rfl rfl (by simp) BSet.one (by simp) ?_; intro w8 hS8))
          go_roundw
          case rel => exact ⟨k + 1, by omega, by go_num, by rw [Hsk.out]; exact hS8⟩
          case measure => simp [intOf]; omega
        · have hb' : g.has k = false := by simpa using hb
          rw [hb'] at HIk
          rw [if_neg hb] at Hsk
          go_wp2_with (first | ((first | (guard_target = wpList _ _ _ (Oper.mk _ (Op.load 59 _) _ _ _ none :: _) _ _) | (guard_target = wpList _ _ _ (Oper.mk _ (Op.load 59 _) _ _ _ (some _) :: _) _ _; refine wl_unguard rfl ?_)); refine wl_loadc rfl rfl rfl (cs := u8s g.b) (Hgc.out.old hS (by simp)) (by simp [g.len]) ?_) | (go_at_call 64; refine (HIk.out _).mono ?_; rintro e w6 ⟨rfl, hB6⟩; have hS6 := hS.bel hB6; clear hS))
          go_roundw
          case rel => exact ⟨k + 1, by omega, by go_num, by rw [Hsk.out]; exact hS6⟩
          case measure => simp [intOf]; omega
      · obtain rfl : k = 240 := by omega
        rw [Hm.out] at hS
        go_wp2_with (first | ((first | (guard_target = wpList _ _ _ (Oper.mk _ (Op.load 59 _) _ _ _ none :: _) _ _) | (guard_target = wpList _ _ _ (Oper.mk _ (Op.load 59 _) _ _ _ (some _) :: _) _ _; refine wl_unguard rfl ?_)); refine wl_loadw_0 hS rfl rfl rfl (by simp) ?_) | (guard_target = wpList _ _ _ (Oper.mk _ (Op.store 59 _ _) _ _ _ none :: _) _ _; refine wl_storew_1 hS rfl rfl rfl rfl (by simp) BSet.one (by simp) ?_; intro w8 hS8))
        exact ret_row 0 hS8 rfl rfl rfl (by simp) rfl ⟨rfl, hS8.below⟩
  · simp only [pick_cons, pick_nil, consO_some, List.getElem?_cons_zero, List.getElem?_cons_succ]
    refine wl_alloc_agg (dst := 3) rfl hS2 rfl rfl ?_
    intro b3 w3 hS3
    refine wpList_nil ⟨HH.out _ _ hS3, ?_⟩
    refine wpM_one 9 (by kernel_rfl) ?_
    simp only [pick_cons, pick_nil, consO_some, List.getElem?_cons_zero, List.getElem?_cons_succ]
    (try go_frame)
    go_wp2_with (go_at_call 56; refine (HB.out _).mono ?_; rintro e w4 ⟨rfl, hB4⟩; have hS4 := hS3.bel hB4)
    refine ⟨HH.out _ _ hS4, ?_⟩
    clear hS2 hS3
    refine wpM_done (by kernel_rfl) ?_
    simp only [List.take_succ_cons, List.take_zero, List.drop_succ_cons, List.drop_zero]
    (try go_frame)
    go_wp2_with (first | (guard_target = wpList _ _ _ (Oper.mk _ (Op.store 59 _ _) _ _ _ none :: _) _ _; refine wl_storew_0 hS4 rfl rfl rfl rfl (by simp) BSet.one (by simp) ?_; intro w5 hS5; clear hS4))
    go_loopw [18] (fun v w' => ∃ k : Nat, k ≤ 240 ∧ v = .int .i64 k ∧ Chg w w' [] [blk b3 (uf.minusTo g k).enc 59, blk b2 (Array.replicate 30 (Value.int .u8 0)) 59]) (fun v _ => 240 - (intOf v).toNat)
    case atStart => exact ⟨0, by omega, rfl, by rw [Hm0.out]; exact hS5⟩
    case round =>
      obtain ⟨k, hk2, rfl, hS⟩ := hrel
      clear hS5
      by_cases hlt : k < 240
      · have HIk := Lib.hid (fun w => HI.out k w hlt)
        have Hsk := Lib.hid (Hsuc.out k)
        by_cases hb : g.has k = true
        · rw [hb] at HIk
          rw [if_pos hb] at Hsk
          go_wp2_with (first | ((first | (guard_target = wpList _ _ _ (Oper.mk _ (Op.load 59 _) _ _ _ none :: _) _ _) | (guard_target = wpList _ _ _ (Oper.mk _ (Op.load 59 _) _ _ _ (some _) :: _) _ _; refine wl_unguard rfl ?_)); refine wl_loadc rfl rfl rfl (cs := u8s g.b) (Hgc.out.old hS (by simp)) (by simp [g.len]) ?_) | (go_at_call 64; refine (HIk.out _).mono ?_; rintro e w6 ⟨rfl, hB6⟩; have hS6 := hS.bel hB6; clear hS) | ((first | (guard_target = wpList _ _ _ (Oper.mk _ (Op.load 59 _) _ _ _ none :: _) _ _) | (guard_target = wpList _ _ _ (Oper.mk _ (Op.load 59 _) _ _ _ (some _) :: _) _ _; refine wl_unguard rfl ?_)); refine wl_loadw_0 hS6 rfl rfl rfl (by simp) ?_) | (go_at_call 71; refine (HW.out _ k hlt _).mono ?_; rintro e w7 ⟨rfl, hB7⟩; have hS7 := hS6.bel hB7; clear hS6) | (guard_target = wpList _ _ _ (Oper.mk _ (Op.store 59 _ _) _ _ _ none :: _) _ _; refine wl_storew_0 hS7 rfl rfl rfl rfl (by simp) BSet.one (by simp) ?_; intro w8 hS8))
          go_roundw
          case rel => exact ⟨k + 1, by omega, by go_num, by rw [Hsk.out]; exact hS8⟩
          case measure => simp [intOf]; omega
        · have hb' : g.has k = false := by simpa using hb
          rw [hb'] at HIk
          rw [if_neg hb] at Hsk
          go_wp2_with (first | ((first | (guard_target = wpList _ _ _ (Oper.mk _ (Op.load 59 _) _ _ _ none :: _) _ _) | (guard_target = wpList _ _ _ (Oper.mk _ (Op.load 59 _) _ _ _ (some _) :: _) _ _; refine wl_unguard rfl ?_)); refine wl_loadc rfl rfl rfl (cs := u8s g.b) (Hgc.out.old hS (by simp)) (by simp [g.len]) ?_) | (go_at_call 64; refine (HIk.out _).mono ?_; rintro e w6 ⟨rfl, hB6⟩; have hS6 := hS.bel hB6; clear hS))
          go_roundw
          case rel => exact ⟨k + 1, by omega, by go_num, by rw [Hsk.out]; exact hS6⟩
          case measure => simp [intOf]; omega
      · obtain rfl : k = 240 := by omega
        rw [Hm.out] at hS
        go_wp2_with (first | ((first | (guard_target = wpList _ _ _ (Oper.mk _ (Op.load 59 _) _ _ _ none :: _) _ _) | (guard_target = wpList _ _ _ (Oper.mk _ (Op.load 59 _) _ _ _ (some _) :: _) _ _; refine wl_unguard rfl ?_)); refine wl_loadw_0 hS rfl rfl rfl (by simp) ?_) | (guard_target = wpList _ _ _ (Oper.mk _ (Op.store 59 _ _) _ _ _ none :: _) _ _; refine wl_storew_1 hS rfl rfl rfl rfl (by simp) BSet.one (by simp) ?_; intro w8 hS8))
        exact ret_row 0 hS8 rfl rfl rfl (by simp) rfl ⟨rfl, hS8.below⟩
end Go.Dyn
namespace Go.Dyn
open Go Go.RowKit Go.Proofs
set_option maxRecDepth 20000
set_option maxHeartbeats 1000000
def pagerL (p d bf : Nat) (A : Option Addr) (c : Nat) (X : Pgr) : List It := blk p (pgrV d X.s X.fresh X.gone) 111 :: diskL d bf A c X.D
def Pgr.busy (X : Pgr) : BSet := X.s.used.or X.fresh
def Pgr.new (X : Pgr) (i : Nat) (pg : Pg) : Pgr := { X with D := X.D.write i pg, fresh := X.fresh.add i }
theorem BSet.firstFrom_some {s : BSet} : ∀ (m k i : Nat), s.firstFrom k m = some i → k ≤ i ∧ i < k + m ∧ s.has i = false
  | 0, k, i, h => by simp [BSet.firstFrom] at h
  | m + 1, k, i, h => by
    simp only [BSet.firstFrom] at h
    split at h
    · have := BSet.firstFrom_some m (k + 1) i h
      exact ⟨by omega, by omega, this.2.2⟩
    · rename_i hk
      injection h with h
      subst h
      exact ⟨by omega, by omega, by simpa using hk⟩
theorem pager_New {p d bf : Nat} {A : Option Addr} {c : Nat} {X : Pgr} {w : World} (hO : Own w (pagerL p d bf A c X)) (hd : X.D.down = false) (h3 : 3 ≤ X.D.firm.length) (hn : X.D.firm.length ≤ 240) (hk : X.D.loose.length ≤ 1000000) (s : ByteArray) (hs : s.data.toList.length ≤ 120) (i : Nat) (hi : X.busy.firstFrom 2 (X.D.firm.length - 2) = some i) :
    Calls Tryz.prog 16 #[ptr p, .string s] w fun e w' => ∃ A' c', e = .returned (.tuple #[.int .i64 (i : Int), .nilIface]) ∧ Chg w w' (ids (pagerL p d bf A c X)) (pagerL p d bf A' c' (X.new i (laidP 2 s.data.toList hs))) := by
  obtain ⟨D, sp, f, g⟩ := X
  simp only [Pgr.busy] at hi
  simp only at *
  have hS0 : Chg w w (ids (pagerL p d bf A c ⟨D, sp, f, g⟩)) (blk p (pgrV d sp f g) 111 :: diskL d bf A c D) := hO.start
  simp only [Pgr.new]
  obtain ⟨hi2, hin, _⟩ := BSet.firstFrom_some _ _ _ hi
  have hin' : i < D.firm.length := by omega
  have Hu := Lib.hid (pgrV_used d sp f g)
  have Hf := Lib.hid (pgrV_fresh d sp f g)
  have Hz := Lib.hid (pgrV_size d sp f g)
  have Hd := Lib.hid (pgrV_d d sp f g)
  have Hset := Lib.hid (pgrV_setFresh d sp f g (f.add i))
  have HB := Lib.hid (fun w => bits_Both sp.used f w)
  have HSz := Lib.hid (fun (w : World) (hO : Own w (diskL d bf A c D)) => disk_Size (hO.all (blk d (diskV bf A c D) 103) (by simp [diskL])))
  have HF : Hid (∀ w, Calls Tryz.prog 55 #[.agg (sp.used.or f).enc, .int .i64 2, .int .i64 (D.firm.length : Int)] w fun e w' => e = .returned (.tuple #[.int .i64 (i : Int), .bool true]) ∧ Below w.heap.size w w') := Lib.hid (fun w => by
    have := bits_First (sp.used.or f) D.firm.length hn w
    rw [hi] at this
    exact this)
  have HS := Lib.hid (fun (w : World) (hO : Own w (diskL d bf A c D)) => frame_Store hO hd i hin' (by omega) hk 2 s (by omega) (by omega) hs)
  have HW := Lib.hid (fun w => bits_With f i w (by omega))
  have hsz : s.size ≤ 120 := hs
  generalize laidP 2 s.data.toList hs = pg at *
  have HP : Hid (∀ A' c', pagerL p d bf A' c' ⟨D.write i pg, sp, f.add i, g⟩ = blk p (pgrV d sp (f.add i) g) 111 :: diskL d bf A' c' (D.write i pg)) := Lib.hid (fun _ _ => rfl)
  generalize hFF : ids (pagerL p d bf A c ⟨D, sp, f, g⟩) = FF at *
  clear hO hFF
  generalize diskL d bf A c D = L0 at *
  generalize pgrV d sp f g = pv at *
  generalize pgrV d sp (f.add i) g = pv2 at *
  generalize sp.used.or f = uf at *
  generalize D.write i pg = D2 at *
  generalize hnn : D.firm.length = n at *
  clear hnn
  go_enter Tryz.func16, Tryz.ntmps16
  go_wp2_with (first | (go_at_call 54; refine (pager_none p _).mono ?_; rintro e w1 ⟨rfl, rfl⟩))
  refine wp_region_quiet_C (fun w' => Chg w w' FF (blk p pv 111 :: L0)) (by kernel_rfl) (by kernel_rfl) hS0.drew ?_
  (go_big_quiet_want; go_big_quiet_op; first | go_big_quiet_on | (refine ⟨_, fun _ _ => rfl, ?_⟩; go_big_quiet_on))
  (go_big_quiet_want; go_big_quiet_op; first | go_big_quiet_on | (refine ⟨_, fun _ _ => rfl, ?_⟩; go_big_quiet_on))
  (go_big_quiet_want; go_big_quiet_op; first | go_big_quiet_on | (refine ⟨_, fun _ _ => rfl, ?_⟩; go_big_quiet_on))
  (go_big_quiet_want; go_big_quiet_op; first | go_big_quiet_on | (refine ⟨_, fun _ _ => rfl, ?_⟩; go_big_quiet_on))
  (go_big_quiet_want; refine quiet_loadr rfl rfl (fun w' hw' => hw'.get 0 rfl) (by rw [Hz.out]; decide) Hu.out ?_; go_frame; go_big_quiet_on)
  (go_big_quiet_want; go_big_quiet_op; first | go_big_quiet_on | (refine ⟨_, fun _ _ => rfl, ?_⟩; go_big_quiet_on))
  (go_big_quiet_want; go_big_quiet_op; first | go_big_quiet_on | (refine ⟨_, fun _ _ => rfl, ?_⟩; go_big_quiet_on))
  (go_big_quiet_want; go_big_quiet_op; first | go_big_quiet_on | (refine ⟨_, fun _ _ => rfl, ?_⟩; go_big_quiet_on))
  (go_big_quiet_want; refine quiet_loadr rfl rfl (fun w' hw' => hw'.get 0 rfl) (by rw [Hz.out]; decide) Hf.out ?_; go_frame; go_big_quiet_on)
  (go_big_quiet_want; go_big_quiet_op; refine ⟨_, fun w' hw' => (HB.out _).mono (fun e w'' h => ⟨h.1, hw'.bel h.2⟩), ?_⟩; go_big_quiet_on)
  (go_big_quiet_want; go_big_quiet_op; first | go_big_quiet_on | (refine ⟨_, fun _ _ => rfl, ?_⟩; go_big_quiet_on))
  (go_big_quiet_want; go_big_quiet_op; first | go_big_quiet_on | (refine ⟨_, fun _ _ => rfl, ?_⟩; go_big_quiet_on))
  (go_big_quiet_want; go_big_quiet_op; first | go_big_quiet_on | (refine ⟨_, fun _ _ => rfl, ?_⟩; go_big_quiet_on))
  (go_big_quiet_want; refine quiet_load1 rfl rfl (fun w' hw' => (blk_cell (hw'.get 0 rfl) 0).trans Hd.out) ?_; go_frame; go_big_quiet_on)
  (go_big_quiet_want; go_big_quiet_op; refine ⟨_, fun w' hw' => (HSz.out _ hw'.tail.ownL).mono (fun e w'' h => ⟨h.1, by rw [← h.2]; exact hw'⟩), ?_⟩; go_big_quiet_on)
  (go_big_quiet_want; go_big_quiet_op; refine ⟨_, fun w' hw' => (HF.out _).mono (fun e w'' h => ⟨h.1, hw'.bel h.2⟩), ?_⟩; go_big_quiet_on)
  (go_big_quiet_want; go_big_quiet_op; first | go_big_quiet_on | (refine ⟨_, fun _ _ => rfl, ?_⟩; go_big_quiet_on))
  (go_big_quiet_want; go_big_quiet_op; first | go_big_quiet_on | (refine ⟨_, fun _ _ => rfl, ?_⟩; go_big_quiet_on))
  (go_big_quiet_want; go_big_quiet_op; first | go_big_quiet_on | (refine ⟨_, fun _ _ => rfl, ?_⟩; go_big_quiet_on))
  (go_big_quiet_want; go_big_quiet_op; first | go_big_quiet_on | (refine ⟨_, fun _ _ => rfl, ?_⟩; go_big_quiet_on))
  (go_big_quiet_want; go_big_quiet_op; first | go_big_quiet_on | (refine ⟨_, fun _ _ => rfl, ?_⟩; go_big_quiet_on))
  refine wpQuiet_nil ?_
  intro w2 hS2
  clear hS0
  go_wp2_with (first | ((first | (guard_target = wpList _ _ _ (Oper.mk _ (Op.load 23 _) _ _ _ none :: _) _ _) | (guard_target = wpList _ _ _ (Oper.mk _ (Op.load 23 _) _ _ _ (some _) :: _) _ _; refine wl_unguard rfl ?_)); refine wl_load1_0 hS2 rfl rfl rfl Hd.out ?_) | (go_at_call 58; refine (HS.out _ hS2.tail.ownL).mono ?_; rintro e w3 ⟨A3, c3, rfl, hB3⟩; have hS3 := hS2.after1 hB3; clear hS2) | ((first | (guard_target = wpList _ _ _ (Oper.mk _ (Op.load 59 _) _ _ _ none :: _) _ _) | (guard_target = wpList _ _ _ (Oper.mk _ (Op.load 59 _) _ _ _ (some _) :: _) _ _; refine wl_unguard rfl ?_)); refine wl_loadr_0 hS3 rfl rfl rfl (by rw [Hz.out]; decide) Hf.out ?_) | (go_at_call 59; refine (HW.out _).mono ?_; rintro e w4 ⟨rfl, hB4⟩; have hS4 := hS3.bel hB4; clear hS3) | (guard_target = wpList _ _ _ (Oper.mk _ (Op.store 59 _ _) _ _ _ none :: _) _ _; refine wl_storer_0 hS4 rfl rfl rfl rfl (by simp) BSet.one (by rw [Hz.out]; decide) ?_; intro w5 hS5; clear hS4; rw [Hset.out] at hS5))
  go_ret2
  exact ⟨A3, c3, rfl, by rw [HP.out]; exact hS5⟩
end Go.Dyn
namespace Go.Dyn
open Go Go.RowKit Go.Proofs
set_option maxRecDepth 20000
set_option maxHeartbeats 1000000
theorem pager_Load_ok {p d bf : Nat} {A : Option Addr} {c : Nat} {X : Pgr} {w : World} (hO : Own w (pagerL p d bf A c X)) (hd : X.D.down = false) (hn : X.D.firm.length ≤ 240) (hk : X.D.loose.length ≤ 1000000) (i : Nat) (hi : i < X.D.firm.length) (hb : X.busy.has i = true) (s : ByteArray) (hs : s.data.toList.length ≤ 120) (hr : X.D.read i = laidP 2 s.data.toList hs) :
    Calls Tryz.prog 107 #[ptr p, .int .i64 (i : Int)] w fun e w' => e = .returned (.tuple #[.string s, .nilIface]) ∧ Below w.heap.size w w' := by
  obtain ⟨D, sp, f, g⟩ := X
  simp only [Pgr.busy] at hb
  simp only at *
  have HP := Lib.hid (hO.all (blk p (pgrV d sp f g) 111) (by simp [pagerL])); have HO := Lib.hid (Chg.ownL (hO.start : Chg w w _ (blk p (pgrV d sp f g) 111 :: diskL d bf A c D)).tail); have hS0 := Chg.nil w []; have Hu := Lib.hid (pgrV_used d sp f g); have Hf := Lib.hid (pgrV_fresh d sp f g); have Hz := Lib.hid (pgrV_size d sp f g); have Hd := Lib.hid (pgrV_d d sp f g); have HB := Lib.hid (fun w => bits_Both sp.used f w)
  have HH : Hid (∀ w, Calls Tryz.prog 64 #[.agg (sp.used.or f).enc, .int .i64 (i : Int)] w fun e w' => e = .returned (.bool true) ∧ Below w.heap.size w w') := Lib.hid (fun w => by
    have := bits_Has (sp.used.or f) i w (by omega)
    rw [hb] at this
    exact this)
  have HL := Lib.hid (fun (w : World) (hO : Own w (diskL d bf A c D)) => frame_Load_ok hO hd i hi (by omega) hk 2 s (by omega) (by omega) hs hr)
  clear hO
  generalize diskL d bf A c D = L0 at *
  generalize pgrV d sp f g = pv at *
  generalize sp.used.or f = uf at *
  go_enter Tryz.func107, Tryz.ntmps107
  go_wp2_with (first | (go_at_call 54; refine (pager_none p _).mono ?_; rintro e w1 ⟨rfl, rfl⟩))
  refine wp_region_quiet_C (fun w' => Chg w w' [] []) (by kernel_rfl) (by kernel_rfl) hS0.drew ?_
  (go_big_quiet_want; go_big_quiet_op; first | go_big_quiet_on | (refine ⟨_, fun _ _ => rfl, ?_⟩; go_big_quiet_on))
  (go_big_quiet_want; go_big_quiet_op; first | go_big_quiet_on | (refine ⟨_, fun _ _ => rfl, ?_⟩; go_big_quiet_on))
  (go_big_quiet_want; go_big_quiet_op; first | go_big_quiet_on | (refine ⟨_, fun _ _ => rfl, ?_⟩; go_big_quiet_on))
  (go_big_quiet_want; go_big_quiet_op; first | go_big_quiet_on | (refine ⟨_, fun _ _ => rfl, ?_⟩; go_big_quiet_on))
  (go_big_quiet_want; refine quiet_loadr rfl rfl (fun w' hw' => hw'.oldBlk HP.out (by simp)) (by rw [Hz.out]; decide) Hu.out ?_; go_frame; go_big_quiet_on)
  (go_big_quiet_want; go_big_quiet_op; first | go_big_quiet_on | (refine ⟨_, fun _ _ => rfl, ?_⟩; go_big_quiet_on))
  (go_big_quiet_want; go_big_quiet_op; first | go_big_quiet_on | (refine ⟨_, fun _ _ => rfl, ?_⟩; go_big_quiet_on))
  (go_big_quiet_want; go_big_quiet_op; first | go_big_quiet_on | (refine ⟨_, fun _ _ => rfl, ?_⟩; go_big_quiet_on))
  (go_big_quiet_want; refine quiet_loadr rfl rfl (fun w' hw' => hw'.oldBlk HP.out (by simp)) (by rw [Hz.out]; decide) Hf.out ?_; go_frame; go_big_quiet_on)
  (go_big_quiet_want; go_big_quiet_op; refine ⟨_, fun w' hw' => (HB.out _).mono (fun e w'' h => ⟨h.1, hw'.bel h.2⟩), ?_⟩; go_big_quiet_on)
  (go_big_quiet_want; go_big_quiet_op; first | go_big_quiet_on | (refine ⟨_, fun _ _ => rfl, ?_⟩; go_big_quiet_on))
  (go_big_quiet_want; go_big_quiet_op; refine ⟨_, fun w' hw' => (HH.out _).mono (fun e w'' h => ⟨h.1, hw'.bel h.2⟩), ?_⟩; go_big_quiet_on)
  (go_big_quiet_want; go_big_quiet_op; first | go_big_quiet_on | (refine ⟨_, fun _ _ => rfl, ?_⟩; go_big_quiet_on))
  refine wpQuiet_nil ?_
  intro w2 hS2
  clear hS0
  have Hc : Hid (w2.cell? ⟨p, 0, none⟩ = some (ptr d)) := Lib.hid ((blk_cell (hS2.oldBlk HP.out (by simp)) 0).trans Hd.out)
  have hc := Hc.out
  go_wp2_with (first | (go_at_call 112; refine (HL.out _ (HO.out.keep hS2)).mono ?_; rintro e w3 ⟨rfl, hB3⟩; have hS3 := hS2.bel hB3; clear hS2))
  go_ret2
  exact ⟨rfl, hS3.below⟩
theorem pager_Load_no {p d bf : Nat} {A : Option Addr} {c : Nat} {X : Pgr} {w : World} (hO : Own w (pagerL p d bf A c X)) (i : Int) (hb : X.busy.hasI i = false) :
    Calls Tryz.prog 107 #[ptr p, .int .i64 i] w fun e w' => ∃ b, e = .returned (.tuple #[.string ⟨#[]⟩, .iface 150 (ptr b)]) ∧ Chg w w' [] [errIt [b] 4 (.iface 150 (ptr b))] := by
  obtain ⟨D, sp, f, g⟩ := X
  simp only [Pgr.busy] at hb
  have HP := Lib.hid (hO.all (blk p (pgrV d sp f g) 111) (by simp [pagerL])); have HO := Lib.hid (Chg.ownL (hO.start : Chg w w _ (blk p (pgrV d sp f g) 111 :: diskL d bf A c D)).tail); have hS0 := Chg.nil w []; have Hu := Lib.hid (pgrV_used d sp f g); have Hf := Lib.hid (pgrV_fresh d sp f g); have Hz := Lib.hid (pgrV_size d sp f g); have Hd := Lib.hid (pgrV_d d sp f g); have HB := Lib.hid (fun w => bits_Both sp.used f w)
  have HH : Hid (∀ w, Calls Tryz.prog 64 #[.agg (sp.used.or f).enc, .int .i64 i] w fun e w' => e = .returned (.bool false) ∧ Below w.heap.size w w') := Lib.hid (fun w => by
    have := bits_HasI (sp.used.or f) i w
    rw [hb] at this
    exact this)
  clear hO
  generalize diskL d bf A c D = L0 at *
  generalize pgrV d sp f g = pv at *
  generalize sp.used.or f = uf at *
  go_enter Tryz.func107, Tryz.ntmps107
  go_wp2_with (first | (go_at_call 54; refine (pager_none p _).mono ?_; rintro e w1 ⟨rfl, rfl⟩))
  refine wp_region_quiet_C (fun w' => Chg w w' [] []) (by kernel_rfl) (by kernel_rfl) hS0.drew ?_
  (go_big_quiet_want; go_big_quiet_op; first | go_big_quiet_on | (refine ⟨_, fun _ _ => rfl, ?_⟩; go_big_quiet_on))
  (go_big_quiet_want; go_big_quiet_op; first | go_big_quiet_on | (refine ⟨_, fun _ _ => rfl, ?_⟩; go_big_quiet_on))
  (go_big_quiet_want; go_big_quiet_op; first | go_big_quiet_on | (refine ⟨_, fun _ _ => rfl, ?_⟩; go_big_quiet_on))
  (go_big_quiet_want; go_big_quiet_op; first | go_big_quiet_on | (refine ⟨_, fun _ _ => rfl, ?_⟩; go_big_quiet_on))
  (go_big_quiet_want; refine quiet_loadr rfl rfl (fun w' hw' => hw'.oldBlk HP.out (by simp)) (by rw [Hz.out]; decide) Hu.out ?_; go_frame; go_big_quiet_on)
  (go_big_quiet_want; go_big_quiet_op; first | go_big_quiet_on | (refine ⟨_, fun _ _ => rfl, ?_⟩; go_big_quiet_on))
  (go_big_quiet_want; go_big_quiet_op; first | go_big_quiet_on | (refine ⟨_, fun _ _ => rfl, ?_⟩; go_big_quiet_on))
  (go_big_quiet_want; go_big_quiet_op; first | go_big_quiet_on | (refine ⟨_, fun _ _ => rfl, ?_⟩; go_big_quiet_on))
  (go_big_quiet_want; refine quiet_loadr rfl rfl (fun w' hw' => hw'.oldBlk HP.out (by simp)) (by rw [Hz.out]; decide) Hf.out ?_; go_frame; go_big_quiet_on)
  (go_big_quiet_want; go_big_quiet_op; refine ⟨_, fun w' hw' => (HB.out _).mono (fun e w'' h => ⟨h.1, hw'.bel h.2⟩), ?_⟩; go_big_quiet_on)
  (go_big_quiet_want; go_big_quiet_op; first | go_big_quiet_on | (refine ⟨_, fun _ _ => rfl, ?_⟩; go_big_quiet_on))
  (go_big_quiet_want; go_big_quiet_op; refine ⟨_, fun w' hw' => (HH.out _).mono (fun e w'' h => ⟨h.1, hw'.bel h.2⟩), ?_⟩; go_big_quiet_on)
  (go_big_quiet_want; go_big_quiet_op; first | go_big_quiet_on | (refine ⟨_, fun _ _ => rfl, ?_⟩; go_big_quiet_on))
  refine wpQuiet_nil ?_
  intro w2 hS2
  clear hS0
  go_wp2_with (first | (go_at_call 47; refine (tag_Tag _ _ _).mono ?_; rintro e w3 ⟨b, rfl, hE⟩; have hS3 := hS2.pure hE))
  go_ret2
  exact ⟨b, rfl, hS3.arr [0] rfl⟩
end Go.Dyn
namespace Go.Dyn
open Go Go.RowKit
set_option maxRecDepth 20000
section
variable {P : Program} {w0 w : World} {F : List Nat} {L : List It} {ops : Array Oper} {Q : Exit → Act → World → Prop} {rest : List Oper} {o : Oper} {a : Act}
theorem wl_clear {dT e : TypeId} {z : Value} [hzz : HasZero P e z] (hz : z.cells = #[z]) (h1 : z.oneCell' = true) {d : Operand} (hd : P.underlying dT = some (.slice e)) (hgd : o.guard = none) (ho : o.op = .call { callee := .builtin .clear, args := #[d], argTypes := #[dT] })
    {b off n c : Nat} {cs : Array Value} {T : TypeId} (hS : Chg w0 w F (blk b cs T :: L)) (hx : a.eval d = .slice (some ⟨b, off, none⟩) (n + 1) c) (hfit : off + (n + 1) ≤ cs.size)
    (h : ∀ w', Chg w0 w' F (blk b (lay cs off (Array.replicate (n + 1) z)) T :: L) → wpList P ops Q rest (a.put o.dst (.tuple #[])) w') : wpList P ops Q (o :: rest) a w :=
  wpList_plain hgd fun K hK => by
    unfold Oper.wp execOp
    have hzv : ∀ w, (zeroValue e).run P w = .ok z w := fun w => by
      have := hzz.zero
      cases hq : P.info? e with
      | none => simp [hq] at this
      | some x => simp [hq] at this; simp [zeroValue, typeInfo, hq, this]
    have hzc : (Builtin.zeroCells z.cells (n + 1)).toList = List.replicate (n + 1) z := by
      rw [hz]
      simp [Builtin.zeroCells]
      apply List.ext_getElem
      · simp
      · intro i h1 h2
        simp [Nat.mod_one]
    have hst := run_storeCells_at (P := P) b off T (List.replicate (n + 1) z) 0 cs w hS.head (by simp; omega) (fun v hv => by rw [List.eq_of_mem_replicate hv]; exact h1)
    simp only [Nat.add_zero] at hst
    simp only [ho, resolve, invoke, builtin, Sem.run_bind, Sem.run_pure, Result.andThen_ok, List.map_toArray, List.map_cons, List.map_nil, hx]
    simp only [Builtin.clear_, List.getElem?_toArray, List.getElem?_cons_zero, Sem.run_bind, Sem.run_pure, run_underlying hd, Result.andThen_ok, hzv, hzc, hst]
    have hw := hS.setRow (lay cs off (Array.replicate (n + 1) z))
    refine hK _ _ (h _ ?_)
    simpa [lay] using hw
end
end Go.Dyn
