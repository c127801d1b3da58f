/- Part of the proof that CheckWrong returns true, whatever the four bytes; tied to the program's own text (part 10 of 14) -/
import Derived.Test.YtgnkmahdcomjcaaGreatDoorCW09
import Derived.Lib.AppendZerosOnto
set_option linter.unusedVariables false
set_option linter.unusedSimpArgs false
namespace Go.Dyn
open Go Go.RowKit Go.Proofs
set_option maxRecDepth 20000
set_option maxHeartbeats 2000000
def ndL (x y z : Sl) (n : Nd) : List It := [slIt 1 3 x.a n.keys.length x.c (intsV n.keys), slIt 1 9 y.a n.vals.length y.c (strsV n.vals), slIt 1 3 z.a n.kids.length z.c (intsV n.kids)]
def Nd.rest0 (n : Nd) : List UInt8 := n.vals.flatMap (fun v => v.data.toList) ++ n.kids.flatMap (be 1)
theorem Nd.bytes_eq (n : Nd) : n.bytes = be 1 n.kind ++ (be 1 n.keys.length ++ (n.keys.flatMap (be 4) ++ n.rest0)) := by simp [Nd.bytes, Nd.hd, Nd.rest0]
theorem Nd.right_facts {n : Nd} (h : n.right) : n.keys.length ≤ 7 ∧ n.vals.length ≤ 7 ∧ n.kids.length ≤ 8 ∧ (∀ v ∈ n.vals, v.size = 12) ∧ (∀ k ∈ n.kids, k < 256) ∧ n.kind ≤ 1 ∧ ((n.keys.length : Int) * (1 - (n.kind : Int)) = n.vals.length) ∧ (((n.keys.length : Int) + 1) * (n.kind : Int) = n.kids.length) := by
  obtain ⟨⟨h1, h2, h3⟩, h4⟩ := h
  rcases h4 with ⟨h5, h6, h7⟩ | ⟨h5, h6, h7, h8⟩
  · have hk : n.kind = 0 := by simp [Nd.kind, h5]
    rw [hk, h5]
    exact ⟨h3, by omega, by simp, h7, by simp, by omega, by simp [h6], by simp⟩
  · have hk : n.kind = 1 := by simp [Nd.kind]; intro e; simp [e] at h7
    rw [hk, h5]
    exact ⟨h3, by simp, by omega, by simp, fun k hk => by have := h8.1 k hk; omega, by omega, by simp, by simp; omega⟩
theorem Nd.bytes_length {n : Nd} (h : n.right) : n.bytes.length ≤ 120 := by
  obtain ⟨h1, h2, h3, h4, _⟩ := Nd.right_facts h
  have h5 : n.kind = 0 → n.kids.length = 0 := fun e => by
    unfold Nd.kind at e
    split at e
    · assumption
    · omega
  have h6 : n.vals = [] ∨ n.kids = [] := by
    rcases h.2 with h' | h'
    · exact .inr h'.1
    · exact .inl h'.1
  simp only [Nd.bytes, Nd.hd, List.length_append, be_length, flat_be_length, flat_val_length _ h4]
  rcases h6 with h6 | h6
  · simp only [h6, List.length_nil]; omega
  · simp only [h6, List.length_nil]; omega
theorem node_parts {n : Nd} {w : World} (h : n.right) : Calls Tryz.prog 134 #[strL n.bytes] w fun e w' => ∃ x y z, e = .returned (.tuple #[.agg (ndV x y z n), .bool true]) ∧ Chg w w' [] (ndL x y z n) := by
  have hlen := Nd.bytes_length h
  have hkey := h.1.1
  obtain ⟨f1, f2, f3, f4, f5, f6, f7, f8⟩ := Nd.right_facts h
  have hS0 := Chg.nil w []
  rw [Nd.bytes_eq] at *
  have e1 : decide (1 < (n.kind : Int)) = false := by simp; omega
  have e2 : decide (7 < (n.keys.length : Int)) = false := by simp; omega
  have Hn1 := Lib.hid (fun (b1 b4 b5 k m : Nat) (rest : List UInt8) (L : List It) (w' : World) (hS : Chg w w' [] (blk b1 #[strL (be k m ++ rest)] 9 :: blk b5 #[.func (.func 156) #[] #[ptr b1, ptr b4]] 241 :: L)) => node_number_be (k := k) (m := m) hS)
  go_enter Tryz.func134, Tryz.ntmps134
  go_wp2_with (first | (guard_target = wpList _ _ _ (Oper.mk _ (Op.box _ _) _ _ _ none :: _) _ _; refine wl_box_str rfl hS0 rfl rfl rfl ?_; intro b1 w1 hS1; clear hS0) | (guard_target = wpList _ _ _ (Oper.mk _ (Op.alloc 34) _ _ _ none :: _) _ _; refine wl_alloc_agg rfl hS1 rfl rfl ?_; intro b2 w2 hS2; clear hS1) | (guard_target = wpList _ _ _ (Oper.mk _ (Op.alloc 4) _ _ _ none :: _) _ _; refine wl_alloc_one rfl rfl hS2 rfl rfl ?_; intro b4 w4 hS4; clear hS2) | (guard_target = wpList _ _ _ (Oper.mk _ (Op.store 4 _ _) _ _ _ none :: _) _ _; refine wl_store1_0 (v := .bool true) hS4 rfl rfl rfl rfl rfl (by simp) ?_; intro w5 hS5; clear hS4) | (guard_target = wpList _ _ _ (Oper.mk _ (Op.alloc 241) _ _ _ none :: _) _ _; refine wl_alloc_one rfl rfl hS5 rfl rfl ?_; intro b5 w6 hS6; clear hS5) | (guard_target = wpList _ _ _ (Oper.mk _ (Op.store 241 _ _) _ _ _ none :: _) _ _; refine wl_store1_0 (v := .func (.func 156) #[] #[ptr b1, ptr b4]) hS6 rfl rfl rfl rfl rfl (by simp) ?_; intro w7 hS7; clear hS6) | (go_at_call 157; first | (refine (Hn1.out b1 b4 b5 1 n.kind _ _ _ (hS7.arr [3, 0, 2, 1] rfl) (by omega) (by omega)).mono ?_; rintro e w8 ⟨rfl, hS8⟩; clear hS7) | (refine (Hn1.out b1 b4 b5 1 n.keys.length _ _ _ hS8 (by omega) (by simp only [List.length_append, be_length] at *; omega)).mono ?_; rintro e w9 ⟨rfl, hS9⟩; clear hS8)) | (guard_target = wpList _ _ _ (Oper.mk _ (Op.alloc 34) _ _ _ none :: _) _ _; refine wl_alloc_agg rfl hS9 rfl rfl ?_; intro b9 w10 hS10; clear hS9))
  have hS11 := (((hS10.addNil 1 3).addNil 1 9).addNil 1 3).arr (L2 := [blk b1 #[strL (n.keys.flatMap (be 4) ++ n.rest0)] 9, blk b5 #[.func (.func 156) #[] #[ptr b1, ptr b4]] 241, slIt 1 3 none 0 0 [], slIt 1 9 none 0 0 [], slIt 1 3 none 0 0 [], blk b9 #[.slice none 0 0, .slice none 0 0, .slice none 0 0] 34, blk b4 #[.bool true] 4, blk b2 #[.slice none 0 0, .slice none 0 0, .slice none 0 0] 34]) [4, 5, 0, 1, 2, 3, 7, 6] rfl
  clear hS10
  go_loopw [24] (fun i w' => ∃ (k : Nat) (A : Option Addr) (c : Nat), k ≤ n.keys.length ∧ i = .int .i64 k ∧ Chg w w' [] [blk b1 #[strL ((n.keys.drop k).flatMap (be 4) ++ n.rest0)] 9, blk b5 #[.func (.func 156) #[] #[ptr b1, ptr b4]] 241, slIt 1 3 A k c (intsV (n.keys.take k)), slIt 1 9 none 0 0 [], slIt 1 3 none 0 0 [], blk b9 #[.slice A k c, .slice none 0 0, .slice none 0 0] 34, blk b4 #[.bool true] 4, blk b2 #[.slice none 0 0, .slice none 0 0, .slice none 0 0] 34]) (fun i _ => n.keys.length - (intOf i).toNat)
  case atStart => exact ⟨0, none, 0, by omega, rfl, hS11⟩
  case round =>
    obtain ⟨k, A, c, hk, rfl, hS⟩ := hrel
    clear hS11
    by_cases hlt : k < n.keys.length
    · have hd : n.keys.drop k = n.keys[k] :: n.keys.drop (k + 1) := List.drop_eq_getElem_cons hlt
      have Hr : Hid ((n.keys.drop k).flatMap (be 4) ++ n.rest0 = be 4 n.keys[k] ++ ((n.keys.drop (k + 1)).flatMap (be 4) ++ n.rest0)) := Lib.hid (by rw [hd, List.flatMap_cons, List.append_assoc])
      have hle : (be 4 n.keys[k] ++ ((n.keys.drop (k + 1)).flatMap (be 4) ++ n.rest0)).length ≤ 1000 := by
        simp only [List.length_append, be_length, flat_be_length, List.length_drop] at *
        omega
      have hkk := hkey n.keys[k] (by simp)
      have Ht : Hid (intsV (n.keys.take (k + 1)) = intsV (n.keys.take k) ++ [.int .i64 (n.keys[k] : Int)]) := Lib.hid (by rw [List.take_succ_eq_append_getElem hlt]; unfold intsV; rw [List.map_append]; rfl)
      rw [Hr.out] at hS
      have Hc := Lib.hid (fun (L : List It) (w' : World) (hS : Chg w w' [] (blk b1 #[strL (be 4 n.keys[k] ++ ((n.keys.drop (k + 1)).flatMap (be 4) ++ n.rest0))] 9 :: blk b5 #[.func (.func 156) #[] #[ptr b1, ptr b4]] 241 :: L)) => node_number_be (k := 4) (m := n.keys[k]) hS (by omega) hle)
      clear hd hle
      generalize n.keys[k] = key at *
      generalize hr1 : (n.keys.drop (k + 1)).flatMap (be 4) ++ n.rest0 = r1 at *
      have Hr1 := Lib.hid hr1
      clear hr1
      generalize intsV (n.keys.take k) = is1 at *
      go_wp2
      refine wp_region_moves 6 (Held [blk b9 #[.slice A k c, .slice none 0 0, .slice none 0 0] 34]) (by kernel_rfl) (by kernel_rfl) ?_
      intro hwt
      have hS1 := hS.drew
      clear hS
      refine wpM_quiet hwt [0, 1, 2] [] _ (by kernel_rfl) (hS1.held [5] rfl) ?_
      simp only [pick_cons, pick_nil, consO_some, List.getElem?_cons_zero, List.getElem?_cons_succ]
      (go_big_quiet_want; go_big_quiet_op; first | go_big_quiet_on | (refine ⟨_, fun _ _ => rfl, ?_⟩; go_big_quiet_on))
      (go_big_quiet_want; refine quiet_load1 (v := .slice A k c) rfl rfl (fun w' hw' => blk_cell (hw'.get 0 rfl) 0) ?_; go_frame; go_big_quiet_on)
      (go_big_quiet_want; go_big_quiet_op; first | go_big_quiet_on | (refine ⟨_, fun _ _ => rfl, ?_⟩; go_big_quiet_on))
      refine wpQuiet_nil ?_
      refine wpM_one 3 (by kernel_rfl) ?_
      simp only [pick_cons, pick_nil, consO_some, List.getElem?_cons_zero, List.getElem?_cons_succ]
      go_wp2_with (go_at_call 157; refine (Hc.out _ _ hS1).mono ?_; rintro e w2 ⟨rfl, hS2⟩; clear hS1)
      refine ⟨hS2.held [5] rfl, ?_⟩
      refine wpM_one 4 (by kernel_rfl) ?_
      simp only [pick_cons, pick_nil, consO_some, List.getElem?_cons_zero, List.getElem?_cons_succ]
      refine wl_buildSlice1 (v := .int .i64 (key : Int)) hS2 rfl rfl rfl rfl rfl ?_
      intro b3 w3 hS3
      clear hS2
      refine wpList_nil ⟨hS3.held [6] rfl, ?_⟩
      refine wpM_one 5 (by kernel_rfl) ?_
      simp only [pick_cons, pick_nil, consO_some, List.getElem?_cons_zero, List.getElem?_cons_succ]
      refine wl_append1 2 hS3 rfl rfl rfl rfl rfl rfl rfl (by simp [Value.cells, Value.oneCell']) (by omega) (by unfold maxLen; omega) ?_
      intro A' c' w4 hS4
      clear hS3
      refine wpList_nil ⟨hS4.held [5] rfl, ?_⟩
      refine wpM_done (by kernel_rfl) ?_
      simp only [List.take_succ_cons, List.take_zero, List.drop_succ_cons, List.drop_zero]
      (try go_frame)
      go_wp2_with (first | (guard_target = wpList _ _ _ (Oper.mk _ (Op.store 31 _ _) _ _ _ none :: _) _ _; refine wl_store1_5 (v := .slice A' (k + 1) c') hS4 rfl rfl rfl rfl rfl (by simp) ?_; intro w5 hS5; clear hS4))
      go_roundw
      case rel => exact ⟨k + 1, A', c', by omega, by go_num, by rw [Ht.out, Hr1.out]; exact hS5.arr [2, 3, 1, 4, 5, 0, 6, 7] rfl⟩
      case measure => simp [intOf]; omega
    · have : k = n.keys.length := by omega
      subst this
      rw [List.take_length] at hS
      rw [List.drop_length] at hS
      have hS0 : Chg w wr [] [blk b1 #[strL (n.vals.flatMap (fun v => v.data.toList) ++ n.kids.flatMap (be 1))] 9, blk b5 #[.func (.func 156) #[] #[ptr b1, ptr b4]] 241, slIt 1 3 A n.keys.length c (intsV n.keys), slIt 1 9 none 0 0 [], slIt 1 3 none 0 0 [], blk b9 #[.slice A n.keys.length c, .slice none 0 0, .slice none 0 0] 34, blk b4 #[.bool true] 4, blk b2 #[.slice none 0 0, .slice none 0 0, .slice none 0 0] 34] := hS
      clear hS
      have hlk : (n.kids.flatMap (be 1)).length ≤ 8 := by simp only [flat_be_length]; omega
      generalize htl : n.kids.flatMap (be 1) = tl at *
      have Htl := Lib.hid htl
      clear htl
      clear hkey
      go_wp2
      go_loopw [38] (fun i w' => ∃ (k : Nat) (B : Option Addr) (d : Nat), k ≤ n.vals.length ∧ i = .int .i64 k ∧ Chg w w' [] [blk b1 #[strL ((n.vals.drop k).flatMap (fun v => v.data.toList) ++ tl)] 9, blk b5 #[.func (.func 156) #[] #[ptr b1, ptr b4]] 241, slIt 1 3 A n.keys.length c (intsV n.keys), slIt 1 9 B k d (strsV (n.vals.take k)), slIt 1 3 none 0 0 ([]), blk b9 #[.slice A n.keys.length c, .slice B k d, .slice none 0 0] 34, blk b4 #[.bool true] 4, blk b2 #[.slice none 0 0, .slice none 0 0, .slice none 0 0] 34]) (fun i _ => n.vals.length - (intOf i).toNat)
      case atStart => exact ⟨0, none, 0, by omega, rfl, hS0⟩
      case round =>
        obtain ⟨k, B, d, hk, rfl, hS⟩ := hrel
        clear hS0
        by_cases hlt : k < n.vals.length
        · have hd : n.vals.drop k = n.vals[k] :: n.vals.drop (k + 1) := List.drop_eq_getElem_cons hlt
          have hv12 : n.vals[k].data.toList.length = 12 := f4 _ (by simp)
          have Hr : Hid ((n.vals.drop k).flatMap (fun v => v.data.toList) ++ tl = n.vals[k].data.toList ++ ((n.vals.drop (k + 1)).flatMap (fun v => v.data.toList) ++ tl)) := Lib.hid (by rw [hd, List.flatMap_cons, List.append_assoc])
          have hle : (n.vals[k].data.toList ++ ((n.vals.drop (k + 1)).flatMap (fun v => v.data.toList) ++ tl)).length ≤ 1000 := by
            simp only [List.length_append, hv12, flat_val_length _ (fun v hv => f4 v (List.mem_of_mem_drop hv)), List.length_drop] at *
            omega
          have Ht : Hid (strsV (n.vals.take (k + 1)) = strsV (n.vals.take k) ++ [strL n.vals[k].data.toList]) := Lib.hid (by rw [List.take_succ_eq_append_getElem hlt, ← strL_of]; unfold strsV; rw [List.map_append]; rfl)
          rw [Hr.out] at hS
          have Hc := Lib.hid (fun (L : List It) (w' : World) (hS : Chg w w' [] (blk b1 #[strL (n.vals[k].data.toList ++ ((n.vals.drop (k + 1)).flatMap (fun v => v.data.toList) ++ tl))] 9 :: L)) => node_take_app (b4 := b4) hS 12 hv12 hle)
          clear hd hle hv12
          generalize n.vals[k].data.toList = val at *
          generalize hr1 : (n.vals.drop (k + 1)).flatMap (fun v => v.data.toList) ++ tl = r1 at *
          have Hr1 := Lib.hid hr1
          clear hr1
          generalize strsV (n.vals.take k) = is1 at *
          go_wp2
          refine wp_region_moves 6 (Held [blk b9 #[.slice A n.keys.length c, .slice B k d, .slice none 0 0] 34, blk b5 #[.func (.func 156) #[] #[ptr b1, ptr b4]] 241]) (by kernel_rfl) (by kernel_rfl) ?_
          intro hwt
          have hS1 := hS.drew
          clear hS
          refine wpM_quiet hwt [0, 1, 2] [] _ (by kernel_rfl) (hS1.held [5, 1] rfl) ?_
          simp only [pick_cons, pick_nil, consO_some, List.getElem?_cons_zero, List.getElem?_cons_succ]
          (go_big_quiet_want; go_big_quiet_op; first | go_big_quiet_on | (refine ⟨_, fun _ _ => rfl, ?_⟩; go_big_quiet_on))
          (go_big_quiet_want; refine quiet_load1 (v := .slice B k d) rfl rfl (fun w' hw' => blk_cell (hw'.get 0 rfl) 1) ?_; go_frame; go_big_quiet_on)
          (go_big_quiet_want; refine quiet_load1 (v := .func (.func 156) #[] #[ptr b1, ptr b4]) rfl rfl (fun w' hw' => blk_cell (hw'.get 1 rfl) 0) ?_; go_frame; go_big_quiet_on)
          refine wpQuiet_nil ?_
          refine wpM_one 3 (by kernel_rfl) ?_
          simp only [pick_cons, pick_nil, consO_some, List.getElem?_cons_zero, List.getElem?_cons_succ]
          go_wp2_with (go_at_call 156; refine (Hc.out _ _ hS1).mono ?_; rintro e w2 ⟨rfl, hS2⟩; clear hS1)
          refine ⟨hS2.held [5, 1] rfl, ?_⟩
          refine wpM_one 4 (by kernel_rfl) ?_
          simp only [pick_cons, pick_nil, consO_some, List.getElem?_cons_zero, List.getElem?_cons_succ]
          refine wl_buildSlice1 (v := strL val) hS2 rfl rfl rfl rfl rfl ?_
          intro b3 w3 hS3
          clear hS2
          refine wpList_nil ⟨hS3.held [6, 2] rfl, ?_⟩
          refine wpM_one 5 (by kernel_rfl) ?_
          simp only [pick_cons, pick_nil, consO_some, List.getElem?_cons_zero, List.getElem?_cons_succ]
          refine wl_append1 3 hS3 rfl rfl rfl rfl rfl rfl rfl (by simp [Value.cells, Value.oneCell', strL]) (by omega) (by unfold maxLen; omega) ?_
          intro A' c' w4 hS4
          clear hS3
          refine wpList_nil ⟨hS4.held [5, 2] rfl, ?_⟩
          refine wpM_done (by kernel_rfl) ?_
          simp only [List.take_succ_cons, List.take_zero, List.drop_succ_cons, List.drop_zero]
          (try go_frame)
          go_wp2_with (first | (guard_target = wpList _ _ _ (Oper.mk _ (Op.store 32 _ _) _ _ _ none :: _) _ _; refine wl_store1_5 (v := .slice A' (k + 1) c') hS4 rfl rfl rfl rfl rfl (by simp) ?_; intro w5 hS5; clear hS4))
          go_roundw
          case rel => exact ⟨k + 1, A', c', by omega, by go_num, by rw [Ht.out, Hr1.out]; exact hS5.arr [2, 3, 4, 1, 5, 0, 6, 7] rfl⟩
          case measure => simp [intOf]; omega
        · have : k = n.vals.length := by omega
          subst this
          rw [List.take_length] at hS
          rw [List.drop_length] at hS
          have hS0 : Chg w wr [] [blk b1 #[strL (n.kids.flatMap (be 1))] 9, blk b5 #[.func (.func 156) #[] #[ptr b1, ptr b4]] 241, slIt 1 3 A n.keys.length c (intsV n.keys), slIt 1 9 B n.vals.length d (strsV n.vals), slIt 1 3 none 0 0 ([]), blk b9 #[.slice A n.keys.length c, .slice B n.vals.length d, .slice none 0 0] 34, blk b4 #[.bool true] 4, blk b2 #[.slice none 0 0, .slice none 0 0, .slice none 0 0] 34] := by rw [Htl.out]; exact hS
          clear hS f4
          go_wp2
          go_loopw [52] (fun i w' => ∃ (k : Nat) (C : Option Addr) (g : Nat), k ≤ n.kids.length ∧ i = .int .i64 k ∧ Chg w w' [] [blk b1 #[strL ((n.kids.drop k).flatMap (be 1))] 9, blk b5 #[.func (.func 156) #[] #[ptr b1, ptr b4]] 241, slIt 1 3 A n.keys.length c (intsV n.keys), slIt 1 9 B n.vals.length d (strsV n.vals), slIt 1 3 C k g (intsV (n.kids.take k)), blk b9 #[.slice A n.keys.length c, .slice B n.vals.length d, .slice C k g] 34, blk b4 #[.bool true] 4, blk b2 #[.slice none 0 0, .slice none 0 0, .slice none 0 0] 34]) (fun i _ => n.kids.length - (intOf i).toNat)
          case atStart => exact ⟨0, none, 0, by omega, rfl, hS0⟩
          case round =>
            obtain ⟨k, C, g, hk, rfl, hS⟩ := hrel
            clear hS0
            by_cases hlt : k < n.kids.length
            · have hd : n.kids.drop k = n.kids[k] :: n.kids.drop (k + 1) := List.drop_eq_getElem_cons hlt
              have Hr : Hid ((n.kids.drop k).flatMap (be 1) = be 1 n.kids[k] ++ (n.kids.drop (k + 1)).flatMap (be 1)) := Lib.hid (by rw [hd, List.flatMap_cons])
              have hle : (be 1 n.kids[k] ++ (n.kids.drop (k + 1)).flatMap (be 1)).length ≤ 1000 := by
                simp only [List.length_append, be_length, flat_be_length, List.length_drop] at *
                omega
              have hkk := f5 n.kids[k] (by simp)
              have Ht : Hid (intsV (n.kids.take (k + 1)) = intsV (n.kids.take k) ++ [.int .i64 (n.kids[k] : Int)]) := Lib.hid (by rw [List.take_succ_eq_append_getElem hlt]; unfold intsV; rw [List.map_append]; rfl)
              rw [Hr.out] at hS
              have Hc := Lib.hid (fun (L : List It) (w' : World) (hS : Chg w w' [] (blk b1 #[strL (be 1 n.kids[k] ++ (n.kids.drop (k + 1)).flatMap (be 1))] 9 :: blk b5 #[.func (.func 156) #[] #[ptr b1, ptr b4]] 241 :: L)) => node_number_be (k := 1) (m := n.kids[k]) hS (by omega) hle)
              clear hd hle
              generalize n.kids[k] = key at *
              generalize hr1 : (n.kids.drop (k + 1)).flatMap (be 1) = r1 at *
              have Hr1 := Lib.hid hr1
              clear hr1
              generalize intsV (n.kids.take k) = is1 at *
              go_wp2
              refine wp_region_moves 6 (Held [blk b9 #[.slice A n.keys.length c, .slice B n.vals.length d, .slice C k g] 34]) (by kernel_rfl) (by kernel_rfl) ?_
              intro hwt
              have hS1 := hS.drew
              clear hS
              refine wpM_quiet hwt [0, 1, 2] [] _ (by kernel_rfl) (hS1.held [5] rfl) ?_
              simp only [pick_cons, pick_nil, consO_some, List.getElem?_cons_zero, List.getElem?_cons_succ]
              (go_big_quiet_want; go_big_quiet_op; first | go_big_quiet_on | (refine ⟨_, fun _ _ => rfl, ?_⟩; go_big_quiet_on))
              (go_big_quiet_want; refine quiet_load1 (v := .slice C k g) rfl rfl (fun w' hw' => blk_cell (hw'.get 0 rfl) 2) ?_; go_frame; go_big_quiet_on)
              (go_big_quiet_want; go_big_quiet_op; first | go_big_quiet_on | (refine ⟨_, fun _ _ => rfl, ?_⟩; go_big_quiet_on))
              refine wpQuiet_nil ?_
              refine wpM_one 3 (by kernel_rfl) ?_
              simp only [pick_cons, pick_nil, consO_some, List.getElem?_cons_zero, List.getElem?_cons_succ]
              go_wp2_with (go_at_call 157; refine (Hc.out _ _ hS1).mono ?_; rintro e w2 ⟨rfl, hS2⟩; clear hS1)
              refine ⟨hS2.held [5] rfl, ?_⟩
              refine wpM_one 4 (by kernel_rfl) ?_
              simp only [pick_cons, pick_nil, consO_some, List.getElem?_cons_zero, List.getElem?_cons_succ]
              refine wl_buildSlice1 (v := .int .i64 (key : Int)) hS2 rfl rfl rfl rfl rfl ?_
              intro b3 w3 hS3
              clear hS2
              refine wpList_nil ⟨hS3.held [6] rfl, ?_⟩
              refine wpM_one 5 (by kernel_rfl) ?_
              simp only [pick_cons, pick_nil, consO_some, List.getElem?_cons_zero, List.getElem?_cons_succ]
              refine wl_append1 4 hS3 rfl rfl rfl rfl rfl rfl rfl (by simp [Value.cells, Value.oneCell']) (by omega) (by unfold maxLen; omega) ?_
              intro A' c' w4 hS4
              clear hS3
              refine wpList_nil ⟨hS4.held [5] rfl, ?_⟩
              refine wpM_done (by kernel_rfl) ?_
              simp only [List.take_succ_cons, List.take_zero, List.drop_succ_cons, List.drop_zero]
              (try go_frame)
              go_wp2_with (first | (guard_target = wpList _ _ _ (Oper.mk _ (Op.store 31 _ _) _ _ _ none :: _) _ _; refine wl_store1_5 (v := .slice A' (k + 1) c') hS4 rfl rfl rfl rfl rfl (by simp) ?_; intro w5 hS5; clear hS4))
              go_roundw
              case rel => exact ⟨k + 1, A', c', by omega, by go_num, by rw [Ht.out, Hr1.out]; exact hS5.arr [2, 3, 4, 5, 1, 0, 6, 7] rfl⟩
              case measure => simp [intOf]; omega
            · have : k = n.kids.length := by omega
              subst this
              rw [List.take_length] at hS
              rw [List.drop_length] at hS
              have hS1 : Chg w wr [] ([blk b1 #[.string ⟨#[]⟩] 9, blk b5 #[.func (.func 156) #[] #[ptr b1, ptr b4]] 241, slIt 1 3 A n.keys.length c (intsV n.keys), slIt 1 9 B n.vals.length d (strsV n.vals), slIt 1 3 C n.kids.length g (intsV n.kids), blk b9 (ndV ⟨A, c⟩ ⟨B, d⟩ ⟨C, g⟩ n) 34, blk b4 #[.bool true] 4, blk b2 #[.slice none 0 0, .slice none 0 0, .slice none 0 0] 34]) := hS
              clear hS
              have HN : Hid ((ndV ⟨A, c⟩ ⟨B, d⟩ ⟨C, g⟩ n).size = 3) := Lib.hid rfl
              have HN1 : Hid (∀ v, v ∈ ndV ⟨A, c⟩ ⟨B, d⟩ ⟨C, g⟩ n → v.oneCell' = true) := Lib.hid (by simp [ndV, Value.oneCell'])
              have HL : Hid ([slIt 1 3 A n.keys.length c (intsV n.keys), slIt 1 9 B n.vals.length d (strsV n.vals), slIt 1 3 C n.kids.length g (intsV n.kids)] = ndL ⟨A, c⟩ ⟨B, d⟩ ⟨C, g⟩ n) := Lib.hid rfl
              generalize hnv : ndV ⟨A, c⟩ ⟨B, d⟩ ⟨C, g⟩ n = nv at *
              have Hnv := Lib.hid hnv
              clear hnv
              go_wp2
              refine wp_region_moves 7 (Held [blk b9 nv 34, blk b4 #[.bool true] 4, blk b1 #[.string ⟨#[]⟩] 9]) (by kernel_rfl) (by kernel_rfl) ?_
              intro hwt
              have hS2 := hS1.drew
              clear hS1
              refine wpM_quiet hwt [0, 1, 2, 3, 4, 5] [] _ (by kernel_rfl) (hS2.held [5, 6, 0] rfl) ?_
              simp only [pick_cons, pick_nil, consO_some, List.getElem?_cons_zero, List.getElem?_cons_succ]
              (go_big_quiet_want; refine quiet_loadw rfl rfl (fun w' hw' => hw'.get 0 rfl) HN.out ?_; go_frame; go_big_quiet_on)
              (go_big_quiet_want; refine quiet_load1 (v := .bool true) rfl rfl (fun w' hw' => blk_cell (hw'.get 1 rfl) 0) ?_; go_frame; go_big_quiet_on)
              (go_big_quiet_want; go_big_quiet_op; first | go_big_quiet_on | (refine ⟨_, fun _ _ => rfl, ?_⟩; go_big_quiet_on))
              (go_big_quiet_want; refine quiet_load1 (v := .string ⟨#[]⟩) rfl rfl (fun w' hw' => blk_cell (hw'.get 2 rfl) 0) ?_; go_frame; go_big_quiet_on)
              (go_big_quiet_want; go_big_quiet_op; first | go_big_quiet_on | (refine ⟨_, fun _ _ => rfl, ?_⟩; go_big_quiet_on))
              (go_big_quiet_want; go_big_quiet_op; first | go_big_quiet_on | (refine ⟨_, fun _ _ => rfl, ?_⟩; go_big_quiet_on))
              refine wpQuiet_nil ?_
              refine wpM_one 6 (by kernel_rfl) ?_
              simp only [pick_cons, pick_nil, consO_some, List.getElem?_cons_zero, List.getElem?_cons_succ]
              refine wl_storew_7 hS2 rfl rfl rfl rfl HN.out HN1.out rfl ?_
              intro w3 hS3
              clear hS2
              refine wpList_nil ⟨hS3.held [6, 7, 1] rfl, ?_⟩
              refine wpM_done (by kernel_rfl) ?_
              simp only [List.take_succ_cons, List.take_zero, List.drop_succ_cons, List.drop_zero]
              (try go_frame)
              go_wp2
              exact ret_row2 (v := .bool true) 0 hS3 rfl rfl rfl rfl HN.out rfl ⟨⟨A, c⟩, ⟨B, d⟩, ⟨C, g⟩, by rw [Hnv.out], HL.out ▸ hS3.arr [3, 4, 5] rfl⟩
end Go.Dyn
namespace Go.Dyn
open Go Go.RowKit Go.Proofs
set_option maxRecDepth 20000
set_option maxHeartbeats 1000000
theorem ndL_read {w0 w : World} {F : List Nat} {L : List It} {x y z : Sl} {n : Nd} (h : Chg w0 w F (ndL x y z n ++ L)) : NdR w x y z n :=
  ⟨SlR.of_sl (h.all (slIt 1 3 x.a n.keys.length x.c (intsV n.keys)) (by simp [ndL])), SlR.of_sl (h.all (slIt 1 9 y.a n.vals.length y.c (strsV n.vals)) (by simp [ndL])), SlR.of_sl (h.all (slIt 1 3 z.a n.kids.length z.c (intsV n.kids)) (by simp [ndL]))⟩
theorem ndV_one (x y z : Sl) (n : Nd) : ∀ v, v ∈ ndV x y z n → v.oneCell' = true := by simp [ndV, Value.oneCell']
theorem Chg.toPure {w0 w : World} {F : List Nat} {L L1 L2 : List It} (h : Chg w0 w F L) (hp : L.Perm (L1 ++ L2)) : Chg w0 w F (L1 ++ L2) := h.perm hp
theorem node_Read {n : Nd} {w : World} (h : n.right) : Calls Tryz.prog 108 #[strL n.bytes] w fun e w' => ∃ x y z, e = .returned (.tuple #[.agg (ndV x y z n), .nilIface]) ∧ Chg w w' [] (ndL x y z n) := by
  have hS0 := Chg.nil w []
  have HP := Lib.hid (fun w => node_parts (w := w) h)
  have HR := Lib.hid (fun (x y z : Sl) (w0 w : World) (F : List Nat) (L : List It) (hS : Chg w0 w F (ndL x y z n ++ L)) => node_Right (ndL_read hS) h)
  have HZ := Lib.hid (fun (x y z : Sl) => show (ndV x y z n).size = 3 from rfl)
  have HO := Lib.hid (fun (x y z : Sl) => ndV_one x y z n)
  clear h
  generalize strL n.bytes = st at *
  go_enter Tryz.func108, Tryz.ntmps108
  go_wp2_with (first | (guard_target = wpList _ _ _ (Oper.mk _ (Op.alloc 34) _ _ _ none :: _) _ _; refine wl_alloc_agg rfl hS0 rfl rfl ?_; intro b2 w2 hS2; clear hS0) | (go_at_call 134; refine (HP.out _).mono ?_; rintro e w3 ⟨x, y, z, rfl, hB3⟩; have hS3 : Chg w w3 [] (blk b2 #[.slice none 0 0, .slice none 0 0, .slice none 0 0] 34 :: ndL x y z n) := (hS2.pure hB3).perm List.perm_append_comm; have HN := Lib.hid (HZ.out x y z); have HN1 := Lib.hid (HO.out x y z); have HRx := Lib.hid (HR.out x y z); clear hS2 hB3) | (guard_target = wpList _ _ _ (Oper.mk _ (Op.alloc 34) _ _ _ none :: _) _ _; refine wl_alloc_agg rfl hS3 rfl rfl ?_; intro b4 w4 hS4; clear hS3) | (guard_target = wpList _ _ _ (Oper.mk _ (Op.store 34 _ _) _ _ _ none :: _) _ _; first | (refine wl_storew_0 hS4 rfl rfl rfl rfl HN.out HN1.out rfl ?_; intro w5 hS5; clear hS4) | (refine wl_storew_1 hS6 rfl rfl rfl rfl HN.out HN1.out rfl ?_; intro w7 hS7; clear hS6)) | ((first | (guard_target = wpList _ _ _ (Oper.mk _ (Op.load 34 _) _ _ _ none :: _) _ _) | (guard_target = wpList _ _ _ (Oper.mk _ (Op.load 34 _) _ _ _ (some _) :: _) _ _; refine wl_unguard rfl ?_)); refine wl_loadw_0 ‹Chg _ _ _ _› rfl rfl rfl HN.out ?_) | (go_at_call 51; refine (HRx.out _ _ _ _ (hS5.perm (List.perm_append_comm (l₁ := [_, _])))).mono ?_; rintro e w6 ⟨rfl, hB6⟩; have hS6 := hS5.bel hB6; clear hS5))
  exact ret_row2 (v := .nilIface) 0 hS7 rfl rfl rfl rfl HN.out rfl ⟨x, y, z, rfl, hS7.tail.tail⟩
end Go.Dyn
namespace Go.Dyn
open Go Go.RowKit Go.Proofs
set_option maxRecDepth 20000
set_option maxHeartbeats 1000000
/-- The disk is up, and of a size. -/
structure Pgr.fit (X : Pgr) : Prop where
  up : X.D.down = false
  low : 3 ≤ X.D.firm.length
  high : X.D.firm.length ≤ 240
  loose : X.D.loose.length ≤ 100000
  inside : ∀ x ∈ X.D.loose, x.1 < X.D.firm.length
def Pgr.free (X : Pgr) : Option Nat := X.busy.firstFrom 2 (X.D.firm.length - 2)
def ndP (n : Nd) (h : n.right) : Pg := laidP 2 n.bytes (Nd.bytes_length h)
theorem Own.thenC {w w1 w2 : World} {L L1 L' : List It} (hO : Own w L) (h1 : Chg w w1 [] L1) (h2 : Chg w1 w2 (ids L) L') : Chg w w2 (ids L) L' := (hO.start.bel h1.below).after h2
theorem tree_store {p d bf : Nat} {A : Option Addr} {c : Nat} {X : Pgr} {w : World} (hO : Own w (pagerL p d bf A c X)) (hX : X.fit) {x y z : Sl} {n : Nd} (hn : NdR w x y z n) (h : n.right) (i : Nat) (hi : X.free = some i) :
    Calls Tryz.prog 66 #[ptr p, .agg (ndV x y z n)] w fun e w' => ∃ A' c', e = .returned (.tuple #[.int .i64 (i : Int), .nilIface]) ∧ Chg w w' (ids (pagerL p d bf A c X)) (pagerL p d bf A' c' (X.new i (ndP n h))) := by
  have hS0 := Chg.nil w []
  have HL := Lib.hid (fun (w' : World) (L : List It) (hw : Chg w w' [] L) => node_Lay (hn.old hw) h)
  have HN : Hid (∀ (w : World) (hO : Own w (pagerL p d bf A c X)), Calls Tryz.prog 16 #[ptr p, strL n.bytes] w fun e w' => ∃ A' c', e = .returned (.tuple #[.int .i64 (i : Int), .nilIface]) ∧ Chg w w' (ids (pagerL p d bf A c X)) (pagerL p d bf A' c' (X.new i (ndP n h)))) := Lib.hid (fun (w : World) (hO : Own w (pagerL p d bf A c X)) => pager_New hO hX.up hX.low hX.high (by have := hX.loose; omega) ⟨n.bytes.toArray⟩ (Nd.bytes_length h) i hi)
  have HO := Lib.hid hO
  have HZ : Hid ((ndV x y z n).size = 3) := Lib.hid rfl
  clear hO hX hn
  generalize X.new i (ndP n h) = X2 at *
  generalize pagerL p d bf A c X = L0 at *
  generalize strL n.bytes = bts at *
  generalize ndV x y z n = nv at *
  go_enter Tryz.func66, Tryz.ntmps66
  go_wp2_with (first | (guard_target = wpList _ _ _ (Oper.mk _ (Op.box _ _) _ _ _ none :: _) _ _; (first | refine wl_box_agg (dst := 3) rfl ‹Chg _ _ _ _› rfl rfl rfl ?_ | refine wl_box_int (dst := 3) rfl ‹Chg _ _ _ _› rfl rfl rfl ?_ | refine wl_box_str (dst := 3) rfl ‹Chg _ _ _ _› rfl rfl rfl ?_ | refine wl_box_slice (dst := 3) rfl ‹Chg _ _ _ _› rfl rfl rfl ?_ | refine wl_box_ptr (dst := 3) rfl ‹Chg _ _ _ _› rfl rfl rfl ?_); intro b3 w1 hS1) | ((first | (guard_target = wpList _ _ _ (Oper.mk _ (Op.load 34 _) _ _ _ none :: _) _ _) | (guard_target = wpList _ _ _ (Oper.mk _ (Op.load 34 _) _ _ _ (some _) :: _) _ _; refine wl_unguard rfl ?_)); refine wl_loadw_0 hS1 rfl rfl rfl HZ.out ?_) | (go_at_call 15; refine (HL.out _ _ hS1).mono ?_; rintro e w2 ⟨rfl, hB2⟩; have hS2 := hS1.bel hB2; clear hS1) | (go_at_call 16; refine (HN.out _ (HO.out.keep hS2)).mono ?_; rintro e w3 ⟨A', c', rfl, hS3⟩))
  go_ret2
  exact ⟨A', c', rfl, HO.out.thenC hS2 hS3⟩
/-- A pair put into an empty tree. -/
theorem tree_Put0 {p d bf : Nat} {A : Option Addr} {c : Nat} {X : Pgr} {w : World} (hO : Own w (pagerL p d bf A c X)) (hX : X.fit) (key : Nat) (v : ByteArray) (h : (Nd.mk [key] [v] []).right) (i : Nat) (hi : X.free = some i) :
    Calls Tryz.prog 23 #[ptr p, .int .i64 0, .int .i64 (key : Int), .string v] w fun e w' => ∃ A' c', e = .returned (.tuple #[.int .i64 (i : Int), .nilIface]) ∧ Chg w w' (ids (pagerL p d bf A c X)) (pagerL p d bf A' c' (X.new i (ndP _ h))) := by
  have hS0 := Chg.nil w []
  have hk : key < 4294967296 := h.1.1 key (by simp)
  have hv : v.size = 12 := by
    rcases h.2 with h2 | h2
    · exact h2.2.2 v (by simp)
    · exact absurd h2.1 (by simp)
  have e1 : decide ((key : Int) < 0) = false := by simp
  have e2 : decide (4294967295 < (key : Int)) = false := by simp; omega
  have HS := Lib.hid (fun (w' : World) (b1 b2 : Nat) (hw : Chg w w' [] [blk b2 #[.string v] 9, blk b1 #[.int .i64 (key : Int)] 3]) => tree_store (x := ⟨some ⟨b1, 0, none⟩, 1⟩) (y := ⟨some ⟨b2, 0, none⟩, 1⟩) (z := ⟨none, 0⟩) (hO.keep hw) hX ⟨.inr ⟨b1, 0, rfl, cellsAt_blk (hw.get 1 rfl) _ rfl⟩, .inr ⟨b2, 0, rfl, cellsAt_blk (hw.get 0 rfl) _ rfl⟩, .inl rfl⟩ h i hi)
  have HO := Lib.hid hO
  clear hO hX
  generalize X.new i (ndP _ h) = X2 at *
  clear h
  generalize pagerL p d bf A c X = L0 at *
  go_enter Tryz.func23, Tryz.ntmps23
  go_wp2_with (first | (guard_target = wpList _ _ _ (Oper.mk _ (Op.buildSlice _ _ _) _ _ _ none :: _) _ _; first | (refine wl_buildSlice1 (v := .int .i64 (key : Int)) hS0 rfl rfl rfl rfl rfl ?_; intro b1 w1 hS1; clear hS0) | (refine wl_buildSlice1 (v := .string v) hS1 rfl rfl rfl rfl rfl ?_; intro b2 w2 hS2; clear hS1)) | (guard_target = wpList _ _ _ (Oper.mk _ (Op.build _ _) _ _ _ none :: _) _ _; refine wl_build2 (cells := ndV ⟨some ⟨b1, 0, none⟩, 1⟩ ⟨some ⟨b2, 0, none⟩, 1⟩ ⟨none, 0⟩ ⟨[key], [v], []⟩) rfl rfl rfl rfl rfl ?_) | (go_at_call 66; refine (HS.out _ _ _ hS2).mono ?_; rintro e w3 ⟨A', c', rfl, hS3⟩))
  go_ret2
  exact ⟨A', c', rfl, HO.out.thenC hS2 hS3⟩
end Go.Dyn
namespace Go.Dyn
open Go Go.RowKit
set_option maxRecDepth 20000
section
variable {P : Program} {w0 w : World} {F : List Nat} {L : List It} {ops : Array Oper} {Q : Exit → Act → World → Prop} {rest : List Oper} {o : Oper} {a : Act}
theorem zeroCells_size (z : Array Value) (n : Nat) : (Builtin.zeroCells z n).size = n * z.size := by simp [Builtin.zeroCells]
theorem wl_appendNilZeros {t tn e k bytes : Nat} [se : SlElem P t e k bytes] {kn : IntKind} (htn : P.underlying tn = some (.int kn)) (hS : Chg w0 w F L) (hgd : o.guard = none) {s x : Operand}
    (ho : o.op = .call { callee := .builtin .append, args := #[s, x], argTypes := #[t, tn] }) (hs : a.eval s = .slice none 0 0) {n : Nat} (hx : a.eval x = .int .i64 (n : Int)) (h0 : 0 < n) (h1 : n ≤ 1000) (hb : bytes ≤ 1000)
    (h : ∀ b c w', n ≤ c → c ≤ maxLen → Chg w0 w' F (slIt k e (some ⟨b, 0, none⟩) 0 c [] :: L) → wpList P ops Q rest (a.put o.dst (.slice (some ⟨b, 0, none⟩) n c)) w') : wpList P ops Q (o :: rest) a w := by
  obtain ⟨i, z, h2, h3, h4, h5, h6⟩ := se.info
  have hpos := se.pos
  have hr := fun ty => Lib.run_append_grow_zeros (P := P) w t tn ty e i z .i64 kn se.und htn h2 h3 none 0 0 [] (by simp [Builtin.firstCells, Sem.run_pure]) n h0 (by omega) (by omega) (by omega)
    (by
      have := Nat.mul_le_mul h1 hb
      rw [h5]; omega)
    (by
      simp only [Builtin.nextslicecap, Nat.zero_add, Nat.mul_zero]
      rw [if_pos (by omega)]
      have := Nat.mul_le_mul h1 hb
      rw [h5]; omega)
  have hge := grownCap_ge w (0 + n) 0 e
  have hle := grownCap_le_maxLen w (0 + n) 0 e (by unfold maxLen; omega)
  generalize grownCap w (0 + n) 0 e = c at *
  simp only [Nat.zero_add] at *
  exact wpList_plain hgd fun K hK => by
    unfold Oper.wp execOp
    simp only [ho, resolve, invoke, builtin, Sem.run_bind, Sem.run_pure, Result.andThen_ok, List.map_toArray, List.map_cons, List.map_nil, hs, hx, hr]
    refine hK _ _ (h _ _ _ hge hle ((hS.drew.alloc _ _).toSl k 0 c [] ?_ (Nat.zero_le _) hle (by simp)))
    simp only [Array.size_append, List.size_toArray, List.length_nil, zeroCells_size, h6]
    rw [Nat.zero_add, ← Nat.add_mul]
    congr 1
    omega
end
end Go.Dyn
namespace Go.Dyn
open Go Go.RowKit Go.Proofs
set_option maxRecDepth 20000
set_option maxHeartbeats 1000000
theorem slices_GrowI (n : Nat) (w : World) (h0 : 0 < n) (h1 : n ≤ 1000) : Calls Tryz.prog 161 #[.slice none 0 0, .int .i64 (n : Int)] w fun e w' => ∃ b c, e = .returned (.slice (some ⟨b, 0, none⟩) 0 c) ∧ n ≤ c ∧ Chg w w' [] [slIt 1 3 (some ⟨b, 0, none⟩) 0 c []] := by
  have hS0 := Chg.nil w []
  have e1 : decide ((n : Int) < 0) = false := by simp
  have e2 : decide (0 < (n : Int)) = true := by simp; omega
  go_enter Tryz.func161, Tryz.ntmps161
  go_wp2_with (first | (guard_target = wpList _ _ _ (Oper.mk _ (Op.call _) _ _ _ none :: _) _ _; refine wl_appendNilZeros Tryz.underlying3 hS0 rfl rfl rfl rfl h0 h1 (by omega) ?_; intro b c w1 hn hc hS1; have hc2 : c ≤ 9223372036854775807 := hc; clear hS0))
  go_ret
  exact ⟨b, c, rfl, hn, hS1⟩
def ccV (xs : List (Sl × List Nat)) : List Value := xs.map fun (x : Sl × List Nat) => Value.slice x.1.a x.2.length x.1.c
def ccN (xs : List (Sl × List Nat)) : Nat := (xs.map fun x => x.2.length).sum
theorem ccN_take (xs : List (Sl × List Nat)) (k : Nat) (h : k < xs.length) : ccN (xs.take (k + 1)) = ccN (xs.take k) + xs[k].2.length := by
  unfold ccN; rw [List.take_succ_eq_append_getElem h, List.map_append, List.sum_append]; simp
theorem ccN_le (xs : List (Sl × List Nat)) (k : Nat) : ccN (xs.take k) ≤ ccN xs := by
  have : ccN xs = ccN (xs.take k) + ccN (xs.drop k) := by
    unfold ccN; rw [← List.sum_append, ← List.map_append, List.take_append_drop]
  omega
theorem ccN_len (xs : List (Sl × List Nat)) : (xs.flatMap (·.2)).length = ccN xs := by
  unfold ccN; rw [List.length_flatMap]
theorem slices_ConcatI {B : Option Addr} {cB : Nat} {xs : List (Sl × List Nat)} {w : World} (hB : SlR w B (ccV xs)) (hX : ∀ x ∈ xs, SlR w x.1.a (intsV x.2) ∧ 0 < x.2.length) (h0 : xs ≠ []) (hx : xs.length ≤ 100) (hn : ccN xs ≤ 1000) :
    Calls Tryz.prog 141 #[.slice B xs.length cB] w fun e w' => ∃ A c, e = .returned (.slice A (ccN xs) c) ∧ Chg w w' [] [slIt 1 3 A (ccN xs) c (intsV (xs.flatMap (·.2)))] := by
  have hS0 := Chg.nil w []
  have hpos : 0 < ccN xs := by
    cases xs with
    | nil => exact absurd rfl h0
    | cons x xs => have := (hX x (by simp)).2; simp [ccN]; omega
  have hxl : 0 < xs.length := by cases xs with | nil => exact absurd rfl h0 | cons x xs => simp
  obtain ⟨bB, oB, rfl, hcB⟩ := hB.at (by simpa [ccV] using hxl)
  have HG := Lib.hid (fun w => slices_GrowI (ccN xs) w hpos hn)
  go_enter Tryz.func141, Tryz.ntmps141
  go_wp2
  go_loop [3, 11] (fun v i => ∃ k : Nat, k ≤ xs.length ∧ i = .int .i64 k ∧ v = .int .i64 (ccN (xs.take k) : Nat)) (fun _ i => xs.length - (intOf i).toNat)
  case atStart => exact ⟨0, by omega, rfl, rfl⟩
  case round =>
    obtain ⟨k, hk, rfl, rfl⟩ := hrel
    by_cases hlt : k < xs.length
    · have hc : w.cell? ⟨bB, oB + k, none⟩ = some (.slice xs[k].1.a xs[k].2.length xs[k].1.c) := by
        rw [hcB k (by simpa [ccV] using hlt)]; simp [ccV]
      have h1 := ccN_take xs k hlt
      have h2 := ccN_le xs (k + 1)
      have Ht : Hid (ccN (xs.take (k + 1)) = ccN (xs.take k) + xs[k].2.length) := Lib.hid h1
      have e1 : decide (((ccN (xs.take k) : Nat) : Int) + (xs[k].2.length : Int) < 0) = false := by simp; omega
      have h3 : ccN (xs.take k) + xs[k].2.length ≤ 1000 := by omega
      clear h1 h2 hcB HG
      generalize ccN (xs.take k) = s1 at *
      generalize xs[k].2.length = ln at *
      generalize xs[k].1 = sl at *
      go_wp2
      go_round
      case rel => exact ⟨k + 1, by omega, by go_num, by rw [Ht.out]; go_num⟩
      case measure => simp [intOf]; omega
    · have : k = xs.length := by omega
      subst this
      rw [List.take_length]
      go_wp2_with (go_at_call 161; refine (HG.out _).mono ?_; rintro e w1 ⟨b, c, rfl, hbc, hG⟩; have hS1 := hS0.pure hG; clear hS0)
      go_loopw [6, 27] (fun v i w' => ∃ (k : Nat) (A : Option Addr) (c : Nat), k ≤ xs.length ∧ i = .int .i64 k ∧ v = .slice A (ccN (xs.take k)) c ∧ Chg w w' [] [slIt 1 3 A (ccN (xs.take k)) c (intsV ((xs.take k).flatMap (·.2)))]) (fun _ i _ => xs.length - (intOf i).toNat)
      case atStart => exact ⟨0, _, _, by omega, rfl, rfl, hS1⟩
      case round =>
        obtain ⟨k, A, c, hk, rfl, rfl, hS⟩ := hrel
        clear hS1
        by_cases hlt : k < xs.length
        · have hc := hS.old (a := ⟨bB, oB + k, none⟩) (v := .slice xs[k].1.a xs[k].2.length xs[k].1.c) (by
            rw [hcB k (by simpa [ccV] using hlt)]; simp [ccV]) (by simp)
          have h1 := ccN_take xs k hlt
          have h2 := ccN_le xs (k + 1)
          have h3 : ccN (xs.take k) + xs[k].2.length ≤ 1000 := by omega
          obtain ⟨ba, oa, ha, hca⟩ := ((hX xs[k] (by simp)).1.old hS).at (by simpa using (hX xs[k] (by simp)).2)
          have Hn : Hid (∀ j u, (intsV xs[k].2)[j]? = some u → wr.cell? ((⟨ba, oa, none⟩ : Addr).add j) = some u) := Lib.hid (fun j u hj => by
            obtain ⟨hj1, hj2⟩ := List.getElem?_eq_some_iff.1 hj
            rw [Addr.add_mid, hca j hj1, hj2])
          rw [ha] at hc
          have Ht : Hid (ccN (xs.take (k + 1)) = ccN (xs.take k) + xs[k].2.length) := Lib.hid h1
          have Ht2 : Hid (intsV ((xs.take (k + 1)).flatMap (·.2)) = intsV ((xs.take k).flatMap (·.2)) ++ intsV xs[k].2) := Lib.hid (by rw [flat_snoc _ _ _ hlt]; unfold intsV; rw [List.map_append])
          have Hl : Hid ((intsV xs[k].2).length = xs[k].2.length * 1) := Lib.hid (by simp)
          have Ho : Hid (∀ u ∈ intsV xs[k].2, u.oneCell' = true) := Lib.hid (fun u hu => by obtain ⟨x, _, rfl⟩ := List.mem_map.1 hu; rfl)
          clear h1 h2 hca ha
          generalize ccN (xs.take k) = s1 at *
          generalize xs[k].2.length = ln at *
          generalize xs[k].1.c = slc at *
          generalize intsV xs[k].2 = iv at *
          go_wp2_with (guard_target = wpList _ _ _ (Oper.mk _ (Op.call _) _ _ _ none :: _) _ _; refine wl_append 0 hS rfl rfl rfl rfl rfl rfl iv Hl.out Hn.out Ho.out (by omega) (by unfold maxLen; omega) ?_; intro A' c' w2 hS2; clear hS)
          go_roundw
          case rel => exact ⟨k + 1, A', c', by omega, by go_num, by rw [Ht.out], by rw [Ht.out, Ht2.out]; exact hS2⟩
          case measure => simp [intOf]; omega
        · have : k = xs.length := by omega
          subst this
          rw [List.take_length] at hS ⊢
          go_wp2
          go_ret
          exact ⟨A, c, rfl, hS⟩
end Go.Dyn
namespace Go.Dyn
open Go Go.RowKit Go.Proofs
set_option maxRecDepth 20000
set_option maxHeartbeats 1000000
def errV (c b : Nat) : Value := if c = 0 then .nilIface else .iface 150 (ptr b)
def errL (c b : Nat) : List It := if c = 0 then [] else [errIt [b] (c : Int) (.iface 150 (ptr b))]
theorem errV0 (b : Nat) : errV 0 b = .nilIface := rfl
theorem errV2 (b : Nat) : errV 2 b = .iface 150 (ptr b) := rfl
theorem errV4 (b : Nat) : errV 4 b = .iface 150 (ptr b) := rfl
def lookV (p bm lvl : Nat) : Array Value := #[ptr p, .map (some bm), .int .i64 (lvl : Int)]
def mI (l : List Nat) : List Int := l.map fun (x : Nat) => (x : Int)
theorem mI_snoc (l : List Nat) (i : Nat) : mI l ++ [(i : Int)] = mI (l ++ [i]) := by simp [mI]
theorem mem_mI {l : List Nat} {i : Nat} : (i : Int) ∈ mI l ↔ i ∈ l := by
  constructor
  · intro h
    obtain ⟨x, hx, e⟩ := List.mem_map.1 h
    have : x = i := by omega
    exact this ▸ hx
  · exact fun h => List.mem_map.2 ⟨i, h, rfl⟩
/-- What is read at a pager's pages. -/
def PgAt (X : Pgr) (i : Nat) (n : Nd) : Prop := i < X.D.firm.length ∧ X.busy.has i = true ∧ ∃ h : n.right, X.D.read i = ndP n h
def View (X : Pgr) (T : Nat → Option Nd) : Prop := ∀ i, (∀ n, T i = some n → PgAt X i n) ∧ (T i = none → X.busy.has i = false)
theorem check_wrong (w : World) : Calls Tryz.prog 65 #[] w fun e w' => ∃ b, e = .returned (errV 2 b) ∧ Chg w w' [] (errL 2 b) := by
  go_enter Tryz.func65, Tryz.ntmps65
  go_wp2_with (go_at_call 47; refine (tag_Tag _ _ _).mono ?_; rintro e w' ⟨b, rfl, hE⟩)
  go_ret
  exact ⟨b, rfl, hE⟩
theorem check_within {x y z : Sl} {n : Nd} {w : World} (hn : NdR w x y z n) (hl : n.keys.length ≤ 7) (a b : Nat) : Calls Tryz.prog 123 #[.agg (ndV x y z n), .int .i64 (a : Int), .int .i64 (b : Int)] w fun e w' => e = .returned (.bool (withinB n a b)) ∧ Below w.heap.size w w' := by
  have hS0 := Chg.nil w []
  have HZ : Hid ((ndV x y z n)[0]? = some (.slice x.a n.keys.length x.c)) := Lib.hid rfl
  by_cases h0 : 0 < n.keys.length
  · obtain ⟨bk, off, hxa, hc0⟩ := hn.keys.at (by simpa using h0)
    have hcA : w.cell? ⟨bk, off, none⟩ = some (.int .i64 (n.keys.getD 0 0 : Nat)) := by
      have := SlR.ints hc0 0 h0
      simpa [h0] using this
    have hcB : w.cell? ⟨bk, off + (n.keys.length - 1), none⟩ = some (.int .i64 (n.keys.getD (n.keys.length - 1) 0 : Nat)) := by
      have := SlR.ints hc0 (n.keys.length - 1) (by omega)
      rw [this]
      simp [h0, show n.keys.length - 1 < n.keys.length by omega]
    have HA := Lib.hid (fun (w' : World) (L : List It) (hw : Chg w w' [] L) => hw.old hcA (by simp))
    have HB := Lib.hid (fun (w' : World) (L : List It) (hw : Chg w w' [] L) => hw.old hcB (by simp))
    have HW : Hid (withinB n a b = (decide (a ≤ n.keys.getD 0 0) && decide (n.keys.getD (n.keys.length - 1) 0 < b))) := Lib.hid (by simp [withinB, h0])
    rw [HW.out]
    rw [hxa] at HZ
    clear hcA hcB hc0 hxa hn HW
    generalize n.keys.getD 0 0 = ka at *
    generalize n.keys.getD (n.keys.length - 1) 0 = kb at *
    generalize ndV x y z n = nv at *
    obtain ⟨m, hm⟩ : ∃ m, n.keys.length = m + 1 := ⟨n.keys.length - 1, by omega⟩
    rw [hm] at HB HZ hl
    simp only [Nat.add_sub_cancel] at HB
    clear hm h0
    have e1 : decide (0 < ((m : Nat) : Int) + 1) = true := by rw [decide_eq_true_eq]; omega
    have e2 : decide ((a : Int) ≤ (ka : Int)) = decide (a ≤ ka) := by simp
    have e3 : decide ((kb : Int) < (b : Int)) = decide (kb < b) := by simp
    by_cases h2 : a ≤ ka <;> by_cases h3 : kb < b <;> simp only [h2, h3, decide_true, decide_false] at e2 e3 ⊢
    all_goals
     go_enter Tryz.func123, Tryz.ntmps123
     go_wp2_with (first | ((guard_target = wpList _ _ _ (Oper.mk _ (Op.box _ _) _ _ _ none :: _) _ _; (first | refine wl_box_agg (dst := 3) rfl ‹Chg _ _ _ _› rfl rfl rfl ?_ | refine wl_box_int (dst := 3) rfl ‹Chg _ _ _ _› rfl rfl rfl ?_ | refine wl_box_str (dst := 3) rfl ‹Chg _ _ _ _› rfl rfl rfl ?_ | refine wl_box_slice (dst := 3) rfl ‹Chg _ _ _ _› rfl rfl rfl ?_ | refine wl_box_ptr (dst := 3) rfl ‹Chg _ _ _ _› rfl rfl rfl ?_); intro b3 w1 hS1); have hcA := HA.out _ _ hS1; have hcB := HB.out _ _ hS1) | ((first | (guard_target = wpList _ _ _ (Oper.mk _ (Op.load 31 _) _ _ _ none :: _) _ _) | (guard_target = wpList _ _ _ (Oper.mk _ (Op.load 31 _) _ _ _ (some _) :: _) _ _; (fail_if_success (fail_if_success go_big_want)); refine wl_unguard rfl ?_)); refine wl_load1_0 hS1 rfl rfl rfl HZ.out ?_))
     go_ret
     refine ⟨congrArg (fun x => Ending.returned (.bool x)) ?_, hS1.below⟩
     simp [h2, h3]
  · have hk : n.keys.length = 0 := by omega
    have HW : Hid (withinB n a b = false) := Lib.hid (by simp [withinB, hk])
    rw [HW.out]
    rw [hk] at HZ
    generalize ndV x y z n = nv at *
    clear hn HW h0 hk hl
    go_enter Tryz.func123, Tryz.ntmps123
    go_wp2_with (first | (guard_target = wpList _ _ _ (Oper.mk _ (Op.box _ _) _ _ _ none :: _) _ _; (first | refine wl_box_agg (dst := 3) rfl ‹Chg _ _ _ _› rfl rfl rfl ?_ | refine wl_box_int (dst := 3) rfl ‹Chg _ _ _ _› rfl rfl rfl ?_ | refine wl_box_str (dst := 3) rfl ‹Chg _ _ _ _› rfl rfl rfl ?_ | refine wl_box_slice (dst := 3) rfl ‹Chg _ _ _ _› rfl rfl rfl ?_ | refine wl_box_ptr (dst := 3) rfl ‹Chg _ _ _ _› rfl rfl rfl ?_); intro b3 w1 hS1) | ((first | (guard_target = wpList _ _ _ (Oper.mk _ (Op.load 31 _) _ _ _ none :: _) _ _) | (guard_target = wpList _ _ _ (Oper.mk _ (Op.load 31 _) _ _ _ (some _) :: _) _ _; (fail_if_success (fail_if_success go_big_want)); refine wl_unguard rfl ?_)); refine wl_load1_0 hS1 rfl rfl rfl HZ.out ?_))
    go_ret
    exact ⟨rfl, hS1.below⟩
end Go.Dyn
