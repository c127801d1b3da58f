/- Part of the proof that CheckWrong returns true, whatever the four bytes; tied to the program's own text (part 5 of 14) -/
import Derived.Test.YtgnkmahdcomjcaaGreatDoorCW04
import Derived.Deep.Quiet
import Derived.StillTail
import Derived.StillTailTactics
import Derived.BigQuiet
import Derived.Lib.Hide
import Derived.LoopTactic
import Derived.LaidEql
import Derived.Stop.Asserts
import Derived.RowKitTokens
import Derived.Deep.Cut
import Derived.Maps.RangeWalk
import Derived.OrdersHeld
set_option linter.unusedVariables false
set_option linter.unusedSimpArgs false
section
set_option linter.unusedVariables false
set_option maxRecDepth 20000
namespace Go.Dyn
open Go Go.Proofs
instance : StructT Tryz.prog 7 #[(0, 1), (1, 1), (2, 1), (3, 1)] (#[.int .i64 0, .int .i64 0, .bool false, .int .u8 0]) := ⟨⟨_, Tryz.underlying7, fun w => by kernel_rfl⟩, by kernel_rfl⟩
instance : StructT Tryz.prog 13 #[(0, 1), (1, 1)] (#[.string ⟨#[]⟩, .int .u64 0]) := ⟨⟨_, Tryz.underlying13, fun w => by kernel_rfl⟩, by kernel_rfl⟩
instance : StructT Tryz.prog 18 #[(0, 1)] (#[.pointer none]) := ⟨⟨_, Tryz.underlying18, fun w => by kernel_rfl⟩, by kernel_rfl⟩
instance : StructT Tryz.prog 33 #[(0, 1), (1, 1), (2, 1)] (#[.slice none 0 0, .slice none 0 0, .slice none 0 0]) := ⟨⟨_, Tryz.underlying33, fun w => by kernel_rfl⟩, by kernel_rfl⟩
instance : StructT Tryz.prog 34 #[(0, 1), (1, 1), (2, 1)] (#[.slice none 0 0, .slice none 0 0, .slice none 0 0]) := ⟨⟨_, Tryz.underlying34, fun w => by kernel_rfl⟩, by kernel_rfl⟩
instance : StructT Tryz.prog 51 #[(0, 1), (1, 1), (2, 1)] (#[.int .u8 0, .int .u8 0, .int .u32 0]) := ⟨⟨_, Tryz.underlying51, fun w => by kernel_rfl⟩, by kernel_rfl⟩
instance : StructT Tryz.prog 52 #[(0, 1), (1, 1), (2, 1)] (#[.int .u8 0, .int .u8 0, .int .u32 0]) := ⟨⟨_, Tryz.underlying52, fun w => by kernel_rfl⟩, by kernel_rfl⟩
instance : StructT Tryz.prog 76 #[(0, 1), (1, 1), (2, 1), (3, 1), (4, 1)] (#[.slice none 0 0, .slice none 0 0, .bool false, .int .u32 0, .int .i64 0]) := ⟨⟨_, Tryz.underlying76, fun w => by kernel_rfl⟩, by kernel_rfl⟩
instance : StructT Tryz.prog 77 #[(0, 1), (1, 1), (2, 1), (3, 1), (4, 1)] (#[.slice none 0 0, .slice none 0 0, .bool false, .int .u32 0, .int .i64 0]) := ⟨⟨_, Tryz.underlying77, fun w => by kernel_rfl⟩, by kernel_rfl⟩
instance : StructT Tryz.prog 80 #[(0, 1), (1, 1)] (#[.int .i64 0, .string ⟨#[]⟩]) := ⟨⟨_, Tryz.underlying80, fun w => by kernel_rfl⟩, by kernel_rfl⟩
instance : StructT Tryz.prog 81 #[(0, 1), (1, 1)] (#[.int .i64 0, .string ⟨#[]⟩]) := ⟨⟨_, Tryz.underlying81, fun w => by kernel_rfl⟩, by kernel_rfl⟩
instance : StructT Tryz.prog 86 #[(0, 1), (1, 1)] (#[.int .i64 0, .string ⟨#[]⟩]) := ⟨⟨_, Tryz.underlying86, fun w => by kernel_rfl⟩, by kernel_rfl⟩
instance : StructT Tryz.prog 88 #[(0, 1), (1, 1)] (#[.int .i64 0, .string ⟨#[]⟩]) := ⟨⟨_, Tryz.underlying88, fun w => by kernel_rfl⟩, by kernel_rfl⟩
instance : StructT Tryz.prog 102 #[(0, 1), (1, 1), (2, 1)] (#[.slice none 0 0, .slice none 0 0, .bool false]) := ⟨⟨_, Tryz.underlying102, fun w => by kernel_rfl⟩, by kernel_rfl⟩
instance : StructT Tryz.prog 103 #[(0, 1), (1, 1), (2, 1)] (#[.slice none 0 0, .slice none 0 0, .bool false]) := ⟨⟨_, Tryz.underlying103, fun w => by kernel_rfl⟩, by kernel_rfl⟩
instance : StructT Tryz.prog 104 #[(0, 1), (1, 1), (2, 30)] ((#[.int .u32 0] ++ #[.int .i64 0] ++ (Array.replicate 30 (.int .u8 0)))) := ⟨⟨_, Tryz.underlying104, fun w => by kernel_rfl⟩, by kernel_rfl⟩
instance : StructT Tryz.prog 105 #[(0, 1), (1, 1), (2, 30)] ((#[.int .u32 0] ++ #[.int .i64 0] ++ (Array.replicate 30 (.int .u8 0)))) := ⟨⟨_, Tryz.underlying105, fun w => by kernel_rfl⟩, by kernel_rfl⟩
instance : StructT Tryz.prog 110 #[(0, 1), (1, 32), (33, 30), (63, 30)] ((#[.pointer none] ++ (#[.int .u32 0] ++ #[.int .i64 0] ++ (Array.replicate 30 (.int .u8 0))) ++ (Array.replicate 30 (.int .u8 0)) ++ (Array.replicate 30 (.int .u8 0)))) := ⟨⟨_, Tryz.underlying110, fun w => by kernel_rfl⟩, by kernel_rfl⟩
instance : StructT Tryz.prog 111 #[(0, 1), (1, 32), (33, 30), (63, 30)] ((#[.pointer none] ++ (#[.int .u32 0] ++ #[.int .i64 0] ++ (Array.replicate 30 (.int .u8 0))) ++ (Array.replicate 30 (.int .u8 0)) ++ (Array.replicate 30 (.int .u8 0)))) := ⟨⟨_, Tryz.underlying111, fun w => by kernel_rfl⟩, by kernel_rfl⟩
instance : StructT Tryz.prog 129 #[(0, 1), (1, 1), (2, 1)] (#[.pointer none, .map none, .int .i64 0]) := ⟨⟨_, Tryz.underlying129, fun w => by kernel_rfl⟩, by kernel_rfl⟩
instance : StructT Tryz.prog 130 #[(0, 1), (1, 1), (2, 1)] (#[.pointer none, .map none, .int .i64 0]) := ⟨⟨_, Tryz.underlying130, fun w => by kernel_rfl⟩, by kernel_rfl⟩
instance : StructT Tryz.prog 133 #[(0, 1), (1, 1), (2, 1), (3, 1)] (#[.int .i64 0, .int .i64 0, .int .i64 0, .bool false]) := ⟨⟨_, Tryz.underlying133, fun w => by kernel_rfl⟩, by kernel_rfl⟩
instance : StructT Tryz.prog 134 #[(0, 1), (1, 1), (2, 1), (3, 1)] (#[.int .i64 0, .int .i64 0, .int .i64 0, .bool false]) := ⟨⟨_, Tryz.underlying134, fun w => by kernel_rfl⟩, by kernel_rfl⟩
instance : StructT Tryz.prog 142 #[(0, 1), (1, 128)] ((#[.int .i64 0] ++ (Array.replicate 128 (.int .u8 0)))) := ⟨⟨_, Tryz.underlying142, fun w => by kernel_rfl⟩, by kernel_rfl⟩
instance : StructT Tryz.prog 143 #[(0, 1), (1, 128)] ((#[.int .i64 0] ++ (Array.replicate 128 (.int .u8 0)))) := ⟨⟨_, Tryz.underlying143, fun w => by kernel_rfl⟩, by kernel_rfl⟩
instance : StructT Tryz.prog 144 #[(0, 1)] (#[.pointer none]) := ⟨⟨_, Tryz.underlying144, fun w => by kernel_rfl⟩, by kernel_rfl⟩
instance : StructT Tryz.prog 145 #[(0, 1)] (#[.pointer none]) := ⟨⟨_, Tryz.underlying145, fun w => by kernel_rfl⟩, by kernel_rfl⟩
instance : StructT Tryz.prog 151 #[(0, 1), (1, 1)] (#[.string ⟨#[]⟩, .nilIface]) := ⟨⟨_, Tryz.underlying151, fun w => by kernel_rfl⟩, by kernel_rfl⟩
instance : StructT Tryz.prog 152 #[(0, 1), (1, 1)] (#[.string ⟨#[]⟩, .nilIface]) := ⟨⟨_, Tryz.underlying152, fun w => by kernel_rfl⟩, by kernel_rfl⟩
instance : StructT Tryz.prog 165 #[(0, 1), (1, 1), (2, 1)] (#[.pointer none, .pointer none, .int .u64 0]) := ⟨⟨_, Tryz.underlying165, fun w => by kernel_rfl⟩, by kernel_rfl⟩
instance : StructT Tryz.prog 194 #[(0, 1)] (#[.pointer none]) := ⟨⟨_, Tryz.underlying194, fun w => by kernel_rfl⟩, by kernel_rfl⟩
instance : StructT Tryz.prog 264 #[(0, 1), (1, 1), (2, 1), (3, 1)] (#[.pointer none, .pointer none, .pointer none, .string ⟨#[]⟩]) := ⟨⟨_, Tryz.underlying264, fun w => by kernel_rfl⟩, by kernel_rfl⟩
instance : StructT Tryz.prog 267 #[(0, 0)] (#[]) := ⟨⟨_, Tryz.underlying267, fun w => by kernel_rfl⟩, by kernel_rfl⟩
instance : StructT Tryz.prog 275 #[(0, 1), (1, 1), (2, 1), (3, 1), (4, 1), (5, 1), (6, 1), (7, 1), (8, 1), (9, 1), (10, 1)] (#[.int .u64 0, .int .u64 0, .int .u32 0, .int .u8 0, .int .u8 0, .int .u8 0, .int .u8 0, .nilFunc, .pointer none, .int .i32 0, .int .i32 0]) := ⟨⟨_, Tryz.underlying275, fun w => by kernel_rfl⟩, by kernel_rfl⟩
instance : StructT Tryz.prog 279 #[(0, 1), (1, 1)] (#[.string ⟨#[]⟩, .int .u8 0]) := ⟨⟨_, Tryz.underlying279, fun w => by kernel_rfl⟩, by kernel_rfl⟩
instance : StructT Tryz.prog 284 #[(0, 1), (1, 1), (2, 1), (3, 1), (4, 1)] (#[.int .i32 0, .int .u16 0, .int .u16 0, .int .u32 0, .int .u32 0]) := ⟨⟨_, Tryz.underlying284, fun w => by kernel_rfl⟩, by kernel_rfl⟩
instance : StructT Tryz.prog 288 #[(0, 1), (1, 1), (2, 1), (3, 1)] (#[.int .i32 0, .int .i32 0, .int .i32 0, .int .i32 0]) := ⟨⟨_, Tryz.underlying288, fun w => by kernel_rfl⟩, by kernel_rfl⟩
end Go.Dyn
end
namespace Go.Dyn
open Go
section
variable {P : Program} {ops : Array Oper} {md : Region.Mode} {C : World → Prop}

def wpAnyLQ (P : Program) (md : Region.Mode) (ops : Array Oper) (C : World → Prop) (n : Nat) (L : Array Bool → Act → Prop) : Nat → Array Bool → Act → Prop
  | 0, listed, a => L listed a
  | f + 1, listed, a =>
    Region.ready md ops listed ≠ [] ∧ ∀ i ∈ Region.ready md ops listed, i < n ∧ qOp P ops C i (wpAnyLQ P md ops C n L f (listed.setIfInBounds i true)) a

theorem wpAny_of_headQ {n g : Nat} {L : Array Bool → Act → Prop} {Q' : Exit → Act → World → Prop} (hL : ∀ listed a, L listed a → ∀ w, C w → wpAny P md ops Q' g listed a w) :
    ∀ (f : Nat) (listed : Array Bool) (a : Act) (w : World), C w → wpAnyLQ P md ops C n L f listed a → wpAny P md ops Q' (f + g) listed a w
  | 0, listed, a, w, hw, h => by rw [Nat.zero_add]; exact hL _ _ h w hw
  | f + 1, listed, a, w, hw, h => by
    rw [show f + 1 + g = (f + g) + 1 by omega]
    exact ⟨fun h0 => absurd h0 h.1, fun i hi => wpOp_of_qOp hw (fun a' w' hw' h' => wpAny_of_headQ hL f _ a' w' hw' h') (h.2 i hi).2⟩

theorem wpAnyLQ_first {n i : Nat} {oi : Oper} {v : Value} {L : Array Bool → Act → Prop} (hi : ops[i]? = some oi) (hsel : ∀ (j : Nat) (o : Oper) cs b, ops[j]? = some o → o.op ≠ .select cs b)
    (hs : Region.sinkB md ops n = true) (hc : Region.chainB md ops n = true) (hn : n < ops.size) (hin : i < n)
    (hdone : ∀ listed a, L listed a → ∀ j ∈ Region.ready md ops listed, n ≤ j) :
    ∀ (f : Nat) (listed : Array Bool) (a : Act), HeadInv md ops n listed →
      (∀ j oj, ops[j]? = some oj → j ≠ i → listed.getD j true = false → (∀ e ∈ oj.after, Region.binds md e = true → e.on ≠ i) → oi.apart ops oj = true) →
      i ∈ Region.ready md ops listed → YieldsIn P ops C oi v a →
      wpAnyLQ P md ops C n L f (listed.setIfInBounds i true) (a.put oi.dst v) → wpAnyLQ P md ops C n L (f + 1) listed a := by
  intro f
  induction f with
  | zero =>
    intro listed a inv _ hr hy H
    have hun := (mem_ready.1 hr).1
    refine ⟨fun h => (by rw [h] at hr; cases hr), fun j hj => ?_⟩
    have hjn : j < n := by
      rcases Nat.lt_or_ge j n with h | h
      · exact h
      · exact absurd hj (tail_waits hs hc hn inv _ i rfl hin hun j h)
    refine ⟨hjn, ?_⟩
    by_cases hji : j = i
    · subst hji; exact hy.qOp hi H
    · have := hdone _ _ H j (ready_mono hj hji)
      omega
  | succ f ih =>
    intro listed a inv hfree hr hy H
    have hun := (mem_ready.1 hr).1
    refine ⟨fun h => (by rw [h] at hr; cases hr), fun j hj => ?_⟩
    have hjn : j < n := by
      rcases Nat.lt_or_ge j n with h | h
      · exact h
      · exact absurd hj (tail_waits hs hc hn inv _ i rfl hin hun j h)
    refine ⟨hjn, ?_⟩
    by_cases hji : j = i
    · subst hji; exact hy.qOp hi H
    · have h1 := (H.2 j (ready_mono hj hji)).2
      obtain ⟨hjun, oj, hoj, hall⟩ := mem_ready.1 hj
      have hnot : ∀ e ∈ oj.after, Region.binds md e = true → e.on ≠ i := fun e he hb heq => by
        have h1 := hall e he hb
        rw [heq, getD_both hun] at h1
        cases h1
      have h2 := qOp_put hoj (hfree j oj hoj hji hjun hnot) (fun cs b => hsel i oi cs b hi) (fun cs b => hsel j oj cs b hoj) hy h1
      have hfree' : ∀ k ok, ops[k]? = some ok → k ≠ i → (listed.setIfInBounds j true).getD k true = false →
          (∀ e ∈ ok.after, Region.binds md e = true → e.on ≠ i) → oi.apart ops ok = true := fun k ok hk hki hun hno => by
        refine hfree k ok hk hki ?_ hno
        by_cases hjk : j = k
        · subst hjk; exact hjun
        · rw [getD_set_ne true hjk] at hun; exact hun
      refine qOp_mono (fun a' h3 => ih (listed.setIfInBounds j true) a' (inv.set hj hjn) hfree' (ready_mono hr (Ne.symm hji)) h3.1 ?_) h2
      rw [Array.setIfInBounds_comm _ _ hji]
      exact h3.2

theorem wpAnyLQ_lex {n g : Nat} {Lq : Act → Prop} (hsel : Region.noSelect ops = true) (hs : Region.sinkB md ops n = true) (hc : Region.chainB md ops n = true) (hn : n < ops.size) :
    ∀ (l : List Oper) (k : Nat) (listed : Array Bool) (a : Act), (∀ j, j < l.length → l[j]? = ops[k + j]?) → k + l.length = n → HeadInv md ops n listed →
    Region.lexHead md ops g l.length k listed = true → wpQuiet P ops C Lq l a →
    wpAnyLQ P md ops C n (fun listed' a' => Region.seqB md ops g n listed' = true ∧ Lq a') l.length listed a
  | [], k, listed, a, _, hk, _, hB, h => by
    have : k = n := by simpa using hk
    subst this
    exact ⟨by simpa [Region.lexHead] using hB, h⟩
  | o :: l, k, listed, a, hl, hk, inv, hB, h => by
    have h0 : ops[k]? = some o := by simpa using (hl 0 (by simp)).symm
    simp only [List.length_cons, Region.lexHead, Bool.and_eq_true] at hB
    obtain ⟨⟨hr, hf⟩, hB'⟩ := hB
    have hkn : k < n := by simp only [List.length_cons] at hk; omega
    have hr' : k ∈ Region.ready md ops listed := by simpa using hr
    have hst : qOp P ops C k (wpQuiet P ops C Lq l) a := by unfold qOp; simp only [h0]; exact h
    obtain ⟨v, hy, hK⟩ := yieldsIn_of_qOp h0 hst
    exact wpAnyLQ_first h0 (Region.noSelect_spec hsel) hs hc hn hkn (fun listed' a' hL => seqB_ready hL.1) l.length listed a inv (Region.free_spec h0 hf) hr' hy
      (wpAnyLQ_lex hsel hs hc hn l (k + 1) _ _ (fun j hj => by have := hl (j + 1) (by simp; omega); simpa [Nat.add_assoc, Nat.add_comm 1 j] using this) (by simp only [List.length_cons] at hk; omega) (inv.set hr' hkn) hB' hK)

/-- The head (n operations) is quiet in C; the rest waits for it. -/
theorem wp_region_quiet_tail {id : Nat} {Q : Exit → Act → World → Prop} {a : Act} {w : World} {l : List Oper} (n : Nat) (C : World → Prop) (hm : P.follows .mixedOrders = true) (hB : Region.lexTailB .any l.toArray n = true)
    (hC : C w.drew)
    (h : wpQuiet P l.toArray C (fun a' => ∀ w', C w' → wpList P l.toArray Q (l.drop n) a' w') (l.take n) a) : (Code.region id l.toArray true).wp P Q a w := by
  simp only [Region.lexTailB, Bool.and_eq_true, decide_eq_true_eq] at hB
  obtain ⟨⟨⟨⟨hsel, hn⟩, hs⟩, hc⟩, hlex⟩ := hB
  have hn' : n < l.length := by simpa using hn
  have htl : (l.take n).length = n := by simp; omega
  have hdl : (l.drop n).length = l.toArray.size - n := by simp
  have inv0 : HeadInv .any l.toArray n (Array.replicate l.toArray.size false) :=
    ⟨by simp, fun j oj _ hl => (by rw [getD_replicate_false] at hl; cases hl), fun t _ ht => getD_in (by simpa using ht) (getD_replicate_false _ _)⟩
  have H := wpAnyLQ_lex (md := .any) (g := l.toArray.size - n) hsel hs hc hn (l.take n) 0 _ a (fun j hj => by
    have hj' : j < n := by rw [htl] at hj; exact hj
    simp [hj']) (by simpa using htl) inv0 (by rw [htl]; exact hlex) h
  refine wp_region_any hm ?_
  have := wpAny_of_headQ (Q' := Q) (g := l.toArray.size - n) (fun listed a' hL w' hw' => by
    have := wpAny_of_seq (md := .any) (Q' := Q) (l.drop n) n listed a' w' (fun j => by simp [List.getElem?_drop]) (by rw [hdl]; exact hL.1) (hL.2 w' hw')
    rwa [hdl] at this) _ _ _ w.drew hC H
  rw [htl, show n + (l.toArray.size - n) = l.toArray.size by omega] at this
  exact this

theorem wp_region_quiet_C {id : Nat} {Q : Exit → Act → World → Prop} {a : Act} {w : World} {l : List Oper} (C : World → Prop) (hm : P.follows .mixedOrders = true) (hB : Region.lexB .any l.toArray = true) (hC : C w.drew)
    (h : wpQuiet P l.toArray C (fun a' => ∀ w', C w' → Q .normal a' w') l a) : (Code.region id l.toArray true).wp P Q a w :=
  wp_region_quiet (C := C) hm hB hC (by simpa using h)
end
end Go.Dyn
namespace Go.Dyn
open Go Go.RowKit Go.Proofs Go.Extern.Stop Go.Stop Go.Extern
set_option maxRecDepth 20000
set_option maxHeartbeats 400000
/-- The handle of a type. -/
abbrev hd (T : TypeId) : Value := .pointer (some ⟨1, T, none⟩)
theorem valueOfP (t : Addr) (w : World) : (ReflectliteValue.unpack (.iface 120 (.pointer (some t)))).run Tryz.prog w
    = .ok (.agg #[hd 120, .pointer (some ⟨w.heap.size, 0, none⟩), .int .u64 150]) (w.alloc (.cells #[.pointer (some t)] 120)) := by kernel_rfl
theorem typeP (a : Addr) (w : World) : (ReflectliteValue.methodAny (ReflectliteValue.valueError "reflectlite.Value.Type" 0) (fun t _ _ _ => ReflectliteType.toType t) #[.agg #[hd 120, .pointer (some a), .int .u64 150]]).run Tryz.prog w
    = .ok (.iface 195 (.agg #[hd 120])) w := by kernel_rfl
theorem methodKind (h : Value) (w : World) : (Go.method 391 195 (.agg #[h]) "Kind").run Tryz.prog w = .ok (188, h) w := by kernel_rfl
theorem kindP (w : World) : ((ReflectliteType.abiMethod fun t => (fun a : Nat => Value.int IntKind.u8 (a : Int)) <$> Rtype.kind t) #[hd 120]).run Tryz.prog w = .ok (.int .u8 22) w := by kernel_rfl
theorem kindE (w : World) : ((ReflectliteType.abiMethod fun t => (fun a : Nat => Value.int IntKind.u8 (a : Int)) <$> Rtype.kind t) #[hd 99]).run Tryz.prog w = .ok (.int .u8 2) w := by kernel_rfl
theorem rlm (z : Sem Value) (f : TypeId → Addr → Nat → Nat → Sem Value) (v : Value) :
    ReflectliteValue.method z f #[v] = (do match ← ReflectliteValue.parts v with | none => z | some (t, a, fl) => f t a fl (fl % 32)) := rfl
theorem partsP (a : Addr) (w : World) : (ReflectliteValue.parts (.agg #[hd 120, .pointer (some a), .int .u64 150])).run Tryz.prog w = .ok (some (120, a, 150)) w := by kernel_rfl
theorem isNilP (a p : Addr) (W : World) (ha : W.cell? a = some (.pointer (some p))) :
    (ReflectliteValue.method (ReflectliteValue.valueError "reflectlite.Value.IsNil" 0) ReflectliteValue.isNil #[.agg #[hd 120, .pointer (some a), .int .u64 150]]).run Tryz.prog W = .ok (.bool false) W := by
  rw [rlm]
  simp only [Sem.run_bind, partsP, Result.andThen]
  simp [ReflectliteValue.isNil, loadVar, isAgg, underlying, Tryz.underlying120, ha, Result.andThen]
theorem methodElem (h : Value) (w : World) : (Go.method 391 195 (.agg #[h]) "Elem").run Tryz.prog w = .ok (200, .agg #[h]) w := by kernel_rfl
theorem methodImplements (h : Value) (w : World) : (Go.method 391 195 (.agg #[h]) "Implements").run Tryz.prog w = .ok (201, .agg #[h]) w := by kernel_rfl
theorem methodAssignable (h : Value) (w : World) : (Go.method 391 195 (.agg #[h]) "AssignableTo").run Tryz.prog w = .ok (198, .agg #[h]) w := by kernel_rfl
theorem methodComparable (h : Value) (w : World) : (Go.method 391 195 (.agg #[h]) "Comparable").run Tryz.prog w = .ok (199, .agg #[h]) w := by kernel_rfl
theorem elemP (w : World) : (ReflectliteType.method ReflectliteType.elem #[.agg #[hd 120]]).run Tryz.prog w = .ok (.iface 195 (.agg #[hd 99])) w := by kernel_rfl
theorem implE (w : World) : (ReflectliteType.relation "Implements" ReflectliteType.implements_ #[.agg #[hd 99], .iface 195 (.agg #[hd 25])]).run Tryz.prog w = .ok (.bool true) w := by kernel_rfl
theorem typeOfE (v : Value) (w : World) : (ReflectliteType.typeOf #[.iface 99 v]).run Tryz.prog w = .ok (.iface 195 (.agg #[hd 99])) w := by kernel_rfl
theorem typeOfT (v : Value) (w : World) : (ReflectliteType.typeOf #[.iface 150 v]).run Tryz.prog w = .ok (.iface 195 (.agg #[hd 150])) w := by kernel_rfl
theorem assignEE (w : World) : (ReflectliteType.relation "AssignableTo" ReflectliteType.assignableTo #[.agg #[hd 99], .iface 195 (.agg #[hd 99])]).run Tryz.prog w = .ok (.bool true) w := by kernel_rfl
theorem assignTE (w : World) : (ReflectliteType.relation "AssignableTo" ReflectliteType.assignableTo #[.agg #[hd 150], .iface 195 (.agg #[hd 99])]).run Tryz.prog w = .ok (.bool false) w := by kernel_rfl
theorem valueOfE (n : Int) (w : World) : (ReflectliteValue.unpack (.iface 99 (.int .i64 n))).run Tryz.prog w
    = .ok (.agg #[hd 99, .pointer (some ⟨w.heap.size, 0, none⟩), .int .u64 130]) (w.alloc (.cells #[.int .i64 n] 99)) := by kernel_rfl
theorem elemOfP (w : World) : (Rtype.elem? 120).run Tryz.prog w = .ok (some 99) w := by kernel_rfl
theorem mkE (p : Addr) (w : World) : (ReflectliteValue.mk 99 p ReflectliteValue.flagAddr).run Tryz.prog w = .ok (.agg #[hd 99, .pointer (some p), .int .u64 386]) w := by kernel_rfl
theorem elemVP (a p : Addr) (W : World) (ha : W.cell? a = some (.pointer (some p))) :
    (ReflectliteValue.method (ReflectliteValue.valueError "reflectlite.Value.Elem" 0) ReflectliteValue.elem #[.agg #[hd 120, .pointer (some a), .int .u64 150]]).run Tryz.prog W
      = .ok (.agg #[hd 99, .pointer (some p), .int .u64 386]) W := by
  rw [rlm]
  simp only [Sem.run_bind, partsP, Result.andThen]
  simp [ReflectliteValue.elem, loadVar, isAgg, underlying, Tryz.underlying120, ha, Result.andThen, elemOfP, mkE]
theorem rls (v x : Value) : ReflectliteValue.set #[v, x] = (do
    let (some (dst, a, fl), some (src, b, _)) := (← ReflectliteValue.parts v, ← ReflectliteValue.parts x)
      | unsupported (.noEntry "extern/(internal/reflectlite.Value).Set.zeroValue")
    if fl / ReflectliteValue.flagAddr % 2 == 0 then unsupported (.noEntry "extern/(internal/reflectlite.Value).Set.unaddressable")
    let val ← loadVar src b
    if ← Rtype.directlyAssignable dst src then storeVar dst a val
    else if ← Rtype.implements dst src then
      if (← Rtype.kind src) == 20 then
        match val with
        | .nilIface => unsupported (.noEntry "extern/reflectlite: a nil value of one interface type handed on as a value of another")
        | _ => storeVar dst a val
      else storeVar dst a (.iface src val)
    else panicString ("reflectlite.Set: value of type " ++ (← Rtype.spelt src) ++ " is not assignable to type " ++ (← Rtype.spelt dst))
    pure (.tuple #[])) := rfl
theorem partsEa (a : Addr) (w : World) : (ReflectliteValue.parts (.agg #[hd 99, .pointer (some a), .int .u64 386])).run Tryz.prog w = .ok (some (99, a, 386)) w := by kernel_rfl
theorem partsE (a : Addr) (w : World) : (ReflectliteValue.parts (.agg #[hd 99, .pointer (some a), .int .u64 130])).run Tryz.prog w = .ok (some (99, a, 130)) w := by kernel_rfl
theorem directE (w : World) : (Rtype.directlyAssignable 99 99).run Tryz.prog w = .ok true w := by kernel_rfl
theorem setE (ta b : Addr) (n : Int) (old : Value) (W : World) (hb : W.cell? b = some (.int .i64 n)) (ht : W.cell? ta = some old) (hf : W.frozen? ta = false) :
    (ReflectliteValue.set #[.agg #[hd 99, .pointer (some ta), .int .u64 386], .agg #[hd 99, .pointer (some b), .int .u64 130]]).run Tryz.prog W
      = .ok (.tuple #[]) (W.setCell ta (.int .i64 n)) := by
  rw [rls]
  simp only [Sem.run_bind, partsEa, partsE, Result.andThen]
  simp [ReflectliteValue.flagAddr, loadVar, isAgg, underlying, Tryz.underlying99, hb, Result.andThen, directE, storeVar, Value.cells, storeCells, Addr.add]
  rw [run_store Tryz.prog W ta _ _ (by rfl)]
  simp [ht, hf]
theorem noAsE (v : Value) (xT : TypeId) (w : World) : (Instr.typeAssert (.iface 99 v) xT 199 true).run Tryz.prog w = .ok (.tuple #[.nilIface, .bool false]) w := run_typeAssert_lacksB Tryz.underlying199 (by kernel_rfl) (by kernel_rfl) v xT w
theorem noAsT (v : Value) (xT : TypeId) (w : World) : (Instr.typeAssert (.iface 150 v) xT 199 true).run Tryz.prog w = .ok (.tuple #[.nilIface, .bool false]) w := run_typeAssert_lacksB Tryz.underlying199 (by kernel_rfl) (by kernel_rfl) v xT w
theorem noIsE (v : Value) (xT : TypeId) (w : World) : (Instr.typeAssert (.iface 99 v) xT 226 true).run Tryz.prog w = .ok (.tuple #[.nilIface, .bool false]) w := run_typeAssert_lacksB Tryz.underlying226 (by kernel_rfl) (by kernel_rfl) v xT w
theorem noIsT (v : Value) (xT : TypeId) (w : World) : (Instr.typeAssert (.iface 150 v) xT 226 true).run Tryz.prog w = .ok (.tuple #[.nilIface, .bool false]) w := run_typeAssert_lacksB Tryz.underlying226 (by kernel_rfl) (by kernel_rfl) v xT w
theorem hasUnT (v : Value) (xT : TypeId) (w : World) : (Instr.typeAssert (.iface 150 v) xT 202 true).run Tryz.prog w = .ok (.tuple #[.iface 150 v, .bool true]) w := run_typeAssert_hasB Tryz.underlying202 (by kernel_rfl) v xT w
theorem noUnE (v : Value) (xT : TypeId) (w : World) : (Instr.typeAssert (.iface 99 v) xT 202 true).run Tryz.prog w = .ok (.tuple #[.nilIface, .bool false]) w := run_typeAssert_lacksB Tryz.underlying202 (by kernel_rfl) (by kernel_rfl) v xT w
theorem noUn2E (v : Value) (xT : TypeId) (w : World) : (Instr.typeAssert (.iface 99 v) xT 203 true).run Tryz.prog w = .ok (.tuple #[.nilIface, .bool false]) w := run_typeAssert_lacksB Tryz.underlying203 (by kernel_rfl) (by kernel_rfl) v xT w
theorem methodUnT (h : Value) (w : World) : (Go.method 391 150 h "Unwrap").run Tryz.prog w = .ok (193, h) w := by kernel_rfl

def comparF (args : Array Value) : Sem Value := ReflectliteType.method (fun t => do Rtype.noPackHeld "Comparable" t; pure (.bool (← typeInfo t).comparable)) args
theorem comparE (w : World) : (comparF #[.agg #[hd 99]]).run Tryz.prog w = .ok (.bool true) w := by kernel_rfl
theorem run_equalIn_iface_int {P : Program} (w : World) (d : Nat) {ti tn : TypeId} {ms : Array (String × TypeId)} {i : TypeInfo} {k : IntKind} (a b : Int)
    (hi : P.underlying ti = some (.interface ms)) (hn : P.underlying tn = some (.int k)) (hinfo : P.info? tn = some i) (hcomp : i.comparable = true) :
    (Op.equalIn (d + 2) ti (.iface tn (.int k a)) (.iface tn (.int k b))).run P w = .ok (a == b) w := by
  simp [Op.equalIn, run_underlying hi, run_underlying hn, typeInfo, hinfo, hcomp]
theorem run_eql_iface_int {P : Program} (w : World) {ti tn : TypeId} {ms : Array (String × TypeId)} {i : TypeInfo} {k : IntKind} (a b : Int)
    (hi : P.underlying ti = some (.interface ms)) (hn : P.underlying tn = some (.int k)) (hinfo : P.info? tn = some i) (hcomp : i.comparable = true) :
    (binOp .eql ti (.iface tn (.int k a)) (.iface tn (.int k b))).run P w = .ok (.bool (a == b)) w := by
  simp only [binOp]
  simp [Op.equal, Op.maxDepth, run_equalIn_iface_int w 9998 a b hi hn hinfo hcomp]
theorem eqEE (a b : Int) (w : World) : (binOp .eql 25 (.iface 99 (.int .i64 a)) (.iface 99 (.int .i64 b))).run Tryz.prog w = .ok (.bool (a == b)) w := by
  obtain ⟨i, hi, hc⟩ : ∃ i, Tryz.prog.info? 99 = some i ∧ i.comparable = true := by
    have h : (Tryz.prog.info? 99).map (·.comparable) = some true := by kernel_rfl
    cases hq : Tryz.prog.info? 99 with
    | none => rw [hq] at h; cases h
    | some i => rw [hq] at h; exact ⟨i, rfl, by simpa using h⟩
  exact run_eql_iface_int w a b Tryz.underlying25 Tryz.underlying99 hi hc
theorem eqTE (v u : Value) (w : World) : (binOp .eql 25 (.iface 150 v) (.iface 99 u)).run Tryz.prog w = .ok (.bool false) w := run_eql_iface_types 150 99 v u Tryz.underlying25 (by decide) w
end Go.Dyn
namespace Go.Dyn
open Go Go.RowKit Go.Proofs Go.Extern.Stop Go.Stop Go.Extern
set_option maxRecDepth 20000
set_option maxHeartbeats 400000
/-- An error with a number: a number itself, or a tag around one, in blocks bs. -/
def ErrN (w : World) (n : Int) : List Nat → Value → Prop
  | [], v => v = .iface 99 (.int .i64 n)
  | b :: bs, v => ∃ s v', v = .iface 150 (.pointer (some ⟨b, 0, none⟩)) ∧ w.heap[b]? = some (.cells #[.string s, v'] 152 (0, 0)) ∧ ErrN w n bs v'
theorem ErrN.loc {w w' : World} {n : Int} : ∀ {bs : List Nat} {v : Value}, (∀ i, i ∈ bs → w'.heap[i]? = w.heap[i]?) → ErrN w n bs v → ErrN w' n bs v
  | [], _, _, h => h
  | b :: bs, v, hl, ⟨s, v', h1, h2, h3⟩ => ⟨s, v', h1, by rw [hl b (by simp)]; exact h2, h3.loc (fun i hi => hl i (by simp [hi]))⟩
theorem ErrN.inb {w : World} {n : Int} : ∀ {bs : List Nat} {v : Value}, ErrN w n bs v → ∀ i, i ∈ bs → i < w.heap.size
  | [], _, _, i, hi => by simp at hi
  | b :: bs, v, ⟨s, v', h1, h2, h3⟩, i, hi => by
    rcases List.mem_cons.1 hi with rfl | hi
    · exact (Array.getElem?_eq_some_iff.1 h2).1
    · exact h3.inb i hi
def errIt (bs : List Nat) (n : Int) (v : Value) : It where
  ids := bs
  ok w := ErrN w n bs v
  loc := ErrN.loc
  inb := ErrN.inb

theorem tag_Tag (s : ByteArray) (n : Int) (w : World) : Calls Tryz.prog 47 #[.string s, .iface 99 (.int .i64 n)] w fun e w' => ∃ b, e = .returned (.iface 150 (.pointer (some ⟨b, 0, none⟩))) ∧ Chg w w' [] [errIt [b] n (.iface 150 (.pointer (some ⟨b, 0, none⟩)))] := by
  have hS0 := Chg.nil w []
  go_enter Tryz.func47, Tryz.ntmps47
  go_wp2_with (first | (guard_target = wpList _ _ _ (Oper.mk _ (Op.box _ _) _ _ _ none :: _) _ _; (first | refine wl_box_agg (dst := 10) rfl ‹Chg _ _ _ _› rfl rfl rfl ?_ | refine wl_box_int (dst := 10) rfl ‹Chg _ _ _ _› rfl rfl rfl ?_ | refine wl_box_str (dst := 10) rfl ‹Chg _ _ _ _› rfl rfl rfl ?_ | refine wl_box_slice (dst := 10) rfl ‹Chg _ _ _ _› rfl rfl rfl ?_ | refine wl_box_ptr (dst := 10) rfl ‹Chg _ _ _ _› rfl rfl rfl ?_); intro b w1 hS1))
  go_ret
  refine ⟨b, rfl, ?_⟩
  exact ⟨hS1.os, hS1.tape, hS1.output, hS1.size, hS1.frame, fun it hi => by
    have : it = _ := List.mem_singleton.1 hi
    subst this
    exact ⟨s, _, rfl, hS1.head, rfl⟩, fun it hi => by
    have : it = _ := List.mem_singleton.1 hi
    subst this
    exact hS1.own (blk b #[.string s, .iface 99 (.int .i64 n)] 152) (by simp), by simp [errIt]⟩
theorem tag_Unwrap (b : Nat) (s : ByteArray) (v : Value) (w : World) (hb : w.heap[b]? = some (.cells #[.string s, v] 152 (0, 0))) : Calls Tryz.prog 193 #[.pointer (some ⟨b, 0, none⟩)] w fun e w' => e = .returned v ∧ w = w' := by
  have hc : w.cell? ⟨b, 1, none⟩ = some v := by rw [cell_of_row w b 1 _ _ _ hb]; rfl
  go_enter Tryz.func193, Tryz.ntmps193
  go_wp2
  go_ret
  exact ⟨rfl, rfl⟩
theorem tag_Num_nil (w : World) : Calls Tryz.prog 17 #[.nilIface] w fun e w' => e = .returned (.int .i64 0) ∧ w = w' := by
  go_enter Tryz.func17, Tryz.ntmps17
  go_wp2
  go_ret
  exact ⟨rfl, rfl⟩

end Go.Dyn
namespace Go.Dyn
open Go Go.RowKit Go.Proofs
set_option maxRecDepth 20000
set_option maxHeartbeats 400000
/-- A disk's own cells. -/
def diskV (bf : Nat) (A : Option Addr) (c : Nat) (D : Disk) : Array Value := #[.slice (some ⟨bf, 0, none⟩) D.firm.length D.firm.length, .slice A D.loose.length c, .bool D.down]
/-- A disk in memory. -/
def diskL (d bf : Nat) (A : Option Addr) (c : Nat) (D : Disk) : List It :=
  [blk d (diskV bf A c D) 103, blk bf (pagesV D.firm).toArray 92, slIt 129 143 A D.loose.length c (looseV D.loose)]
abbrev ptr (b : Nat) : Value := .pointer (some ⟨b, 0, none⟩)

theorem disk_Size {d bf : Nat} {A : Option Addr} {c : Nat} {D : Disk} {w : World} (h : (blk d (diskV bf A c D) 103).ok w) : Calls Tryz.prog 57 #[ptr d] w fun e w' => e = .returned (.int .i64 D.firm.length) ∧ w = w' := by
  have hc : w.cell? ⟨d, 0, none⟩ = some (.slice (some ⟨bf, 0, none⟩) D.firm.length D.firm.length) := blk_cell h 0
  clear h
  go_enter Tryz.func57, Tryz.ntmps57
  go_wp2
  go_ret
  exact ⟨rfl, rfl⟩
theorem disk_Size_nil (w : World) : Calls Tryz.prog 57 #[.pointer none] w fun e w' => e = .returned (.int .i64 0) ∧ w = w' := by
  go_enter Tryz.func57, Tryz.ntmps57
  go_wp2
  go_ret
  exact ⟨rfl, rfl⟩
theorem disk_may {d bf : Nat} {A : Option Addr} {c : Nat} {D : Disk} {w : World} (h : (blk d (diskV bf A c D) 103).ok w) (hd : D.down = false) (i : Nat) (hi : i < D.firm.length) (hn : D.firm.length ≤ 1000) :
    Calls Tryz.prog 80 #[ptr d, .int .i64 i] w fun e w' => e = .returned .nilIface ∧ w = w' := by
  have hc : w.cell? ⟨d, 0, none⟩ = some (.slice (some ⟨bf, 0, none⟩) D.firm.length D.firm.length) := blk_cell h 0
  have hc2 : w.cell? ⟨d, 2, none⟩ = some (.bool false) := by rw [← hd]; exact blk_cell h 2
  clear h hd
  go_enter Tryz.func80, Tryz.ntmps80
  go_wp2
  go_ret
  exact ⟨rfl, rfl⟩
theorem disk_may_down {d bf : Nat} {A : Option Addr} {c : Nat} {D : Disk} {w : World} (h : (blk d (diskV bf A c D) 103).ok w) (hd : D.down = true) (i : Int) :
    Calls Tryz.prog 80 #[ptr d, .int .i64 i] w fun e w' => ∃ b, e = .returned (.iface 150 (ptr b)) ∧ Chg w w' [] [errIt [b] 7 (.iface 150 (ptr b))] := by
  have hc2 : w.cell? ⟨d, 2, none⟩ = some (.bool true) := by rw [← hd]; exact blk_cell h 2
  clear h hd
  go_enter Tryz.func80, Tryz.ntmps80
  go_wp2_with (go_at_call 47; refine (tag_Tag _ _ _).mono ?_; rintro e w' ⟨b, rfl, hE⟩)
  go_ret
  exact ⟨b, rfl, hE⟩
set_option maxRecDepth 20000 in
theorem disk_Read {d bf : Nat} {A : Option Addr} {c : Nat} {D : Disk} {w : World} (hO : Own w (diskL d bf A c D)) (hd : D.down = false) (i : Nat) (hi : i < D.firm.length) (hn : D.firm.length ≤ 1000) (hk : D.loose.length ≤ 1000000) :
    Calls Tryz.prog 45 #[ptr d, .int .i64 i] w fun e w' => e = .returned (.tuple #[.agg (D.read i).enc, .nilIface]) ∧ Below w.heap.size w w' := by
  have hS0 := Chg.nil w []
  have hA := hO.all (slIt 129 143 A D.loose.length c (looseV D.loose)) (by simp [diskL])
  have hB := hO.all (blk bf (pagesV D.firm).toArray 92) (by simp [diskL])
  have hD := hO.all (blk d (diskV bf A c D) 103) (by simp [diskL])
  have HA := Lib.hid hA
  have HB := Lib.hid hB
  have HD := Lib.hid hD
  have Hpage : Hid (CellsAt w bf (i * 128) (D.firm[i]).enc.toList) := Lib.hid (cellsAt_blk hB _ (by
    have := flat_part (fun p : Pg => p.enc.toList) 128 (by simp) D.firm i hi
    simpa [pagesV] using this))
  clear hA hB hD hO
  go_enter Tryz.func45, Tryz.ntmps45
  go_wp2_with (first | (guard_target = wpList _ _ _ (Oper.mk _ (Op.alloc _) _ _ _ none :: _) _ _; (refine wl_alloc_agg (dst := 4) rfl ‹Chg _ _ _ _› rfl rfl ?_); intro b0 w1 hS1) | (go_at_call 80; refine (disk_may (hS1.oldBlk HD.out (by simp)) hd i hi hn).mono ?_; rintro e w' ⟨rfl, rfl⟩; have hc0 : w1.cell? ⟨d, 0, none⟩ = some (.slice (some ⟨bf, 0, none⟩) D.firm.length D.firm.length) := hS1.old (blk_cell HD.out 0) (by simp)) | (refine wl_loadc rfl rfl rfl (cs := (D.firm[i]).enc.toList) (Hpage.out.old hS1 (by simp)) (by simp) ?_) | (guard_target = wpList _ _ _ (Oper.mk _ (Op.alloc _) _ _ _ none :: _) _ _; (refine wl_alloc_agg (dst := 7) rfl ‹Chg _ _ _ _› rfl rfl ?_); intro b7 w2 hS2) | (refine wl_storew_0 hS2 rfl rfl rfl rfl (by simp) Pg.one (by simp) ?_; intro w3 hS3; have hc1 : w3.cell? ⟨d, 1, none⟩ = some (.slice A D.loose.length c) := hS3.old (blk_cell HD.out 1) (by simp)))
  clear hS0 hS1 hS2 hc0
  go_loopw [29] (fun v w' => ∃ k : Nat, k ≤ D.loose.length ∧ v = .int .i64 k ∧ Chg w w' [] [blk b7 (readFrom (D.loose.take k) i D.firm[i]).enc 92, blk b0 (Array.replicate 128 (Value.int .u8 0)) 92]) (fun v _ => D.loose.length - (intOf v).toNat)
  case atStart => exact ⟨0, by omega, rfl, hS3⟩
  case round =>
    obtain ⟨k, hk2, rfl, hS⟩ := hrel
    clear hS3 hc1
    by_cases hlt : k < D.loose.length
    · obtain ⟨bA, rfl⟩ : ∃ bA, A = some ⟨bA, 0, none⟩ := by
        rcases slIt_form HA.out with ⟨_, h0, _⟩ | h
        · omega
        · exact h
      have hcx := (cellsAt_sl HA.out (k * 129) (looseC D.loose[k]) (loose_part D.loose k hlt)).old hS (by simp)
      have Hr := Lib.hid (readFrom_take D.loose k i D.firm[i] hlt)
      have Hcx := Lib.hid hcx
      clear hcx
      generalize D.loose[k] = x at *
      by_cases hxi : x.1 = i
      · have hb : (((x.1 : Nat) : Int) == (i : Int)) = true := by simp [hxi]
        rw [if_pos hxi] at Hr
        go_wp2_with (first | (refine wl_loadc rfl rfl rfl Hcx.out (by simp) ?_) | (guard_target = wpList _ _ _ (Oper.mk _ (Op.alloc _) _ _ _ none :: _) _ _; (refine wl_alloc_agg (dst := 9) rfl ‹Chg _ _ _ _› rfl rfl ?_); intro b9 w4 hS4) | (refine wl_storew_0 hS4 rfl rfl rfl rfl (by simp) looseC_one (by simp) ?_; intro w5 hS5; clear hS4) | (refine wl_load1_0 (v := .int .i64 (x.1 : Int)) hS5 rfl rfl rfl rfl ?_) | (refine wl_loadr_0 hS5 rfl rfl rfl (by simp) (looseC_page x) ?_) | (refine wl_storew_1 hS5 rfl rfl rfl rfl (by simp) Pg.one (by simp) ?_; intro w6 hS6))
        go_roundw
        case rel => exact ⟨k + 1, by omega, by go_num, by rw [Hr.out]; exact hS6.drop_1⟩
        case measure => simp [intOf]; omega
      · have hb : (((x.1 : Nat) : Int) == (i : Int)) = false := by simp; omega
        rw [if_neg hxi] at Hr
        go_wp2_with (first | (refine wl_loadc rfl rfl rfl Hcx.out (by simp) ?_) | (guard_target = wpList _ _ _ (Oper.mk _ (Op.alloc _) _ _ _ none :: _) _ _; (refine wl_alloc_agg (dst := 9) rfl ‹Chg _ _ _ _› rfl rfl ?_); intro b9 w4 hS4) | (refine wl_storew_0 hS4 rfl rfl rfl rfl (by simp) looseC_one (by simp) ?_; intro w5 hS5; clear hS4) | (refine wl_load1_0 (v := .int .i64 (x.1 : Int)) hS5 rfl rfl rfl rfl ?_))
        go_roundw
        case rel => exact ⟨k + 1, by omega, by go_num, by rw [Hr.out]; exact hS5.tail⟩
        case measure => simp [intOf]; omega
    · have : k = D.loose.length := by omega
      subst this
      have hr : readFrom (D.loose.take D.loose.length) i D.firm[i] = D.read i := by
        rw [List.take_length, Disk.read]
        congr 1
        simp [hi]
      rw [hr] at hS
      clear hr
      go_wp2_with (first | (refine wl_loadw_0 hS rfl rfl rfl (by simp) ?_) | (refine wl_storew_1 hS rfl rfl rfl rfl (by simp) Pg.one (by simp) ?_; intro w5 hS5))
      exact ret_row2 0 hS5 rfl rfl rfl rfl (by simp) rfl ⟨rfl, hS5.below⟩
end Go.Dyn
namespace Go.Dyn
open Go
set_option maxRecDepth 20000
section
variable {P : Program} {ops : Array Oper} {md : Region.Mode} {S : World → Prop}

def QF : Exit → Act → World → Prop := fun _ _ _ => False
def QN (X : Act → World → Prop) : Exit → Act → World → Prop := fun e a w => match e with | .normal => X a w | _ => False

theorem Oper.wp_monoQ {o : Oper} {a : Act} {w : World} {K : Act → World → Prop} {Q Q' : Exit → Act → World → Prop} (h : ∀ c a w, Q (.panic c) a w → Q' (.panic c) a w) (hl : LetsOut Q → LetsOut Q')
    (hh : o.wp P a w K Q) : o.wp P a w K Q' := by
  unfold Oper.wp at *
  generalize (execOp a.eval o).run P w = r at *
  cases r with
  | ok n w' =>
    cases n <;> simp only [Oper.upon] at hh ⊢ <;>
      first
        | exact hh
        | exact Calls.mono hh (fun e w'' he => by cases e <;> first | exact he | exact h _ _ _ he | exact hl he)
  | halt x w' => cases x <;> simp only [Oper.upon] at hh ⊢ <;> exact h _ _ _ hh

theorem wpOp_monoQ {i : Nat} {a : Act} {w : World} {K : Act → World → Prop} {Q : Exit → Act → World → Prop} (hh : wpOp P ops QF i K a w) : wpOp P ops Q i K a w := by
  unfold wpOp at *
  split
  · simpa [*] using hh
  · rename_i o ho
    simp only [ho] at hh
    split
    · rename_i hw; simp only [hw, if_true] at hh
      exact hh.imp (Oper.wp_monoQ (fun _ _ _ h => h.elim) fun ⟨_, _, h⟩ => h.elim) fun ⟨_, _, _, h⟩ => h.elim
    · rename_i hw; simp only [hw] at hh; exact hh

theorem wpOp_of_one {i : Nat} {o : Oper} {a : Act} {w : World} {K : Act → World → Prop} (hi : ops[i]? = some o) (h : wpList P ops (QN K) [o] a w) : wpOp P ops QF i K a w := by
  unfold wpOp
  unfold wpList at h
  simp only [hi]
  split
  · rename_i hw; rw [if_pos hw] at h
    rcases h with h | ⟨_, _, _, h⟩
    · exact .inl (Oper.wp_monoQ (fun _ _ _ h => h.elim) (fun ⟨_, _, h⟩ => h.elim) (Oper.wp_mono (fun _ _ h => h) h))
    · exact h.elim
  · rename_i hw; rw [if_neg hw] at h; exact h

def wpH (P : Program) (md : Region.Mode) (ops : Array Oper) (S : World → Prop) (n : Nat) (T : Array Bool → Act → World → Prop) : Nat → Array Bool → Act → World → Prop
  | 0, listed, a, w => T listed a w
  | f + 1, listed, a, w => Region.ready md ops listed ≠ [] ∧ ∀ i ∈ Region.ready md ops listed, i < n ∧ wpOp P ops QF i (fun a' w' => S w' ∧ wpH P md ops S n T f (listed.setIfInBounds i true) a' w') a w

theorem wpAny_of_H {n g : Nat} {T : Array Bool → Act → World → Prop} {Q : Exit → Act → World → Prop} (hT : ∀ listed a w, T listed a w → wpAny P md ops Q g listed a w) :
    ∀ (f : Nat) (listed : Array Bool) (a : Act) (w : World), wpH P md ops S n T f listed a w → wpAny P md ops Q (f + g) listed a w
  | 0, listed, a, w, h => by rw [Nat.zero_add]; exact hT _ _ _ h
  | f + 1, listed, a, w, h => by
    rw [show f + 1 + g = (f + g) + 1 by omega]
    exact ⟨fun h0 => absurd h0 h.1, fun i hi => wpOp_monoQ (wpOp_mono (fun a' w' h' => wpAny_of_H hT f _ a' w' h'.2) (h.2 i hi).2)⟩

/-- The tail waits for all of the head. -/
def Waits (md : Region.Mode) (ops : Array Oper) (n : Nat) : Prop := ∀ listed i, HeadInv md ops n listed → i < n → listed.getD i true = false → ∀ t, n ≤ t → t ∉ Region.ready md ops listed
theorem waits_tail {n : Nat} (hs : Region.sinkB md ops n = true) (hc : Region.chainB md ops n = true) (hn : n < ops.size) : Waits md ops n := fun listed i inv hi hun t ht => tail_waits hs hc hn inv _ i rfl hi hun t ht
theorem waits_none : Waits md ops ops.size := fun listed i _ _ _ t ht hr => by
  obtain ⟨_, ot, hot, _⟩ := mem_ready.1 hr
  have := (Array.getElem?_eq_some_iff.1 hot).1
  omega

theorem wpH_first {n i : Nat} {oi : Oper} {v : Value} {T : Array Bool → Act → World → Prop} (hi : ops[i]? = some oi) (hsel : ∀ (j : Nat) (o : Oper) cs b, ops[j]? = some o → o.op ≠ .select cs b)
    (hwt : Waits md ops n) (hin : i < n) (hdone : ∀ listed a w, T listed a w → ∀ j ∈ Region.ready md ops listed, n ≤ j) :
    ∀ (f : Nat) (listed : Array Bool) (a : Act) (w : World), HeadInv md ops n listed →
      (∀ j oj, ops[j]? = some oj → j ≠ i → listed.getD j true = false → (∀ e ∈ oj.after, Region.binds md e = true → e.on ≠ i) → oi.apart ops oj = true) →
      i ∈ Region.ready md ops listed → YieldsIf P ops S oi v a → S w →
      wpH P md ops S n T f (listed.setIfInBounds i true) (a.put oi.dst v) w → wpH P md ops S n T (f + 1) listed a w := by
  intro f
  induction f with
  | zero =>
    intro listed a w inv _ hr hy hS H
    have hun := (mem_ready.1 hr).1
    refine ⟨fun h => (by rw [h] at hr; cases hr), fun j hj => ?_⟩
    have hjn : j < n := by
      rcases Nat.lt_or_ge j n with h | h
      · exact h
      · exact absurd hj (hwt _ i inv hin hun j h)
    refine ⟨hjn, ?_⟩
    by_cases hji : j = i
    · subst hji; exact hy.wpOp hi hS ⟨hS, H⟩
    · have := hdone _ _ _ H j (ready_mono hj hji)
      omega
  | succ f ih =>
    intro listed a w inv hfree hr hy hS H
    have hun := (mem_ready.1 hr).1
    refine ⟨fun h => (by rw [h] at hr; cases hr), fun j hj => ?_⟩
    have hjn : j < n := by
      rcases Nat.lt_or_ge j n with h | h
      · exact h
      · exact absurd hj (hwt _ i inv hin hun j h)
    refine ⟨hjn, ?_⟩
    by_cases hji : j = i
    · subst hji; exact hy.wpOp hi hS ⟨hS, H⟩
    · have h1 := (H.2 j (ready_mono hj hji)).2
      obtain ⟨hjun, oj, hoj, hall⟩ := mem_ready.1 hj
      have hnot : ∀ e ∈ oj.after, Region.binds md e = true → e.on ≠ i := fun e he hb heq => by
        have h1 := hall e he hb
        rw [heq, getD_both hun] at h1
        cases h1
      have h2 := wpOp_putIf hoj (hfree j oj hoj hji hjun hnot) (fun cs b => hsel i oi cs b hi) (fun cs b => hsel j oj cs b hoj) (fun _ _ _ h => h.elim) hy h1
      have hfree' : ∀ k ok, ops[k]? = some ok → k ≠ i → (listed.setIfInBounds j true).getD k true = false →
          (∀ e ∈ ok.after, Region.binds md e = true → e.on ≠ i) → oi.apart ops ok = true := fun k ok hk hki hun hno => by
        refine hfree k ok hk hki ?_ hno
        by_cases hjk : j = k
        · subst hjk; exact hjun
        · rw [getD_set_ne true hjk] at hun; exact hun
      refine wpOp_mono (fun a' w' h3 => ⟨h3.2.1, ih (listed.setIfInBounds j true) a' w' (inv.set hj hjn) hfree' (ready_mono hr (Ne.symm hji)) h3.1 h3.2.1 ?_⟩) h2
      rw [Array.setIfInBounds_comm _ _ hji]
      exact h3.2.2

/-- Operations that yield a value and leave the world, and enter nothing. -/
def plainB (o : Oper) : Bool := match o.op with
  | .move _ | .assign _ | .pick .. | .load .. | .build .. | .fieldAddr .. | .field .. | .indexAddr .. | .index .. | .extract .. | .binOp .. | .unOp .. | .convert .. | .slice .. | .sliceToArrayPointer .. | .makeInterface .. => true
  | .nilCheck _ => true
  | _ => false
theorem run_value (s : Sem Value) (w : World) : ∀ n w', (do pure (Next.value (← s)) : Sem Next).run P w = .ok n w' → ∃ u, n = .value u := by
  intro n w' h
  simp only [Sem.run_bind] at h
  cases hs : s.run P w with
  | ok u w1 => rw [hs] at h; simp only [Result.andThen_ok, Sem.run_pure] at h; cases h; exact ⟨_, rfl⟩
  | halt x w1 => rw [hs] at h; cases h
theorem run_valueF {α : Type} (s : Sem α) (f : α → Value) (w : World) : ∀ n w', (do let x ← s; pure (Next.value (f x)) : Sem Next).run P w = .ok n w' → ∃ u, n = .value u := by
  intro n w' h
  simp only [Sem.run_bind] at h
  cases hs : s.run P w with
  | ok u w1 => rw [hs] at h; simp only [Result.andThen_ok, Sem.run_pure] at h; cases h; exact ⟨_, rfl⟩
  | halt x w1 => rw [hs] at h; cases h
theorem run_pureV (v : Value) (w : World) : ∀ n w', (pure (Next.value v) : Sem Next).run P w = .ok n w' → ∃ u, n = .value u := by
  intro n w' h
  simp only [Sem.run_pure] at h
  cases h
  exact ⟨_, rfl⟩
theorem plain_value {o : Oper} (ho : plainB o = true) (ev : Operand → Value) (w : World) : ∀ n w', (execOp ev o).run P w = .ok n w' → ∃ u, n = .value u := by
  intro n w' h
  unfold plainB at ho
  unfold execOp at h
  split at ho <;> rename_i hop <;> simp only [hop] at h
  all_goals first | exact run_value _ _ _ _ h | exact run_pureV _ _ _ _ h | exact run_valueF (asBool _) _ _ _ _ h | skip
  all_goals first | (cases ho; done) | skip
  · split at h
    · cases h
    · cases h
    · cases h
    · split at h
      · cases h
      · simp only [Sem.run_bind] at h
        generalize (Go.program).run P w = r at h
        cases r with
        | ok p w1 =>
          simp only [Result.andThen_ok] at h
          generalize (nilAhead _ _ _ _).run P w1 = r2 at h
          cases r2 with
          | ok q w2 =>
            simp only [Result.andThen_ok] at h
            split at h
            · cases h
            · simp only [Sem.run_pure, Result.andThen_ok] at h
              cases h
              exact ⟨_, rfl⟩
          | halt x w2 => cases h
        | halt x w1 => cases h
      · exact run_pureV _ _ _ _ h
    · exact run_pureV _ _ _ _ h

theorem yieldsIf_of_quiet {o : Oper} {v : Value} {a : Act} (hp : plainB o = true) (h : YieldsIn P ops S o v a) : YieldsIf P ops S o v a := by
  refine h.imp (fun ⟨hw, hv⟩ => ⟨hw, fun w hS => ?_⟩) id
  have h1 := hv w hS
  unfold Oper.quietAt at h1
  cases hr : (execOp a.eval o).run P w with
  | ok n w' =>
    obtain ⟨u, rfl⟩ := plain_value hp _ _ _ _ hr
    rw [hr] at h1
    obtain ⟨e1, e2⟩ := h1
    rw [e1, e2]
  | halt x w' => rw [hr] at h1; cases x <;> exact h1.elim

def mark (ops : Array Oper) (ts : List Nat) : Array Bool := ts.foldl (fun l i => l.setIfInBounds i true) (Array.replicate ops.size false)
theorem mark_snoc (ts : List Nat) (i : Nat) : mark ops (ts ++ [i]) = (mark ops ts).setIfInBounds i true := by simp [mark]
def wpM (P : Program) (md : Region.Mode) (ops : Array Oper) (S : World → Prop) (n : Nat) (T : Array Bool → Act → World → Prop) (ts : List Nat) (a : Act) (w : World) : Prop :=
  HeadInv md ops n (mark ops ts) → wpH P md ops S n T (n - ts.length) (mark ops ts) a w
def tailT (P : Program) (md : Region.Mode) (Q : Exit → Act → World → Prop) (l : List Oper) (n : Nat) : Array Bool → Act → World → Prop := fun listed a w =>
  Region.seqB md l.toArray (l.length - n) n listed = true ∧ wpList P l.toArray Q (l.drop n) a w
def consO (o : Option Oper) (r : List Oper) : List Oper := match o with | some o => o :: r | none => r
def pick (l : List Oper) : List Nat → List Oper
  | [] => []
  | i :: is => consO l[i]? (pick l is)
theorem pick_nil (l : List Oper) : pick l [] = [] := rfl
theorem pick_cons (l : List Oper) (i : Nat) (is : List Nat) : pick l (i :: is) = consO l[i]? (pick l is) := rfl
theorem consO_some (o : Oper) (r : List Oper) : consO (some o) r = o :: r := rfl
def takesB (md : Region.Mode) (l : List Oper) (n : Nat) : List Nat → List Nat → Bool
  | _, [] => true
  | ts, i :: qs => (match l[i]? with | some o => plainB o | none => false) && Region.noSelect l.toArray && decide (i < n) && decide (ts.length < n) && (Region.ready md l.toArray (mark l.toArray ts)).contains i && Region.free md l.toArray (mark l.toArray ts) i && takesB md l n (ts ++ [i]) qs
variable {l : List Oper} {n : Nat} {Q : Exit → Act → World → Prop} {a : Act} {w : World} {ts : List Nat}
theorem wpM_quiet (hwt : Waits md l.toArray n) : ∀ (qs : List Nat) (ts : List Nat) (a : Act), takesB md l n ts qs = true → S w →
    wpQuiet P l.toArray S (fun a' => wpM P md l.toArray S n (tailT P md Q l n) (ts ++ qs) a' w) (pick l qs) a → wpM P md l.toArray S n (tailT P md Q l n) ts a w
  | [], ts, a, _, _, h => by simpa [pick, wpQuiet] using h
  | i :: qs, ts, a, hB, hS, h => by
    intro inv
    simp only [takesB, Bool.and_eq_true, decide_eq_true_eq] at hB
    obtain ⟨⟨⟨⟨⟨⟨hp, hns⟩, hin⟩, hlen⟩, hr⟩, hf⟩, hB'⟩ := hB
    cases ho : l[i]? with
    | none => rw [ho] at hp; cases hp
    | some o =>
      rw [ho] at hp
      simp only [pick_cons, ho, consO_some] at h
      have hi : l.toArray[i]? = some o := by simpa using ho
      have hr' : i ∈ Region.ready md l.toArray (mark l.toArray ts) := by simpa using hr
      have hst : qOp P l.toArray S i (wpQuiet P l.toArray S (fun a' => wpM P md l.toArray S n (tailT P md Q l n) (ts ++ i :: qs) a' w) (pick l qs)) a := by
        unfold qOp; simp only [hi]; exact h
      obtain ⟨v, hy, hK⟩ := yieldsIn_of_qOp hi hst
      have := wpM_quiet hwt qs (ts ++ [i]) _ hB' hS (by simpa using hK)
      rw [show n - ts.length = (n - (ts ++ [i]).length) + 1 by simp; omega]
      refine wpH_first hi (Region.noSelect_spec hns) hwt hin (fun listed a w hT => seqB_ready hT.1) _ _ _ _ inv (Region.free_spec hi hf) hr' (yieldsIf_of_quiet hp hy) hS ?_
      rw [← mark_snoc]
      exact this (by rw [mark_snoc]; exact inv.set hr' hin)
def allsB (md : Region.Mode) (l : List Oper) (n : Nat) (ts rs : List Nat) : Bool := decide (Region.ready md l.toArray (mark l.toArray ts) = rs) && rs.all (fun i => decide (i < n)) && decide (ts.length < n) && !rs.isEmpty
theorem wpM_all (rs : List Nat) (hB : allsB md l n ts rs = true) (h : ∀ i ∈ rs, wpList P l.toArray (QN fun a' w' => S w' ∧ wpM P md l.toArray S n (tailT P md Q l n) (ts ++ [i]) a' w') (pick l [i]) a w) : wpM P md l.toArray S n (tailT P md Q l n) ts a w := by
  intro inv
  simp only [allsB, Bool.and_eq_true, decide_eq_true_eq, List.all_eq_true] at hB
  obtain ⟨⟨⟨hr, hlt⟩, hlen⟩, hne⟩ := hB
  rw [show n - ts.length = (n - ts.length - 1) + 1 by omega]
  refine ⟨(by rw [hr]; intro h0; rw [h0] at hne; cases hne), fun i hi => ?_⟩
  rw [hr] at hi
  have hlt' : i < n := by simpa using hlt i hi
  refine ⟨hlt', ?_⟩
  have h1 := h i hi
  have hi' : i ∈ Region.ready md l.toArray (mark l.toArray ts) := by rw [hr]; exact hi
  obtain ⟨_, o, ho, _⟩ := mem_ready.1 hi'
  have ho' : l[i]? = some o := by simpa using ho
  simp only [pick_cons, ho', consO_some, pick_nil] at h1
  refine wpOp_mono (fun a' w' hk => ⟨hk.1, ?_⟩) (wpOp_of_one ho h1)
  have := hk.2 (by rw [mark_snoc]; exact inv.set hi' hlt')
  rw [mark_snoc] at this
  rwa [show n - (ts ++ [i]).length = n - ts.length - 1 by simp; omega] at this
theorem wpM_one (i : Nat) (hB : allsB md l n ts [i] = true) (h : wpList P l.toArray (QN fun a' w' => S w' ∧ wpM P md l.toArray S n (tailT P md Q l n) (ts ++ [i]) a' w') (pick l [i]) a w) : wpM P md l.toArray S n (tailT P md Q l n) ts a w :=
  wpM_all [i] hB fun j hj => by rw [List.mem_singleton.1 hj]; exact h
theorem wpM_two (i j : Nat) (hB : allsB md l n ts [i, j] = true) (h : wpList P l.toArray (QN fun a' w' => S w' ∧ wpM P md l.toArray S n (tailT P md Q l n) (ts ++ [i]) a' w') (pick l [i]) a w)
    (h' : wpList P l.toArray (QN fun a' w' => S w' ∧ wpM P md l.toArray S n (tailT P md Q l n) (ts ++ [j]) a' w') (pick l [j]) a w) : wpM P md l.toArray S n (tailT P md Q l n) ts a w :=
  wpM_all [i, j] hB fun k hk => by
    rcases List.mem_cons.1 hk with rfl | hk
    · exact h
    · rw [List.mem_singleton.1 hk]; exact h'
def doneB (md : Region.Mode) (l : List Oper) (n : Nat) (ts : List Nat) : Bool := decide (n ≤ ts.length) && Region.seqB md l.toArray (l.length - n) n (mark l.toArray ts)
theorem wpM_done (hB : doneB md l n ts = true) (h : wpList P l.toArray Q (l.drop n) a w) : wpM P md l.toArray S n (tailT P md Q l n) ts a w := by
  intro _
  simp only [doneB, Bool.and_eq_true, decide_eq_true_eq] at hB
  rw [show n - ts.length = 0 by omega]
  exact ⟨hB.2, h⟩
def movesB (md : Region.Mode) (l : List Oper) (n : Nat) : Bool := decide (n < l.length) && Region.sinkB md l.toArray n && Region.chainB md l.toArray n || decide (n = l.length)
theorem movesB_waits (hB : movesB md l n = true) : Waits md l.toArray n := by
  simp only [movesB, Bool.or_eq_true, Bool.and_eq_true, decide_eq_true_eq] at hB
  rcases hB with ⟨⟨h1, h2⟩, h3⟩ | h
  · exact waits_tail h2 h3 (by simpa using h1)
  · have := waits_none (md := md) (ops := l.toArray)
    rw [h]
    simpa using this
theorem wp_region_moves {id : Nat} (n : Nat) (S : World → Prop) (hm : P.follows .mixedOrders = true) (hB : movesB .any l n = true)
    (h : Waits .any l.toArray n → wpM P .any l.toArray S n (tailT P .any Q l n) [] a w.drew) : (Code.region id l.toArray true).wp P Q a w := by
  have hwt := movesB_waits hB
  have hn : n ≤ l.length := by
    simp only [movesB, Bool.or_eq_true, Bool.and_eq_true, decide_eq_true_eq] at hB
    omega
  have inv0 : HeadInv .any l.toArray n (mark l.toArray []) := by
    unfold mark
    simp only [List.foldl_nil]
    exact ⟨by simp, fun j oj _ hl => (by rw [getD_replicate_false] at hl; cases hl), fun t _ ht => getD_in (by simpa using ht) (getD_replicate_false _ _)⟩
  have H := h hwt inv0
  refine wp_region_any hm ?_
  have := wpAny_of_H (Q := Q) (g := l.length - n) (fun listed a' w' hT => by
    have := wpAny_of_seq (md := .any) (Q' := Q) (l.drop n) n listed a' w' (fun j => by simp [List.getElem?_drop]) (by simpa using hT.1) hT.2
    simpa using this) _ _ _ _ H
  simp only [List.length_nil, Nat.sub_zero] at this
  rw [show n + (l.length - n) = l.toArray.size by simp; omega] at this
  exact this
end
/-- What is kept, for loads. -/
def Held (L : List It) : World → Prop := fun w => ∀ it ∈ L, it.ok w
theorem Held.get {L : List It} {w : World} (h : Held L w) (i : Nat) {x : It} (hi : L[i]? = some x) : x.ok w := h _ (List.mem_of_getElem? hi)
theorem Held.one {x : It} {w : World} (h : x.ok w) : Held [x] w := fun it hit => by rw [List.mem_singleton.1 hit]; exact h
theorem Chg.held {w0 w : World} {F : List Nat} {L L2 : List It} (h : Chg w0 w F L) (is : List Nat) (hi : is.map (L[·]?) = L2.map some) : Held L2 w := fun it hit => by
  have : some it ∈ L2.map some := List.mem_map.2 ⟨it, hit, rfl⟩
  rw [← hi] at this
  obtain ⟨i, _, h2⟩ := List.mem_map.1 this
  exact h.get i h2
/-- The items that are told by their places, in that order. -/
def arrO : Nat → List Nat → List It → Option (List It)
  | 0, _, _ => some []
  | _ + 1, [], _ => some []
  | n + 1, i :: is, L => match L[i]? with
    | some x => (arrO n (is.map fun j => if i < j then j - 1 else j) (L.eraseIdx i)).map (x :: ·)
    | none => none
theorem Chg.arr_pre {w0 w : World} {F : List Nat} : ∀ (n : Nat) (is : List Nat) (pre L L2 : List It), arrO n is L = some L2 → Chg w0 w F (pre ++ L) → Chg w0 w F (pre ++ L2)
  | 0, is, pre, L, L2, ha, h => by
    simp only [arrO, Option.some.injEq] at ha
    subst ha
    exact h.sub (by simp)
  | n + 1, [], pre, L, L2, ha, h => by
    simp only [arrO, Option.some.injEq] at ha
    subst ha
    exact h.sub (by simp)
  | n + 1, i :: is, pre, L, L2, ha, h => by
    simp only [arrO] at ha
    cases hx : L[i]? with
    | none => rw [hx] at ha; cases ha
    | some x =>
      rw [hx] at ha
      simp only [Option.map_eq_some_iff] at ha
      obtain ⟨L3, h3, rfl⟩ := ha
      have hp : (pre ++ L).Perm ((pre ++ [x]) ++ L.eraseIdx i) := by
        rw [List.append_assoc]
        exact List.Perm.append_left pre (perm_front L i x hx)
      have := Chg.arr_pre n _ (pre ++ [x]) (L.eraseIdx i) L3 h3 (h.perm hp)
      simpa using this
theorem Chg.arr {w0 w : World} {F : List Nat} {L L2 : List It} (h : Chg w0 w F L) (is : List Nat) (ha : arrO is.length is L = some L2) : Chg w0 w F L2 := by
  have := Chg.arr_pre _ is [] L L2 ha (by simpa using h)
  simpa using this
end Go.Dyn
