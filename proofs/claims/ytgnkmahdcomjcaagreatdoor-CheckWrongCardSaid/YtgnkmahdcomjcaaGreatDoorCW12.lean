/- Part of the proof that CheckWrong returns true, whatever the four bytes; tied to the program's own text (part 12 of 14) -/
import Derived.Test.YtgnkmahdcomjcaaGreatDoorCW11
set_option linter.unusedVariables false
set_option linter.unusedSimpArgs false
namespace Go.Dyn
open Go Go.RowKit
set_option maxRecDepth 20000
theorem Disk.read_write (D : Disk) (i j : Nat) (p : Pg) : (D.write i p).read j = if i = j then p else D.read j := by
  simp only [Disk.write, Disk.read, readFrom_snoc]
theorem applyTo_getD (j : Nat) : ∀ (l : List (Nat × Pg)) (f : List Pg), (∀ x ∈ l, x.1 < f.length) → (applyTo l f).getD j Pg.zero = readFrom l j (f.getD j Pg.zero)
  | [], f, _ => rfl
  | x :: l, f, h => by
    have ih := applyTo_getD j l (f.set x.1 x.2) (fun y hy => by simpa using h y (by simp [hy]))
    simp only [applyTo, readFrom, List.foldl_cons] at ih ⊢
    rw [ih]
    congr 1
    have hx := h x (by simp)
    by_cases e : x.1 = j
    · subst e; simp [hx]
    · simp [List.getD_eq_getElem?_getD, List.getElem?_set, e]
theorem Disk.read_flush (D : Disk) (h : ∀ x ∈ D.loose, x.1 < D.firm.length) (j : Nat) : D.flush.read j = D.read j := by
  simp only [Disk.flush, Disk.read]
  rw [show readFrom ([] : List (Nat × Pg)) j ((applyTo D.loose D.firm).getD j Pg.zero) = (applyTo D.loose D.firm).getD j Pg.zero from rfl, applyTo_getD j _ _ h]
theorem Disk.flush_firm (D : Disk) : D.flush.firm.length = D.firm.length := applyTo_length _ _
theorem Disk.switch_firm (D : Disk) (s : Sup) : (D.switch s).firm.length = D.firm.length := by
  unfold Disk.switch; rw [Disk.flush_firm]; simp only [Disk.write]; exact Disk.flush_firm D
theorem Disk.switch_down (D : Disk) (s : Sup) : (D.switch s).down = D.down := rfl
theorem Disk.switch_loose (D : Disk) (s : Sup) : (D.switch s).loose = [] := rfl
theorem Disk.switch_read (D : Disk) (s : Sup) (h : ∀ x ∈ D.loose, x.1 < D.firm.length) (h2 : 2 ≤ D.firm.length) (j : Nat) : (D.switch s).read j = if s.gen % 2 = j then s.page else D.read j := by
  unfold Disk.switch
  rw [Disk.read_flush _ (fun x hx => by
    simp only [Disk.write, Disk.flush, List.nil_append, List.mem_singleton] at hx ⊢
    subst hx
    rw [applyTo_length]
    show s.gen % 2 < _
    omega), Disk.read_write, Disk.read_flush _ h]
/-- A pager in order: its disk is up and of a size; what goes was there. -/
structure Pgr.ok (X : Pgr) (k : Nat) : Prop where
  up : X.D.down = false
  low : 3 ≤ X.D.firm.length
  high : X.D.firm.length ≤ 240
  loose : X.D.loose.length ≤ k
  inside : ∀ x ∈ X.D.loose, x.1 < X.D.firm.length
  gone : ∀ i, X.gone.has i = true → X.busy.has i = true
  low2 : ∀ i, X.busy.has i = true → 2 ≤ i ∧ i < X.D.firm.length
theorem Pgr.ok.fit {X : Pgr} {k : Nat} (h : X.ok k) (hk : k ≤ 100000) : X.fit := ⟨h.up, h.low, h.high, by have := h.loose; omega, h.inside⟩
theorem Pgr.used_has (X : Pgr) (i : Nat) : X.used.has i = (X.busy.has i && !X.gone.has i) := by rw [Pgr.used, BSet.has_minus]
theorem firstFrom_eq {s : BSet} : ∀ (m k i : Nat), k ≤ i → i < k + m → s.has i = false → (∀ j, k ≤ j → j < i → s.has j = true) → s.firstFrom k m = some i
  | 0, k, i, h1, h2, _, _ => by omega
  | m + 1, k, i, h1, h2, h3, h4 => by
    unfold BSet.firstFrom
    by_cases e : k = i
    · subst e; rw [h3]; rfl
    · rw [h4 k (by omega) (by omega)]
      exact firstFrom_eq m (k + 1) i (by omega) (by omega) h3 (fun j hj1 hj2 => h4 j (by omega) hj2)
theorem Pgr.new_busy {X : Pgr} {i : Nat} (p : Pg) (hi : i < 240) (j : Nat) : (X.new i p).busy.has j = (decide (j = i) || X.busy.has j) := by
  simp only [Pgr.busy, Pgr.new, BSet.has_or, BSet.has_add _ _ _ hi]
  cases decide (j = i) <;> simp
theorem Pgr.free_some {X : Pgr} {i : Nat} (h : X.free = some i) : 2 ≤ i ∧ i < X.D.firm.length ∧ X.busy.has i = false := by
  have := BSet.firstFrom_some _ _ _ h
  exact ⟨by omega, by omega, this.2.2⟩
theorem Pgr.new_ok {X : Pgr} {i k : Nat} (h : X.ok k) (p : Pg) (hi : X.free = some i) : (X.new i p).ok (k + 1) := by
  obtain ⟨h2, hl, hb⟩ := Pgr.free_some hi
  have hh := h.high
  refine ⟨h.up, h.low, h.high, by have := h.loose; simp [Pgr.new, Disk.write]; omega, fun x hx => ?_, fun j hj => ?_, fun j hj => ?_⟩
  · simp only [Pgr.new, Disk.write, List.mem_append, List.mem_singleton] at hx
    rcases hx with hx | rfl
    · exact h.inside x hx
    · exact hl
  · rw [Pgr.new_busy p (by omega), h.gone j hj]; simp
  · rw [Pgr.new_busy p (by omega)] at hj
    simp only [Bool.or_eq_true, decide_eq_true_eq] at hj
    rcases hj with rfl | hj
    · exact ⟨h2, hl⟩
    · exact h.low2 j hj
theorem Pgr.new_used {X : Pgr} {i k : Nat} (h : X.ok k) (p : Pg) (hi : X.free = some i) (j : Nat) : (X.new i p).used.has j = (decide (j = i) || X.used.has j) := by
  obtain ⟨h2, hl, hb⟩ := Pgr.free_some hi
  have hh := h.high
  rw [Pgr.used_has, Pgr.used_has, Pgr.new_busy p (by omega)]
  have hg : (X.new i p).gone = X.gone := rfl
  rw [hg]
  by_cases e : j = i
  · subst e
    have : X.gone.has j = false := by
      cases hq : X.gone.has j
      · rfl
      · rw [h.gone j hq] at hb; cases hb
    simp [this]
  · simp [e]
theorem View.new {X : Pgr} {T : Nat → Option Nd} {i k : Nat} (hX : X.ok k) (hT : View X T) {n : Nd} (h : n.right) (hi : X.free = some i) : View (X.new i (ndP n h)) (fun j => if j = i then some n else T j) := by
  obtain ⟨h2, hl, hb⟩ := Pgr.free_some hi
  have hh := hX.high
  intro j
  refine ⟨fun m hm => ?_, fun hm => ?_⟩
  · by_cases e : j = i
    · subst e
      simp only [↓reduceIte, Option.some.injEq] at hm
      subst hm
      exact ⟨hl, by rw [Pgr.new_busy _ (by omega)]; simp, h, by simp [Pgr.new, Disk.read_write]⟩
    · simp only [if_neg e] at hm
      obtain ⟨g1, g2, g3, g4⟩ := (hT j).1 m hm
      exact ⟨g1, by rw [Pgr.new_busy _ (by omega), g2]; simp, g3, by simp only [Pgr.new, Disk.read_write]; rw [if_neg (by omega)]; exact g4⟩
  · by_cases e : j = i
    · simp [e] at hm
    · simp only [if_neg e] at hm
      rw [Pgr.new_busy _ (by omega), (hT j).2 hm]; simp [e]
theorem minus_none (s : BSet) (i : Nat) : (s.minus BSet.none).has i = s.has i := by rw [BSet.has_minus, BSet.has_none]; simp
theorem or_none (s : BSet) (i : Nat) : (s.or BSet.none).has i = s.has i := by rw [BSet.has_or, BSet.has_none]; simp
theorem Pgr.commit_busy (X : Pgr) (root i : Nat) : (X.commit root).busy.has i = X.used.has i := or_none _ _
theorem Pgr.commit_used (X : Pgr) (root i : Nat) : (X.commit root).used.has i = X.used.has i := by
  rw [Pgr.used_has, Pgr.commit_busy]
  have : (X.commit root).gone = BSet.none := rfl
  rw [this, BSet.has_none]; simp
theorem Pgr.commit_ok {X : Pgr} {k : Nat} (h : X.ok k) (root : Nat) : (X.commit root).ok 0 := by
  have hf : (X.commit root).D.firm.length = X.D.firm.length := Disk.switch_firm _ _
  refine ⟨h.up, by rw [hf]; exact h.low, by rw [hf]; exact h.high, Nat.le_refl _, fun x hx => absurd hx (by show x ∉ ([] : List (Nat × Pg)); simp), fun i hi => ?_, fun i hi => ?_⟩
  · have : (X.commit root).gone = BSet.none := rfl
    rw [this, BSet.has_none] at hi; cases hi
  · rw [Pgr.commit_busy, Pgr.used_has] at hi
    simp only [Bool.and_eq_true] at hi
    rw [hf]; exact h.low2 i hi.1
theorem View.commit {X : Pgr} {T : Nat → Option Nd} {k : Nat} (hX : X.ok k) (hT : View X T) (root : Nat) : View (X.commit root) (fun j => if X.used.has j = true then T j else none) := by
  intro j
  have hf : (X.commit root).D.firm.length = X.D.firm.length := Disk.switch_firm _ _
  refine ⟨fun m hm => ?_, fun hm => ?_⟩
  · by_cases e : X.used.has j = true
    · simp only [if_pos e] at hm
      obtain ⟨g1, g2, g3, g4⟩ := (hT j).1 m hm
      have h2 := (hX.low2 j g2).1
      refine ⟨by rw [hf]; exact g1, by rw [Pgr.commit_busy]; exact e, g3, ?_⟩
      have := Disk.switch_read X.D (X.next root) hX.inside (by have := hX.low; omega) j
      rw [if_neg (by omega)] at this
      exact this.trans g4
    · simp only [if_neg e] at hm; cases hm
  · rw [Pgr.commit_busy]
    by_cases e : X.used.has j = true
    · simp only [if_pos e] at hm
      have := (hT j).2 hm
      rw [Pgr.used_has, this] at e
      cases e
    · simpa using e
end Go.Dyn
namespace Go.Dyn
open Go Go.RowKit Go.Proofs Go.Extern.Stop Go.Stop Go.Extern
set_option maxHeartbeats 400000
set_option maxRecDepth 100000 in
theorem as_1 (b : Nat) (s : ByteArray) (n : Int) (t a : Addr) (old : Value) (W : World) (hb : W.heap[b]? = some (.cells #[.string s, .iface 99 (.int .i64 n)] 152 (0, 0)))
    (ha : W.cell? a = some (.pointer (some t))) (ht : W.cell? t = some old) (hf : W.frozen? t = false) :
    Calls Tryz.prog 96 #[.iface 150 (.pointer (some ⟨b, 0, none⟩)), .iface 120 (.pointer (some t)), .agg #[hd 120, .pointer (some a), .int .u64 150], .iface 195 (.agg #[hd 99])] W fun e w' =>
      e = .returned (.bool true) ∧ w' = ((W.alloc (.cells #[hd 120, .pointer (some a), .int .u64 150] 166)).alloc (.cells #[.int .i64 n] 99)).setCell t (.int .i64 n) := by
  have h10 := @run_callFunc_extern Tryz.prog 114 _ ReflectliteType.typeOf Tryz.func114 (by kernel_rfl) (by kernel_rfl) (by kernel_rfl) (by kernel_rfl)
  have h35 := @run_callFunc_extern Tryz.prog 198 _ (ReflectliteType.relation "AssignableTo" ReflectliteType.assignableTo) Tryz.func198 (by kernel_rfl) (by kernel_rfl) (by kernel_rfl) (by kernel_rfl)
  have h11 := @run_callFunc_extern Tryz.prog 121 _ (ReflectliteValue.method (ReflectliteValue.valueError "reflectlite.Value.Elem" 0) ReflectliteValue.elem) Tryz.func121 (by kernel_rfl) (by kernel_rfl) (by kernel_rfl) (by kernel_rfl)
  have h12 := @run_callFunc_extern Tryz.prog 122 _ ReflectliteValue.set Tryz.func122 (by kernel_rfl) (by kernel_rfl) (by kernel_rfl) (by kernel_rfl)
  have h6 := @run_callFunc_extern Tryz.prog 93 _ (fun args => ReflectliteValue.unpack (args.getD 0 (.tuple #[]))) Tryz.func93 (by kernel_rfl) (by kernel_rfl) (by kernel_rfl) (by kernel_rfl)
  have tT := typeOfT
  have tE := typeOfE
  have mA := methodAssignable
  have aT := assignTE
  have aE := assignEE
  have vE := valueOfE
  have nT := noAsT
  have uT := hasUnT
  have mU := methodUnT
  have hbl : b < W.heap.size := (Array.getElem?_eq_some_iff.1 hb).1
  have htl : t.block < W.heap.size := World.block_lt_of_cell? W t ht
  have hal : a.block < W.heap.size := World.block_lt_of_cell? W a ha
  have el := elemVP a t (W.alloc (.cells #[hd 120, .pointer (some a), .int .u64 150] 166)) (by rw [World.cell?_alloc_lt _ _ a hal]; exact ha)
  have st := setE t ⟨W.heap.size + 1, 0, none⟩ n old ((W.alloc (.cells #[hd 120, .pointer (some a), .int .u64 150] 166)).alloc (.cells #[.int .i64 n] 99)) (by rw [World.cell?_alloc_at _ _ _ _ (by simp)]; rfl)
    (by rw [World.cell?_alloc_lt _ _ t (by simp; omega), World.cell?_alloc_lt _ _ t htl]; exact ht)
    (by rw [World.frozen?_alloc_old _ _ t (by simp; omega), World.frozen?_alloc_old _ _ t (Nat.ne_of_lt htl)]; exact hf)
  have un := fun w h => tag_Unwrap b s (.iface 99 (.int .i64 n)) w h
  have Hun := Lib.hid un
  have Hb := Lib.hid hb
  clear un hb
  go_enter Tryz.func96, Tryz.ntmps96
  go_wp2
  refine wp_loop_rounds 2 ?_
  rw [rounds_succ]
  go_wp2_with (go_at_call 193; refine (Hun.out _ (by rw [Below.heap_alloc _ _ _ hbl]; exact Hb.out)).mono ?_; rintro e w' ⟨rfl, rfl⟩)
  rw [rounds_succ]
  go_wp2
  go_ret
  exact ⟨rfl, rfl⟩

/-- What errors.As needs of the package-level variables: its type of error. -/
def GV (w : World) : Prop := w.cell? ⟨0, 0, none⟩ = some (.iface 195 (.agg #[hd 25]))
set_option maxRecDepth 100000 in
theorem As_1 (b : Nat) (s : ByteArray) (n : Int) (t : Addr) (old : Value) (w : World) (hg : GV w) (hb : w.heap[b]? = some (.cells #[.string s, .iface 99 (.int .i64 n)] 152 (0, 0)))
    (ht : w.cell? t = some old) (hf : w.frozen? t = false) :
    Calls Tryz.prog 60 #[.iface 150 (.pointer (some ⟨b, 0, none⟩)), .iface 120 (.pointer (some t))] w fun e w' =>
      e = .returned (.bool true) ∧ w' = ((((w.alloc (.cells #[.pointer (some t)] 120)).alloc (.cells #[hd 120, .pointer (some ⟨w.heap.size, 0, none⟩), .int .u64 150] 166)).alloc (.cells #[hd 120, .pointer (some ⟨w.heap.size, 0, none⟩), .int .u64 150] 166)).alloc (.cells #[.int .i64 n] 99)).setCell t (.int .i64 n) := by
  have h6 := @run_callFunc_extern Tryz.prog 93 _ (fun args => ReflectliteValue.unpack (args.getD 0 (.tuple #[]))) Tryz.func93 (by kernel_rfl) (by kernel_rfl) (by kernel_rfl) (by kernel_rfl)
  have h7 := @run_callFunc_extern Tryz.prog 94 _ (ReflectliteValue.methodAny (ReflectliteValue.valueError "reflectlite.Value.Type" 0) (fun t _ _ _ => ReflectliteType.toType t)) Tryz.func94 (by kernel_rfl) (by kernel_rfl) (by kernel_rfl) (by kernel_rfl)
  have h8 := @run_callFunc_extern Tryz.prog 95 _ (ReflectliteValue.method (ReflectliteValue.valueError "reflectlite.Value.IsNil" 0) ReflectliteValue.isNil) Tryz.func95 (by kernel_rfl) (by kernel_rfl) (by kernel_rfl) (by kernel_rfl)
  have h27 := @run_callFunc_extern Tryz.prog 188 _ (ReflectliteType.abiMethod fun t => do pure (.int .u8 (← Rtype.kind t))) Tryz.func188 (by kernel_rfl) (by kernel_rfl) (by kernel_rfl) (by kernel_rfl)
  have h37 := @run_callFunc_extern Tryz.prog 200 _ (ReflectliteType.method ReflectliteType.elem) Tryz.func200 (by kernel_rfl) (by kernel_rfl) (by kernel_rfl) (by kernel_rfl)
  have h38 := @run_callFunc_extern Tryz.prog 201 _ (ReflectliteType.relation "Implements" ReflectliteType.implements_) Tryz.func201 (by kernel_rfl) (by kernel_rfl) (by kernel_rfl) (by kernel_rfl)
  have f6 := valueOfP
  have f7 := typeP
  have mK := methodKind
  have mE := methodElem
  have mI := methodImplements
  have k27 := kindP
  have k25 := kindE
  have e27 := elemP
  have i25 := implE
  have htl : t.block < w.heap.size := World.block_lt_of_cell? w t ht
  have hbl : b < w.heap.size := (Array.getElem?_eq_some_iff.1 hb).1
  have n8 := isNilP ⟨w.heap.size, 0, none⟩ t ((w.alloc (.cells #[.pointer (some t)] 120)).alloc (.cells #[hd 120, .pointer (some ⟨w.heap.size, 0, none⟩), .int .u64 150] 166)) (by simp)
  have hlt : 0 < w.heap.size := World.block_lt_of_cell? w _ hg
  have hg2 : ((w.alloc (.cells #[.pointer (some t)] 120)).alloc (.cells #[hd 120, .pointer (some ⟨w.heap.size, 0, none⟩), .int .u64 150] 166)).cell? ⟨0, 0, none⟩ = some (.iface 195 (.agg #[hd 25])) := by
    rw [World.cell?_alloc_lt _ _ ⟨0, 0, none⟩ (by simp), World.cell?_alloc_lt _ _ ⟨0, 0, none⟩ hlt]; exact hg
  have Ha := Lib.hid (as_1 b s n t ⟨w.heap.size, 0, none⟩ old ((w.alloc (.cells #[.pointer (some t)] 120)).alloc (.cells #[hd 120, .pointer (some ⟨w.heap.size, 0, none⟩), .int .u64 150] 166))
    (by rw [Below.heap_alloc _ _ _ (by simp; omega), Below.heap_alloc _ _ _ hbl]; exact hb)
    (by rw [World.cell?_alloc_lt _ _ _ (by simp)]; simp)
    (by rw [World.cell?_alloc_lt _ _ t (by simp; omega), World.cell?_alloc_lt _ _ t htl]; exact ht)
    (by rw [World.frozen?_alloc_old _ _ t (by simp; omega), World.frozen?_alloc_old _ _ t (Nat.ne_of_lt htl)]; exact hf))
  clear hg hb ht hf
  go_enter Tryz.func60, Tryz.ntmps60
  go_wp2_with (go_at_call 96; refine Ha.out.mono ?_; rintro e w' ⟨rfl, rfl⟩)
  go_ret
  exact ⟨rfl, rfl⟩
theorem tag_Num_1 (b : Nat) (s : ByteArray) (n : Int) (w : World) (hg : GV w) (hb : w.heap[b]? = some (.cells #[.string s, .iface 99 (.int .i64 n)] 152 (0, 0))) :
    Calls Tryz.prog 17 #[.iface 150 (.pointer (some ⟨b, 0, none⟩))] w fun e w' => e = .returned (.int .i64 n) ∧ Below w.heap.size w w' := by
  have hbl : b < w.heap.size := (Array.getElem?_eq_some_iff.1 hb).1
  have hlt : 0 < w.heap.size := World.block_lt_of_cell? w _ hg
  have Ha := Lib.hid (As_1 b s n ⟨w.heap.size, 0, none⟩ (.int .i64 0) (w.alloc (.cells #[.int .i64 0] 99)) (by show _ = _; rw [World.cell?_alloc_lt _ _ _ hlt]; exact hg) (by rw [Below.heap_alloc _ _ _ hbl]; exact hb) (by simp) (frozen_of_row _ _ _ _ _ (heap_alloc_new _ _)))
  clear hg hb
  go_enter Tryz.func17, Tryz.ntmps17
  go_wp2_with (go_at_call 60; refine Ha.out.mono ?_; rintro e w' ⟨rfl, rfl⟩)
  go_ret
  exact ⟨rfl, (((((Below.refl _ _).alloc (Nat.le_refl _) _).alloc (by simp) _).alloc (by simp; omega) _).alloc (by simp; omega) _).alloc (by simp; omega) _⟩
end Go.Dyn
namespace Go.Dyn
open Go Go.RowKit Go.Proofs
set_option maxRecDepth 20000
set_option maxHeartbeats 1000000
theorem GV.keep {w0 w : World} {L : List It} (h : GV w0) (hS : Chg w0 w [] L) : GV w := hS.old h (by simp)
theorem tag_Num_err {c be : Nat} {w : World} (hg : c = 0 ∨ GV w) (h : ∀ it ∈ errL c be, it.ok w) : Calls Tryz.prog 17 #[errV c be] w fun e w' => e = .returned (.int .i64 (c : Int)) ∧ Below w.heap.size w w' := by
  by_cases h0 : c = 0
  · subst h0
    exact (tag_Num_nil w).mono fun e w' h => ⟨h.1, by rw [← h.2]; exact Below.refl _ _⟩
  · have hg' : GV w := hg.resolve_left h0
    have h1 := h (errIt [be] (c : Int) (.iface 150 (ptr be))) (by simp [errL, h0])
    obtain ⟨s, v', h2, h3, h4⟩ := h1
    have h4' : v' = .iface 99 (.int .i64 (c : Int)) := h4
    subst h4'
    have := tag_Num_1 be s (c : Int) w hg' h3
    unfold errV
    rw [if_neg h0]
    exact this
theorem zero_unread : ¬ readOk Pg.zero.b := by
  show ¬ (beVal (Pg.zero.b.take 4) = crcL (Pg.zero.b.drop 4))
  decide +kernel
theorem Disk.new_read (n j : Nat) : (Disk.new n).read j = Pg.zero := by
  show (List.replicate n Pg.zero).getD j Pg.zero = Pg.zero
  rw [List.getD_eq_getElem?_getD, List.getElem?_replicate]
  split <;> rfl
def S1 : Sup := ⟨1, 0, BSet.none⟩
/-- A pager on a new disk. -/
def X0 (n : Nat) : Pgr := ⟨(Disk.new n).switch S1, S1, BSet.none, BSet.none⟩
theorem X0_busy (n i : Nat) : (X0 n).busy.has i = false := by
  show (BSet.none.or BSet.none).has i = false
  rw [or_none, BSet.has_none]
theorem X0_firm (n : Nat) : (X0 n).D.firm.length = n := by
  show ((Disk.new n).switch S1).firm.length = n
  rw [Disk.switch_firm]; simp [Disk.new]
theorem X0_ok {n : Nat} (h3 : 3 ≤ n) (h : n ≤ 240) : (X0 n).ok 0 := by
  have hf := X0_firm n
  refine ⟨rfl, by rw [hf]; exact h3, by rw [hf]; exact h, Nat.le_refl _, fun x hx => absurd hx (by show x ∉ ([] : List (Nat × Pg)); simp), fun i hi => ?_, fun i hi => ?_⟩
  · have : (X0 n).gone = BSet.none := rfl
    rw [this, BSet.has_none] at hi; cases hi
  · rw [X0_busy] at hi; cases hi
theorem X0_view (n : Nat) : View (X0 n) (fun _ => none) := by
  intro i
  exact ⟨fun m hm => absurd hm (by simp), fun _ => X0_busy n i⟩
theorem free_eq {X : Pgr} {i : Nat} (h2 : 2 ≤ i) (hl : i < X.D.firm.length) (hb : X.busy.has i = false) (h : ∀ j, 2 ≤ j → j < i → X.busy.has j = true) : X.free = some i :=
  firstFrom_eq _ _ _ h2 (by omega) hb h
theorem X0_free {n : Nat} (h3 : 3 ≤ n) : (X0 n).free = some 2 := free_eq (by omega) (by rw [X0_firm]; omega) (X0_busy n 2) (fun j h1 h2 => by omega)
theorem law_New (n : Nat) (w : World) (h1 : 1 ≤ n) (h2 : n ≤ 240) : Calls Tryz.prog 12 #[.int .i64 (n : Int)] w fun e w' => ∃ d bf, e = .returned (.tuple #[ptr d, .nilIface]) ∧ Chg w w' [] (diskL d bf none 0 (Disk.new n)) := disk_New n w h1 h2
theorem law_Format {n d bf : Nat} {w : World} (hO : Own w (diskL d bf none 0 (Disk.new n))) (h3 : 3 ≤ n) (h : n ≤ 240) : Calls Tryz.prog 13 #[ptr d] w fun e w' => ∃ p, e = .returned (.tuple #[ptr p, .nilIface]) ∧ Chg w w' (ids (diskL d bf none 0 (Disk.new n))) (pagerL p d bf none 0 (X0 n)) :=
  pager_Format hO rfl (by simpa [Disk.new] using h3) (by simp [Disk.new]; omega) (by simp [Disk.new]) (by simp [Disk.new]) (by rw [Disk.new_read]; exact zero_unread) (by rw [Disk.new_read]; exact zero_unread)
end Go.Dyn
namespace Go.Dyn
open Go Go.RowKit Go.Proofs
set_option maxRecDepth 20000
set_option maxHeartbeats 1000000
def v12 : ByteArray := ⟨#[49, 50, 51, 52, 53, 54, 55, 56, 57, 48, 49, 50]⟩
theorem leaf1 (k : Nat) (hk : k < 4294967296) (v : ByteArray) (hv : v.size = 12) : (Nd.mk [k] [v] []).right := ⟨⟨by simpa using hk, by simp, by simp⟩, .inl ⟨rfl, rfl, by simpa using hv⟩⟩
theorem awake11 (w : World) : Calls Tryz.prog 11 #[] w fun e w' => e = .returned (.bool true) ∧ Below w.heap.size w w' := by
  have h1 := leaf1 1 (by omega) v12 rfl
  have hX1 := Pgr.new_ok (X0_ok (n := 10) (by omega) (by omega)) (ndP _ h1) (X0_free (by omega))
  have hT1 := View.new (X0_ok (n := 10) (by omega) (by omega)) (X0_view 10) h1 (X0_free (by omega))
  have hU2 : ((X0 10).new 2 (ndP _ h1)).used.has 2 = true := by rw [Pgr.new_used (X0_ok (n := 10) (by omega) (by omega)) _ (X0_free (by omega))]; simp
  have hL2 : looked (fun j => if j = 2 then some (Nd.mk [1] [v12] []) else none) ((X0 10).new 2 (ndP _ h1)).used.has 2 = (0, ⟨[2], 1⟩) := by
    simp [looked, lookP, Nd.bad, withinB, hU2]
  have HD := Lib.hid (fun (w : World) (d bf p A c) (hO : Own w (pagerL p d bf A c ((X0 10).new 2 (ndP _ h1)))) => check_Depth (root := 2) hO (hX1.fit (by omega)) hT1)
  have HS := Lib.hid (fun (w : World) (d bf p A c) (hO : Own w (pagerL p d bf A c ((X0 10).new 2 (ndP _ h1)))) => check_Sound (root := 0) hO (hX1.fit (by omega)) hT1)
  rw [hL2] at HD
  have hL0 : looked (fun j => if j = 2 then some (Nd.mk [1] [v12] []) else none) ((X0 10).new 2 (ndP _ h1)).used.has 0 = (0, ⟨[], 0⟩) := rfl
  rw [hL0] at HS
  have HP := Lib.hid (fun (w : World) (d bf p) (hO : Own w (pagerL p d bf none 0 (X0 10))) => tree_Put0 hO ((X0_ok (n := 10) (by omega) (by omega)).fit (by omega)) 1 v12 h1 2 (X0_free (by omega)))
  have HF := Lib.hid (fun (w : World) (d bf) (hO : Own w (diskL d bf none 0 (Disk.new 10))) => law_Format hO (by omega) (by omega))
  have HN := Lib.hid (fun w => law_New 10 w (by omega) (by omega))
  have HE := Lib.hid (fun w => tag_Num_nil w)
  clear hX1 hT1 hU2 hL2 hL0
  generalize (X0 10).new 2 (ndP _ h1) = X1 at *
  generalize X0 10 = X00 at *
  generalize Disk.new 10 = D0 at *
  clear h1
  go_enter Tryz.func11, Tryz.ntmps11
  go_wp2_with (first | (go_at_call 12; refine (HN.out _).mono ?_; rintro e w1 ⟨d, bf, rfl, hS1⟩) | (go_at_call 13; refine (HF.out _ _ _ hS1.ownL).mono ?_; rintro e w2 ⟨p, rfl, hB2⟩; have hS2 := hS1.after hB2; clear hS1 hB2) | (go_at_call 23; refine (HP.out _ _ _ _ hS2.ownL).mono ?_; rintro e w3 ⟨A, c, rfl, hB3⟩; have hS3 := hS2.after hB3; clear hS2 hB3) | (go_at_call 20; refine (HD.out _ _ _ _ _ _ hS3.ownL).mono ?_; rintro e w4 ⟨be, rfl, hB4⟩; rw [errV0]; have hS4 := hS3.pure hB4; clear hB4) | (go_at_call 17; refine (HE.out _).mono ?_; rintro e w' ⟨rfl, rfl⟩) | (go_at_call 18; refine (HS.out _ _ _ _ _ _ hS4.ownL).mono ?_; rintro e w5 ⟨be5, rfl, hB5⟩; rw [errV0]; have hS5 := hS4.pure hB5; clear hB5))
  go_ret
  exact ⟨rfl, hS5.below⟩
end Go.Dyn
namespace Go.Dyn
open Go Go.RowKit Go.Proofs
set_option maxRecDepth 20000
set_option maxHeartbeats 1000000
def keysTo (f k : Nat) : List Nat := (List.range k).map fun i => f + i
@[simp] theorem keysTo_length (f k : Nat) : (keysTo f k).length = k := by simp [keysTo]
theorem keysTo_succ (f k : Nat) : keysTo f (k + 1) = keysTo f k ++ [f + k] := by simp [keysTo, List.range_succ]
def leafN (f m : Nat) : Nd := ⟨keysTo f m, List.replicate m v12, []⟩
theorem leafN_right {f m : Nat} (hf : f ≤ 1000) (hm : m ≤ 7) : (leafN f m).right := by
  refine ⟨⟨fun k hk => ?_, ?_, by simp [leafN]; omega⟩, .inl ⟨rfl, by simp [leafN], fun v hv => ?_⟩⟩
  · simp only [leafN, keysTo, List.mem_map, List.mem_range] at hk
    omega
  · simp only [leafN, keysTo]
    exact List.Pairwise.map _ (fun a b h => by omega) List.pairwise_lt_range
  · simp only [leafN, List.mem_replicate] at hv
    rw [hv.2]; rfl
theorem law_leaf {p d bf b11 : Nat} {A : Option Addr} {c : Nat} {X : Pgr} {w : World} (hO : Own w (blk b11 #[ptr p] 28 :: pagerL p d bf A c X)) (hX : X.fit) (f m i : Nat) (h : (leafN f m).right) (hf : f ≤ 1000) (hm : m ≤ 7) (hi : X.free = some i) :
    Calls Tryz.prog 14 #[.int .i64 (f : Int), .int .i64 (m : Int), ptr b11] w fun e w' => ∃ A' c', e = .returned (.int .i64 (i : Int)) ∧ Chg w w' (ids (pagerL p d bf A c X)) (pagerL p d bf A' c' (X.new i (ndP _ h))) := by
  have hS0 := ((Chg.nil w []).addNil 1 3).addNil 1 9
  have hO1 := hO.start.tail.ownL
  have HB := Lib.hid (hO.all (blk b11 #[ptr p] 28) (by simp))
  have HO := Lib.hid hO1
  have HN : Hid (∀ (w : World) (hO : Own w (pagerL p d bf A c X)), Calls Tryz.prog 16 #[ptr p, strL (leafN f m).bytes] w fun e w' => ∃ A' c', e = .returned (.tuple #[.int .i64 (i : Int), .nilIface]) ∧ Chg w w' (ids (pagerL p d bf A c X)) (pagerL p d bf A' c' (X.new i (ndP _ h)))) := Lib.hid (fun (w : World) (hO : Own w (pagerL p d bf A c X)) => pager_New hO hX.up hX.low hX.high (by have := hX.loose; omega) ⟨(leafN f m).bytes.toArray⟩ (Nd.bytes_length h) i hi)
  have HL := Lib.hid (fun (w : World) (x y z : Sl) (hn : NdR w x y z (leafN f m)) => node_Lay hn h)
  clear hO hO1 hX
  generalize X.new i (ndP _ h) = X2 at *
  clear h
  generalize pagerL p d bf A c X = L0 at *
  go_enter Tryz.func14, Tryz.ntmps14
  go_wp2_with (first | (guard_target = wpList _ _ _ (Oper.mk _ (Op.alloc 34) _ _ _ none :: _) _ _; refine wl_alloc_agg rfl hS0 rfl rfl ?_; intro b6 w1 hS1; clear hS0))
  go_loopw [7] (fun v w' => ∃ (k : Nat) (A : Option Addr) (c : Nat) (B : Option Addr) (g : Nat), k ≤ m ∧ v = .int .i64 k ∧ Chg w w' [] [slIt 1 3 A k c (intsV (keysTo f k)), slIt 1 9 B k g (strsV (List.replicate k v12)), blk b6 #[.slice A k c, .slice B k g, .slice none 0 0] 34]) (fun v _ => m - (intOf v).toNat)
  case atStart => exact ⟨0, none, 0, none, 0, by omega, rfl, hS1.arr [2, 1, 0] rfl⟩
  case round =>
    obtain ⟨k, A, c, B, g, hk, rfl, hS⟩ := hrel
    clear hS1
    by_cases hlt : k < m
    · have Hk : Hid (intsV (keysTo f k) ++ [.int .i64 ((f : Int) + (k : Int))] = intsV (keysTo f (k + 1))) := Lib.hid (by rw [keysTo_succ]; simp [intsV])
      have Hv : Hid (strsV (List.replicate k v12) ++ [.string v12] = strsV (List.replicate (k + 1) v12)) := Lib.hid (by rw [List.replicate_succ']; simp [strsV])
      generalize intsV (keysTo f k) = ik at *
      generalize hik2 : intsV (keysTo f (k + 1)) = ik2 at *
      have Hik2 := Lib.hid hik2
      clear hik2
      generalize strsV (List.replicate k v12) = sk at *
      generalize hsk2 : strsV (List.replicate (k + 1) v12) = sk2 at *
      have Hsk2 := Lib.hid hsk2
      clear hsk2
      go_wp2_with (first | ((first | (guard_target = wpList _ _ _ (Oper.mk _ (Op.load 31 _) _ _ _ none :: _) _ _) | (guard_target = wpList _ _ _ (Oper.mk _ (Op.load 31 _) _ _ _ (some _) :: _) _ _; (fail_if_success (fail_if_success go_big_want)); refine wl_unguard rfl ?_)); refine wl_load1_2 hS rfl rfl rfl rfl ?_) | (guard_target = wpList _ _ _ (Oper.mk _ (Op.buildSlice _ _ _) _ _ _ none :: _) _ _; first | (refine wl_buildSlice1 (v := .int .i64 ((f : Int) + (k : Int))) hS rfl rfl rfl rfl rfl ?_; intro b2 w2 hS2; clear hS) | (refine wl_buildSlice1 (v := .string v12) hS4 rfl rfl rfl rfl rfl ?_; intro b5 w5 hS5; clear hS4)) | (guard_target = wpList _ _ _ (Oper.mk _ (Op.call _) _ _ _ none :: _) _ _; first | (refine wl_append1 0 hS2 rfl rfl rfl rfl rfl rfl rfl (by simp [Value.cells, Value.oneCell']) (by omega) (by unfold maxLen; omega) ?_; intro A' c' w3 hS3; clear hS2; simp only [Value.cells] at hS3; rw [Hk.out] at hS3) | (refine wl_append1 2 hS5 rfl rfl rfl rfl rfl rfl rfl (by simp [Value.cells, Value.oneCell']) (by omega) (by unfold maxLen; omega) ?_; intro B' g' w6 hS6; clear hS5; simp only [Value.cells] at hS6; rw [Hv.out] at hS6)) | (guard_target = wpList _ _ _ (Oper.mk _ (Op.store 31 _ _) _ _ _ none :: _) _ _; refine wl_store1_2 (v := .slice A' (k + 1) c') hS3 rfl rfl rfl rfl rfl (by simp) ?_; intro w4 hS4; clear hS3) | ((first | (guard_target = wpList _ _ _ (Oper.mk _ (Op.load 32 _) _ _ _ none :: _) _ _) | (guard_target = wpList _ _ _ (Oper.mk _ (Op.load 32 _) _ _ _ (some _) :: _) _ _; (fail_if_success (fail_if_success go_big_want)); refine wl_unguard rfl ?_)); refine wl_load1_0 hS4 rfl rfl rfl rfl ?_) | (guard_target = wpList _ _ _ (Oper.mk _ (Op.store 32 _ _) _ _ _ none :: _) _ _; refine wl_store1_1 (v := .slice B' (k + 1) g') hS6 rfl rfl rfl rfl rfl (by simp) ?_; intro w7 hS7; clear hS6))
      exact ⟨⟨k + 1, A', c', B', g', by omega, by go_num, by rw [Hik2.out, Hsk2.out]; exact hS7.arr [2, 1, 0] rfl⟩, by simp [intOf]; omega⟩
    · have : k = m := by omega
      subst this
      have hS2 : Chg w wr [] (ndL ⟨A, c⟩ ⟨B, g⟩ ⟨none, 0⟩ (leafN f k) ++ [blk b6 (ndV ⟨A, c⟩ ⟨B, g⟩ ⟨none, 0⟩ (leafN f k)) 34]) := by
        have h1 := (hS.addNil 1 3).arr [1, 2, 0, 3] rfl
        have e1 : (leafN f k).keys.length = k := by simp [leafN]
        have e2 : (leafN f k).vals.length = k := by simp [leafN]
        have e3 : (leafN f k).kids.length = 0 := rfl
        unfold ndL ndV
        rw [e1, e2, e3]
        exact h1
      clear hS
      have hNd := ndL_read hS2
      have hS3 := hS2.sub (List.sublist_append_right _ _)
      have HLx := Lib.hid (fun (w' : World) (hw : Chg wr w' [] []) => HL.out w' _ _ _ (hNd.old hw))
      have HZ : Hid ((ndV ⟨A, c⟩ ⟨B, g⟩ ⟨none, 0⟩ (leafN f k)).size = 3) := Lib.hid rfl
      clear hS2 hNd
      have hN0 := Chg.nil wr []
      have hcp : wr.cell? ⟨b11, 0, none⟩ = some (ptr p) := (blk_cell (hS3.oldBlk HB.out (by simp)) 0)
      have Hcp := Lib.hid (fun (w' : World) (hw : Chg wr w' [] []) => hw.old hcp (by simp))
      clear hcp
      unfold strL at *
      generalize (leafN f k).bytes = bts at *
      generalize ndV ⟨A, c⟩ ⟨B, g⟩ ⟨none, 0⟩ (leafN f k) = nv at *
      go_wp2_with (first | ((first | (guard_target = wpList _ _ _ (Oper.mk _ (Op.load 34 _) _ _ _ none :: _) _ _) | (guard_target = wpList _ _ _ (Oper.mk _ (Op.load 34 _) _ _ _ (some _) :: _) _ _; (fail_if_success (fail_if_success go_big_want)); refine wl_unguard rfl ?_)); refine wl_loadw_0 hS3 rfl rfl rfl HZ.out ?_) | (go_at_call 15; refine (HLx.out _ hN0).mono ?_; rintro e w2 ⟨rfl, hB2⟩; have hS4 := hS3.bel hB2; have hcp := Hcp.out _ (hN0.bel hB2); clear hS3) | (go_at_call 16; refine (HN.out _ (HO.out.keep hS4)).mono ?_; rintro e w3 ⟨A', c', rfl, hS5⟩))
      go_ret
      exact ⟨A', c', rfl, HO.out.thenC hS4 hS5⟩
end Go.Dyn
