/- Part of the proof that CheckWrong returns true, whatever the four bytes; tied to the program's own text (part 3 of 14) -/
import Derived.Test.YtgnkmahdcomjcaaGreatDoorCW02
import Derived.KernelRfl
import Derived.Laws.BytesArg
import Derived.Maps.Keyed
import Derived.MapKept
set_option linter.unusedVariables false
set_option linter.unusedSimpArgs false
namespace Go.Dyn
open Go Go.RowKit

/-- Bytes as cells. -/
def u8s (l : List UInt8) : List Value := l.map fun x => .int .u8 (x.toNat : Int)
@[simp] theorem u8s_length (l : List UInt8) : (u8s l).length = l.length := by simp [u8s]
theorem u8s_one {l : List UInt8} {v : Value} (h : v ∈ (u8s l).toArray) : v.oneCell' = true := by
  have h : v ∈ u8s l := by simpa using h
  obtain ⟨x, _, rfl⟩ := List.mem_map.1 h
  rfl
theorem u8s_at (l : List UInt8) (k : Nat) (h : k < l.length) : (u8s l).toArray[k]? = some (.int .u8 ((l[k]'h).toNat : Int)) := by simp [u8s, h]
theorem u8s_getD (l : List UInt8) (k : Nat) (h : k < l.length) : (u8s l).toArray[k]? = some (.int .u8 ((l.getD k 0).toNat : Int)) := by simp [u8s, h]

structure BSet where
  b : List UInt8
  len : b.length = 30
structure Pg where
  b : List UInt8
  len : b.length = 128
def BSet.enc (s : BSet) : Array Value := (u8s s.b).toArray
def Pg.enc (s : Pg) : Array Value := (u8s s.b).toArray
@[simp] theorem BSet.size_enc (s : BSet) : s.enc.size = 30 := by simp [BSet.enc, s.len]
@[simp] theorem Pg.size_enc (s : Pg) : s.enc.size = 128 := by simp [Pg.enc, s.len]
theorem BSet.one {s : BSet} : ∀ v, v ∈ s.enc → v.oneCell' = true := fun _ h => u8s_one h
theorem Pg.one {s : Pg} : ∀ v, v ∈ s.enc → v.oneCell' = true := fun _ h => u8s_one h
def BSet.byte (s : BSet) (k : Nat) : UInt8 := s.b.getD k 0
def Pg.byte (s : Pg) (k : Nat) : UInt8 := s.b.getD k 0
theorem BSet.at_ (s : BSet) (k : Nat) (h : k < 30) : s.enc[k]? = some (.int .u8 ((s.byte k).toNat : Int)) := u8s_getD s.b k (by rw [s.len]; exact h)
theorem Pg.at_ (s : Pg) (k : Nat) (h : k < 128) : s.enc[k]? = some (.int .u8 ((s.byte k).toNat : Int)) := u8s_getD s.b k (by rw [s.len]; exact h)
theorem BSet.ext {s t : BSet} (h : s.b = t.b) : s = t := by cases s; cases t; simp at h; subst h; rfl
theorem Pg.ext {s t : Pg} (h : s.b = t.b) : s = t := by cases s; cases t; simp at h; subst h; rfl
def BSet.none : BSet := ⟨List.replicate 30 0, by simp⟩
theorem BSet.enc_none : (Array.replicate 30 (Value.int .u8 0)) = BSet.none.enc := by kernel_rfl
def Pg.zero : Pg := ⟨List.replicate 128 0, by simp⟩
theorem Pg.enc_zero : (Array.replicate 128 (Value.int .u8 0)) = Pg.zero.enc := by kernel_rfl

/-- The bit of a number. -/
def bitU (n : Nat) : UInt8 := (1 : UInt8) <<< (UInt8.ofNat (n % 8))
theorem mod8 (n : Nat) : n % 8 = 0 ∨ n % 8 = 1 ∨ n % 8 = 2 ∨ n % 8 = 3 ∨ n % 8 = 4 ∨ n % 8 = 5 ∨ n % 8 = 6 ∨ n % 8 = 7 := by omega
theorem bitU_toNat (n : Nat) : (bitU n).toNat = 2 ^ (n % 8) := by
  unfold bitU
  rcases mod8 n with h | h | h | h | h | h | h | h <;> rw [h] <;> rfl

def BSet.has (s : BSet) (n : Nat) : Bool := decide (n < 240) && ((s.b.getD (n / 8) 0 &&& bitU n) != 0)
def BSet.hasI (s : BSet) (n : Int) : Bool := decide (0 ≤ n) && s.has n.toNat
def BSet.add (s : BSet) (n : Nat) : BSet := ⟨s.b.set (n / 8) (s.b.getD (n / 8) 0 ||| bitU n), by simp [s.len]⟩
def BSet.del (s : BSet) (n : Nat) : BSet := ⟨s.b.set (n / 8) (s.b.getD (n / 8) 0 &&& ~~~ bitU n), by simp [s.len]⟩
def orL (l m : List UInt8) : List UInt8 := (List.range l.length).map fun i => l.getD i 0 ||| m.getD i 0
def BSet.or (s t : BSet) : BSet := ⟨orL s.b t.b, by simp [orL, s.len]⟩

theorem bit_and_bit (i j : Nat) (hi : i < 8) (hj : j < 8) (x : UInt8) : ((x ||| (1 : UInt8) <<< UInt8.ofNat i) &&& ((1 : UInt8) <<< UInt8.ofNat j) != 0) = (decide (i = j) || ((x &&& ((1 : UInt8) <<< UInt8.ofNat j)) != 0)) := by
  have h : ∀ (i j : Fin 8) (x : BitVec 8), ((UInt8.ofBitVec x ||| (1 : UInt8) <<< UInt8.ofNat i.1) &&& ((1 : UInt8) <<< UInt8.ofNat j.1) != 0) = (decide (i.1 = j.1) || ((UInt8.ofBitVec x &&& ((1 : UInt8) <<< UInt8.ofNat j.1)) != 0)) := by decide +kernel
  simpa using h ⟨i, hi⟩ ⟨j, hj⟩ x.toBitVec
theorem bit_not_bit (i j : Nat) (hi : i < 8) (hj : j < 8) (x : UInt8) : ((x &&& ~~~ ((1 : UInt8) <<< UInt8.ofNat i)) &&& ((1 : UInt8) <<< UInt8.ofNat j) != 0) = (!decide (i = j) && ((x &&& ((1 : UInt8) <<< UInt8.ofNat j)) != 0)) := by
  have h : ∀ (i j : Fin 8) (x : BitVec 8), ((UInt8.ofBitVec x &&& ~~~ ((1 : UInt8) <<< UInt8.ofNat i.1)) &&& ((1 : UInt8) <<< UInt8.ofNat j.1) != 0) = (!decide (i.1 = j.1) && ((UInt8.ofBitVec x &&& ((1 : UInt8) <<< UInt8.ofNat j.1)) != 0)) := by decide +kernel
  simpa using h ⟨i, hi⟩ ⟨j, hj⟩ x.toBitVec
theorem bit_or (j : Nat) (hj : j < 8) (x y : UInt8) : ((x ||| y) &&& ((1 : UInt8) <<< UInt8.ofNat j) != 0) = (((x &&& ((1 : UInt8) <<< UInt8.ofNat j)) != 0) || ((y &&& ((1 : UInt8) <<< UInt8.ofNat j)) != 0)) := by
  have e : (x ||| y) &&& ((1 : UInt8) <<< UInt8.ofNat j) = (x &&& ((1 : UInt8) <<< UInt8.ofNat j)) ||| (y &&& ((1 : UInt8) <<< UInt8.ofNat j)) := by
    apply UInt8.toBitVec_inj.1
    simp [BitVec.and_or_distrib_right]
  rw [e]
  generalize x &&& ((1 : UInt8) <<< UInt8.ofNat j) = u
  generalize y &&& ((1 : UInt8) <<< UInt8.ofNat j) = v
  have h : (u ||| v = 0) ↔ (u = 0 ∧ v = 0) := by
    constructor
    · intro h
      have h1 := congrArg UInt8.toBitVec h
      have h2 : u.toBitVec ||| v.toBitVec = 0#8 := by simpa using h1
      rw [BitVec.or_eq_zero_iff] at h2
      exact ⟨UInt8.toBitVec_inj.1 h2.1, UInt8.toBitVec_inj.1 h2.2⟩
    · rintro ⟨rfl, rfl⟩; rfl
  have h2 : ((u ||| v) == 0) = ((u == 0) && (v == 0)) := by rw [Bool.eq_iff_iff]; simp [h]
  simp only [bne, h2]
  cases u == 0 <;> cases v == 0 <;> rfl

theorem BSet.has_add (s : BSet) (n m : Nat) (hn : n < 240) : (s.add n).has m = (decide (m = n) || s.has m) := by
  unfold BSet.has BSet.add bitU
  by_cases hm : m < 240
  · simp only [hm, decide_true, Bool.true_and]
    by_cases e : m / 8 = n / 8
    · have hl : n / 8 < s.b.length := by rw [s.len]; omega
      rw [e]
      have : (s.b.set (n / 8) (s.b.getD (n / 8) 0 ||| (1 : UInt8) <<< UInt8.ofNat (n % 8))).getD (n / 8) 0 = s.b.getD (n / 8) 0 ||| (1 : UInt8) <<< UInt8.ofNat (n % 8) := by simp [hl]
      rw [this, bit_and_bit _ _ (by omega) (by omega)]
      congr 1
      simp only [decide_eq_decide]
      omega
    · have : (s.b.set (n / 8) (s.b.getD (n / 8) 0 ||| (1 : UInt8) <<< UInt8.ofNat (n % 8))).getD (m / 8) 0 = s.b.getD (m / 8) 0 := by simp [List.getElem?_set, Ne.symm e]
      rw [this]
      have : decide (m = n) = false := by simp; intro h; exact e (by rw [h])
      simp [this]
  · have : m ≠ n := by omega
    simp [hm, this]
theorem BSet.has_del (s : BSet) (n m : Nat) (hn : n < 240) : (s.del n).has m = (!decide (m = n) && s.has m) := by
  unfold BSet.has BSet.del bitU
  by_cases hm : m < 240
  · simp only [hm, decide_true, Bool.true_and]
    by_cases e : m / 8 = n / 8
    · have hl : n / 8 < s.b.length := by rw [s.len]; omega
      rw [e]
      have : (s.b.set (n / 8) (s.b.getD (n / 8) 0 &&& ~~~ ((1 : UInt8) <<< UInt8.ofNat (n % 8)))).getD (n / 8) 0 = s.b.getD (n / 8) 0 &&& ~~~ ((1 : UInt8) <<< UInt8.ofNat (n % 8)) := by simp [hl]
      rw [this, bit_not_bit _ _ (by omega) (by omega)]
      congr 2
      simp only [decide_eq_decide]
      omega
    · have : (s.b.set (n / 8) (s.b.getD (n / 8) 0 &&& ~~~ ((1 : UInt8) <<< UInt8.ofNat (n % 8)))).getD (m / 8) 0 = s.b.getD (m / 8) 0 := by simp [List.getElem?_set, Ne.symm e]
      rw [this]
      have : decide (m = n) = false := by simp; intro h; exact e (by rw [h])
      simp [this]
  · simp [hm]
theorem BSet.has_or (s t : BSet) (m : Nat) : (s.or t).has m = (s.has m || t.has m) := by
  unfold BSet.has BSet.or bitU
  by_cases hm : m < 240
  · simp only [hm, decide_true, Bool.true_and]
    have : (orL s.b t.b).getD (m / 8) 0 = s.b.getD (m / 8) 0 ||| t.b.getD (m / 8) 0 := by
      have : m / 8 < 30 := by omega
      simp [orL, s.len, this]
    rw [this, bit_or _ (by omega)]
  · simp [hm]
theorem BSet.has_none (m : Nat) : BSet.none.has m = false := by
  unfold BSet.has BSet.none
  by_cases hm : m < 240
  · have : (List.replicate 30 (0 : UInt8)).getD (m / 8) 0 = 0 := by
      have : m / 8 < 30 := by omega
      rw [List.getD_eq_getElem?_getD, List.getElem?_replicate, if_pos this]; rfl
    rw [this]; simp
  · simp [hm]
theorem BSet.has_lt {s : BSet} {m : Nat} (h : s.has m = true) : m < 240 := by unfold BSet.has at h; simp at h; exact h.1
theorem set_enc (l : List UInt8) (k : Nat) (x : UInt8) : ((u8s l).toArray).setIfInBounds k (.int .u8 (x.toNat : Int)) = (u8s (l.set k x)).toArray := by
  apply Array.ext'
  simp [u8s, List.map_set]
theorem BSet.enc_set (s : BSet) (n : Nat) (x : UInt8) : s.enc.setIfInBounds n (.int .u8 (x.toNat : Int)) = BSet.enc ⟨s.b.set n x, by simp [s.len]⟩ := set_enc _ _ _
/-- The first free number from k on, d of them being looked at. -/
def BSet.firstFrom (s : BSet) : Nat → Nat → Option Nat
  | _, 0 => .none
  | k, d + 1 => if s.has k then s.firstFrom (k + 1) d else some k
def pop (x : UInt8) : Nat := (List.range 8).countP fun i => (x &&& (1 : UInt8) <<< UInt8.ofNat i) != 0
def popTab : List UInt8 := (List.range 256).map fun i => UInt8.ofNat (pop (UInt8.ofNat i))
theorem popTab_at (x : UInt8) : popTab.toArray[((x.toNat : Int)).toNat]? = some (UInt8.ofNat (pop x)) := by
  have := x.toNat_lt
  simp [popTab, this]
theorem pop_le (x : UInt8) : pop x ≤ 8 := by
  unfold pop
  have := List.countP_le_length (p := fun i => (x &&& (1 : UInt8) <<< UInt8.ofNat i) != 0) (l := List.range 8)
  simpa using this
def BSet.countTo (s : BSet) (k : Nat) : Nat := ((List.range k).map fun i => pop (s.byte i)).sum
def BSet.count (s : BSet) : Nat := s.countTo 30
theorem BSet.countTo_succ (s : BSet) (k : Nat) : s.countTo (k + 1) = s.countTo k + pop (s.byte k) := by
  simp [BSet.countTo, List.range_succ]
theorem BSet.countTo_le (s : BSet) (k : Nat) : s.countTo k ≤ 8 * k := by
  induction k with
  | zero => simp [BSet.countTo]
  | succ k ih => rw [BSet.countTo_succ]; have := pop_le (s.byte k); omega
theorem pop_eq (s : BSet) (k : Nat) (h : k < 30) : pop (s.byte k) = (List.range 8).countP fun i => s.has (8 * k + i) := by
  unfold pop
  apply List.countP_congr
  intro i hi
  have hi : i < 8 := by simpa using hi
  have h1 : (8 * k + i) / 8 = k := by omega
  have h2 : (8 * k + i) % 8 = i := by omega
  simp only [BSet.has, bitU, h1, h2, BSet.byte]
  simp [show 8 * k + i < 240 by omega]
theorem BSet.countTo_eq (s : BSet) : ∀ k, k ≤ 30 → s.countTo k = (List.range (8 * k)).countP s.has
  | 0, _ => by simp [BSet.countTo]
  | k + 1, h => by
    rw [BSet.countTo_succ, s.countTo_eq k (by omega), pop_eq s k (by omega), show 8 * (k + 1) = 8 * k + 8 by omega, List.range_add, List.countP_append, List.countP_map]
    rfl
theorem BSet.count_eq (s : BSet) : s.count = (List.range 240).countP s.has := s.countTo_eq 30 (by omega)
theorem BSet.enc_add (s : BSet) (n : Nat) : s.enc.setIfInBounds (n / 8) (.int .u8 ((s.byte (n / 8) ||| bitU n).toNat : Int)) = (s.add n).enc := s.enc_set _ _
theorem BSet.enc_del (s : BSet) (n : Nat) : s.enc.setIfInBounds (n / 8) (.int .u8 ((s.byte (n / 8) &&& ~~~ bitU n).toNat : Int)) = (s.del n).enc := s.enc_set _ _
end Go.Dyn
namespace Go.Dyn
open Go Go.RowKit
section
variable {P : Program} {w0 w : World} {F : List Nat} {L : List It} {ops : Array Oper} {Q : Exit → Act → World → Prop} {rest : List Oper} {o : Oper} {a : Act}

/-- Cells that lie at an address. -/
def CellsAt (w : World) (b off : Nat) (cs : List Value) : Prop := ∀ j (h : j < cs.length), w.cell? ⟨b, off + j, none⟩ = some cs[j]
theorem cellsAt_blk {b off : Nat} {cs : Array Value} {T : TypeId} (h : (blk b cs T).ok w) (l : List Value) (hl : (cs.toList.drop off).take l.length = l) : CellsAt w b off l := fun j hj => by
  rw [blk_cell h]
  have h2 : l[j]? = some l[j] := by simp [hj]
  have h3 : ((cs.toList.drop off).take l.length)[j]? = l[j]? := by rw [hl]
  rw [List.getElem?_take, if_pos hj, List.getElem?_drop] at h3
  rw [← h2, ← h3]
  simp

theorem run_bytesStr {src dst e : TypeId} (hs : P.underlying src = some (.slice e)) (he : P.underlying e = some (.int .u8)) (hd : P.underlying dst = some .string) {b off n c : Nat} {l : List UInt8} (hl : l.length = n) (hc : CellsAt w b off (u8s l)) :
    (convert src dst (.slice (some ⟨b, off, none⟩) n c)).run P w = .ok (.string ⟨l.toArray⟩) w := by
  have := run_convert_bytes_arg (P := P) w src e hs he b off n c (l.map fun x => (x.toNat : Int)) (by simpa using hl) (fun i hi => by
    have := hc i (by simp; omega)
    rw [this]
    simp [u8s, show i < l.length by omega]) dst hd
  rw [this]
  congr 2
  simp only [strOfNums]
  congr 1
  simp [List.map_map, Function.comp_def]

theorem wl_bytesStr {src dst e : TypeId} {x : Operand} (hs : P.underlying src = some (.slice e)) (he : P.underlying e = some (.int .u8)) (hd : P.underlying dst = some .string) (hgd : o.guard = none) (ho : o.op = .convert src dst x) {b off n c : Nat} (hx : a.eval x = .slice (some ⟨b, off, none⟩) n c)
    (l : List UInt8) (hl : l.length = n) (hc : CellsAt w b off (u8s l)) (h : wpList P ops Q rest (a.put o.dst (.string ⟨l.toArray⟩)) w) : wpList P ops Q (o :: rest) a w :=
  wpList_plain hgd fun K hK => by
    unfold Oper.wp execOp
    simp only [ho, hx, Sem.run_bind, run_bytesStr hs he hd hl hc, Result.andThen_ok, Sem.run_pure]
    exact hK _ _ h

/-- copy(block[off:], s) -/
theorem wl_copyStr {dT sT e : TypeId} [i1 : IsOne P e] {d x : Operand} (hd : P.underlying dT = some (.slice e)) (hgd : o.guard = none) (ho : o.op = .call { callee := .builtin .copy, args := #[d, x], argTypes := #[dT, sT] })
    {b off n c : Nat} {s : ByteArray} {cs : Array Value} {T : TypeId} (hS : Chg w0 w F (blk b cs T :: L)) (hx : a.eval d = .slice (some ⟨b, off, none⟩) n c) (hs : a.eval x = .string s) (hfit : off + n ≤ cs.size) (hsn : s.size ≤ n)
    (h : ∀ w', Chg w0 w' F (blk b (lay cs off (u8s s.data.toList).toArray) T :: L) → wpList P ops Q rest (a.put o.dst (.int .i64 s.size)) w') : wpList P ops Q (o :: rest) a w :=
  wpList_plain hgd fun K hK => by
    unfold Oper.wp execOp
    have hmin : Nat.min s.size n = s.size := Nat.min_eq_left hsn
    have hcells : ((s.extract 0 s.size).data.map fun b => Value.int .u8 (b.toNat : Int)) = (u8s s.data.toList).toArray := by
      have : s.extract 0 s.size = s := by simp
      rw [this]
      apply Array.ext'
      simp [u8s]
    have hl : (u8s s.data.toList).length = s.size := by rw [u8s_length]; rfl
    have hst := run_storeCells_at (P := P) b off T (u8s s.data.toList) 0 cs w hS.head (by rw [hl]; omega) (fun v hv => u8s_one (by simpa using hv))
    simp only [ho, resolve, invoke, builtin, Sem.run_bind, Sem.run_pure, Result.andThen_ok, List.map_toArray, List.map_cons, List.map_nil, hx, hs]
    simp only [Builtin.copy_, List.getElem?_toArray, List.getElem?_cons_zero, List.getElem?_cons_succ, Sem.run_bind, Sem.run_pure, run_underlying hd, Result.andThen_ok, Builtin.lenOf, i1.size, Builtin.firstCells, hmin]
    rw [hcells]
    simp only [Sem.run_bind, Sem.run_pure, Result.andThen_ok, hst, goInt]
    have hw := hS.setRow (lay cs off (u8s s.data.toList).toArray)
    simp only [Nat.add_zero]
    refine hK _ _ (h _ ?_)
    simpa [lay, hl] using hw
end
end Go.Dyn
namespace Go.Dyn
open Go Go.RowKit
/-- m laid over l from k on. -/
def over (l : List UInt8) (k : Nat) (m : List UInt8) : List UInt8 := l.take k ++ m ++ l.drop (k + m.length)
theorem over_length (l : List UInt8) (k : Nat) (m : List UInt8) (h : k + m.length ≤ l.length) : (over l k m).length = l.length := by simp [over]; omega
theorem lay_u8s (l : List UInt8) (k : Nat) (m : List UInt8) : lay (u8s l).toArray k (u8s m).toArray = (u8s (over l k m)).toArray := by
  simp [lay, over, u8s]
/-- The kind, the size and the data, the sum not yet. -/
def frame0 (kind : Nat) (data : List UInt8) : List UInt8 := over (((List.replicate 128 (0 : UInt8)).set 4 (UInt8.ofNat kind)).set 5 (UInt8.ofNat data.length)) 6 data
theorem frame0_length (kind : Nat) (data : List UInt8) (h : data.length ≤ 120) : (frame0 kind data).length = 128 := by
  unfold frame0
  rw [over_length] <;> simp
  omega
theorem over_getElem? (l : List UInt8) (k : Nat) (m : List UInt8) (h : k + m.length ≤ l.length) (i : Nat) : (over l k m)[i]? = if i < k then l[i]? else if i < k + m.length then m[i - k]? else l[i]? := by
  unfold over
  by_cases h1 : i < k
  · rw [if_pos h1, List.getElem?_append_left (by simp; omega), List.getElem?_append_left (by simp; omega), List.getElem?_take, if_pos h1]
  · rw [if_neg h1]
    by_cases h2 : i < k + m.length
    · rw [if_pos h2, List.getElem?_append_left (by simp; omega), List.getElem?_append_right (by simp; omega)]
      congr 1
      simp; omega
    · rw [if_neg h2, List.getElem?_append_right (by simp; omega), List.getElem?_drop]
      congr 1
      simp; omega
theorem frame0_kind (kind : Nat) (data : List UInt8) (h : data.length ≤ 120) : (frame0 kind data).getD 4 0 = UInt8.ofNat kind := by
  unfold frame0
  rw [List.getD_eq_getElem?_getD, over_getElem? _ _ _ (by simp; omega)]
  simp
theorem frame0_size (kind : Nat) (data : List UInt8) (h : data.length ≤ 120) : (frame0 kind data).getD 5 0 = UInt8.ofNat data.length := by
  unfold frame0
  rw [List.getD_eq_getElem?_getD, over_getElem? _ _ _ (by simp; omega)]
  simp
theorem frame0_data (kind : Nat) (data : List UInt8) (h : data.length ≤ 120) : ((frame0 kind data).drop 6).take data.length = data := by
  apply List.ext_getElem?
  intro i
  rw [List.getElem?_take]
  by_cases hi : i < data.length
  · rw [if_pos hi, List.getElem?_drop]
    unfold frame0
    rw [over_getElem? _ _ _ (by simp; omega), if_neg (by omega), if_pos (by omega)]
    congr 1; omega
  · rw [if_neg hi, List.getElem?_eq_none (by omega)]

theorem u8s_replicate (n : Nat) : Array.replicate n (Value.int .u8 0) = (u8s (List.replicate n 0)).toArray := by
  apply Array.ext'
  simp [u8s]
theorem u8s_set (l : List UInt8) (k n : Nat) (hn : n < 256) : ((u8s l).toArray).setIfInBounds k (.int .u8 (n : Int)) = (u8s (l.set k (UInt8.ofNat n))).toArray := by
  rw [← set_enc]
  congr 2
  simp
  omega
theorem frame_start (kind n : Nat) (hk : kind < 256) (hn : n < 256) : ((Array.replicate 128 (Value.int .u8 0)).setIfInBounds 4 (.int .u8 (kind : Int))).setIfInBounds 5 (.int .u8 (n : Int)) = (u8s (((List.replicate 128 (0 : UInt8)).set 4 (UInt8.ofNat kind)).set 5 (UInt8.ofNat n))).toArray := by
  rw [u8s_replicate, u8s_set _ _ _ hk, u8s_set _ _ _ hn]
theorem over_take (l m : List UInt8) (h : m.length ≤ l.length) : (over l 0 m).take m.length = m := by simp [over]
theorem over_drop (l m : List UInt8) (k : Nat) (h : m.length ≤ k) : (over l 0 m).drop k = l.drop k := by
  simp only [over, List.take_zero, List.nil_append, Nat.zero_add]
  rw [List.drop_append, List.drop_eq_nil_of_le h, List.nil_append, List.drop_drop]
  congr 1
  omega
theorem over_getD (l m : List UInt8) (k : Nat) (h : m.length ≤ k) : (over l 0 m).getD k 0 = l.getD k 0 := by
  have := over_drop l m k h
  have h1 : (over l 0 m)[k]? = l[k]? := by
    have h2 := congrArg (fun x => x[0]?) this
    simpa [List.getElem?_drop] using h2
  simp only [List.getD_eq_getElem?_getD, h1]
end Go.Dyn
namespace Go.Dyn
open Go Go.RowKit
set_option maxRecDepth 20000
def intsV (l : List Nat) : List Value := l.map fun (k : Nat) => Value.int .i64 (k : Int)
def strsV (l : List ByteArray) : List Value := l.map .string
@[simp] theorem intsV_length (l : List Nat) : (intsV l).length = l.length := by simp [intsV]
@[simp] theorem strsV_length (l : List ByteArray) : (strsV l).length = l.length := by simp [strsV]
structure Nd where
  keys : List Nat
  vals : List ByteArray
  kids : List Nat
def risingOk (l : List Nat) : Prop := (∀ k ∈ l, k < 4294967296) ∧ l.Pairwise (· < ·) ∧ l.length ≤ 7
def kidsOk (l : List Nat) : Prop := (∀ k ∈ l, 2 ≤ k ∧ k < 240) ∧ l.Nodup
def Nd.leafOk (n : Nd) : Prop := n.kids = [] ∧ n.vals.length = n.keys.length ∧ ∀ v ∈ n.vals, v.size = 12
def Nd.innerOk (n : Nd) : Prop := n.vals = [] ∧ 1 ≤ n.keys.length ∧ n.kids.length = n.keys.length + 1 ∧ kidsOk n.kids
def Nd.right (n : Nd) : Prop := risingOk n.keys ∧ (n.leafOk ∨ n.innerOk)
/-- A slice: where it is, and how much room it has. -/
structure Sl where
  a : Option Addr
  c : Nat
/-- What can be read through a slice. -/
def SlR (w : World) (A : Option Addr) (l : List Value) : Prop := l = [] ∨ ∃ b off, A = some ⟨b, off, none⟩ ∧ CellsAt w b off l
theorem SlR.old {w w' : World} {A : Option Addr} {l : List Value} {L : List It} (h : SlR w A l) (hS : Chg w w' [] L) : SlR w' A l := by
  rcases h with h | ⟨b, off, h1, h2⟩
  · exact .inl h
  · exact .inr ⟨b, off, h1, fun j hj => hS.old (h2 j hj) (by simp)⟩
theorem SlR.of_sl {w : World} {A : Option Addr} {n c : Nat} {T : TypeId} {l : List Value} (h : (slIt 1 T A n c l).ok w) : SlR w A l := by
  rcases slIt_form h with ⟨_, _, _, h⟩ | ⟨b, rfl⟩
  · exact .inl h
  · exact .inr ⟨b, 0, rfl, fun j hj => by rw [Nat.zero_add]; exact slIt_cell h j hj⟩
theorem SlR.at {w : World} {A : Option Addr} {l : List Value} (h : SlR w A l) (h0 : 0 < l.length) : ∃ b off, A = some ⟨b, off, none⟩ ∧ CellsAt w b off l := by
  rcases h with h | h
  · subst h; simp at h0
  · exact h
theorem SlR.ints {w : World} {b off : Nat} {l : List Nat} (h : CellsAt w b off (intsV l)) (k : Nat) (hk : k < l.length) : w.cell? ⟨b, off + k, none⟩ = some (.int .i64 (l[k] : Int)) := by
  rw [h k (by simpa using hk)]
  simp [intsV]
theorem SlR.strs {w : World} {b off : Nat} {l : List ByteArray} (h : CellsAt w b off (strsV l)) (k : Nat) (hk : k < l.length) : w.cell? ⟨b, off + k, none⟩ = some (.string l[k]) := by
  rw [h k (by simpa using hk)]
  simp [strsV]
def ndV (x y z : Sl) (n : Nd) : Array Value := #[.slice x.a n.keys.length x.c, .slice y.a n.vals.length y.c, .slice z.a n.kids.length z.c]
structure NdR (w : World) (x y z : Sl) (n : Nd) : Prop where
  keys : SlR w x.a (intsV n.keys)
  vals : SlR w y.a (strsV n.vals)
  kids : SlR w z.a (intsV n.kids)
theorem NdR.old {w w' : World} {x y z : Sl} {n : Nd} {L : List It} (h : NdR w x y z n) (hS : Chg w w' [] L) : NdR w' x y z n := ⟨h.keys.old hS, h.vals.old hS, h.kids.old hS⟩
end Go.Dyn
namespace Go.Dyn
open Go Go.RowKit
set_option maxRecDepth 20000
structure LkS where
  met : List Nat
  lvl : Nat
def withinB (n : Nd) (a b : Nat) : Bool := decide (0 < n.keys.length) && decide (a ≤ n.keys.getD 0 0) && decide (n.keys.getD (n.keys.length - 1) 0 < b)
def Nd.bad (n : Nd) (used : Bool) (depth a b : Nat) : Bool := !used || !withinB n a b || (decide (1 < depth) && decide (n.keys.length < 3))
def edges (n : Nd) (a b : Nat) : List Nat := [a] ++ (n.keys ++ [b])
def kidsL (n : Nd) (a b : Nat) : List (Nat × Nat × Nat) := (List.range n.kids.length).map fun i => (n.kids.getD i 0, (edges n a b).getD i 0, (edges n a b).getD (i + 1) 0)
def lookK (g : Nat → Nat → Nat → LkS → Nat × LkS) : List (Nat × Nat × Nat) → LkS → Nat × LkS
  | [], st => (0, st)
  | (k, a, b) :: r, st => if (g k a b st).1 = 0 then lookK g r (g k a b st).2 else g k a b st
def lookP (T : Nat → Option Nd) (U : Nat → Bool) : Nat → Nat → Nat → Nat → LkS → Nat × LkS
  | 0, _, _, _, st => (2, st)
  | f + 1, i, a, b, st =>
    if i ∈ st.met then (2, st) else
    match T i with
    | none => (4, ⟨st.met ++ [i], st.lvl⟩)
    | some n =>
      if n.bad (U i) (12 - f) a b = true then (2, ⟨st.met ++ [i], st.lvl⟩)
      else if n.kids.length = 0 then (if st.lvl ≠ 0 ∧ st.lvl ≠ 12 - f then (2, ⟨st.met ++ [i], st.lvl⟩) else (0, ⟨st.met ++ [i], 12 - f⟩))
      else lookK (lookP T U f) (kidsL n a b) ⟨st.met ++ [i], st.lvl⟩
def looked (T : Nat → Option Nd) (U : Nat → Bool) (root : Nat) : Nat × LkS := if root = 0 then (0, ⟨[], 0⟩) else lookP T U 12 root 0 4294967296 ⟨[], 0⟩
theorem lookK_append (g : Nat → Nat → Nat → LkS → Nat × LkS) : ∀ (l m : List (Nat × Nat × Nat)) (st : LkS), lookK g (l ++ m) st = if (lookK g l st).1 = 0 then lookK g m (lookK g l st).2 else lookK g l st
  | [], m, st => by simp [lookK]
  | (k, a, b) :: l, m, st => by
    simp only [List.cons_append, lookK]
    split
    · rw [lookK_append g l m]
    · rename_i h; simp [h]
theorem kidsL_length (n : Nd) (a b : Nat) : (kidsL n a b).length = n.kids.length := by simp [kidsL]
theorem kidsL_at (n : Nd) (a b k : Nat) (h : k < n.kids.length) : (kidsL n a b)[k]'(by rw [kidsL_length]; exact h) = (n.kids[k], (edges n a b).getD k 0, (edges n a b).getD (k + 1) 0) := by simp [kidsL, h]
theorem lookK_take (g : Nat → Nat → Nat → LkS → Nat × LkS) (n : Nd) (a b k : Nat) (h : k < n.kids.length) (st st1 : LkS) (h1 : lookK g ((kidsL n a b).take k) st = (0, st1)) :
    lookK g ((kidsL n a b).take (k + 1)) st = g n.kids[k] ((edges n a b).getD k 0) ((edges n a b).getD (k + 1) 0) st1 := by
  have hk : k < (kidsL n a b).length := by rw [kidsL_length]; exact h
  rw [List.take_succ_eq_append_getElem hk, lookK_append, h1, kidsL_at n a b k h]
  simp only [↓reduceIte, lookK]
  generalize g n.kids[k] ((edges n a b).getD k 0) ((edges n a b).getD (k + 1) 0) st1 = r
  obtain ⟨e, st⟩ := r
  by_cases he : e = 0
  · simp [he]
  · simp [he]
theorem lookK_stop (g : Nat → Nat → Nat → LkS → Nat × LkS) (l : List (Nat × Nat × Nat)) (k : Nat) (st : LkS) (h : (lookK g (l.take k) st).1 ≠ 0) : lookK g l st = lookK g (l.take k) st := by
  have := lookK_append g (l.take k) (l.drop k) st
  rw [List.take_append_drop, if_neg h] at this
  exact this
end Go.Dyn
namespace Go.Dyn
open Go Go.RowKit
section
variable {P : Program}
theorem eqLoop (w : World) (r : Nat → Bool) (f : Nat → Option Bool × Unit → Sem (ForInStep (Option Bool × Unit))) : ∀ (js : List Nat), (∀ j, j ∈ js → ∀ s, (f j s).run P w = .ok (if r j then .yield (none, ()) else .done (some false, ())) w) →
    (forIn js (none, ()) f).run P w = .ok (if js.all r then (none, ()) else (some false, ())) w
  | [], _ => by simp [Sem.run_pure]
  | j :: js, h => by
    have ih := eqLoop w r f js (fun i hi => h i (by simp [hi]))
    simp only [List.forIn_cons, Sem.run_bind, h j (by simp), Result.andThen_ok]
    cases hr : r j with
    | true => simp only [↓reduceIte, List.all_cons, hr, Bool.true_and]; exact ih
    | false => simp [hr, Sem.run_pure]

/-- Arrays of a type of one cell, whose cells are held against each other by r. -/
theorem run_equalIn_arr {t e : TypeId} {len : Nat} [i1 : IsOne P e] (d : Nat) (hu : P.underlying t = some (.array len e)) {xs ys : Array Value} (r : Nat → Bool) (w : World)
    (h : ∀ j, j < len → ∃ x y, xs[j]? = some x ∧ ys[j]? = some y ∧ (Op.equalIn d e x y).run P w = .ok (r j) w) :
    (Op.equalIn (d + 1) t (.agg xs) (.agg ys)).run P w = .ok ((List.range len).all r) w := by
  rw [Op.equalIn]
  simp only [Sem.run_bind, run_underlying hu, Result.andThen_ok, i1.size]
  rw [Std.Legacy.Range.forIn_eq_forIn_range']
  simp only [Std.Legacy.Range.size, Nat.sub_zero, Nat.add_sub_cancel, Nat.div_one]
  rw [eqLoop w r _ (List.range' 0 len) (fun j hj s => by
    obtain ⟨x, y, hx, hy, he⟩ := h j (by simpa using hj)
    simp only [Sem.run_bind, Nat.mul_one, run_part1 hx, run_part1 hy, Result.andThen_ok, he]
    cases r j <;> simp [Sem.run_pure])]
  rw [← List.range_eq_range']
  cases (List.range len).all r <;> simp [Sem.run_pure]

theorem run_equalIn_u8 {e : TypeId} (d : Nat) (he : P.underlying e = some (.int .u8)) (x y : UInt8) (w : World) : (Op.equalIn (d + 1) e (.int .u8 (x.toNat : Int)) (.int .u8 (y.toNat : Int))).run P w = .ok (x == y) w := by
  simp only [Op.equalIn, Sem.run_bind, run_underlying he, Result.andThen_ok, ↓reduceIte, Sem.run_pure]
  congr 1
  rw [Bool.eq_iff_iff]
  simp only [beq_iff_eq, Int.natCast_inj]
  exact UInt8.toNat_inj

/-- Arrays of bytes. -/
theorem run_neq_bytes {t e : TypeId} {len : Nat} [i1 : IsOne P e] (hu : P.underlying t = some (.array len e)) (he : P.underlying e = some (.int .u8)) (l m : List UInt8) (hl : l.length = len) (hm : m.length = len) (w : World) :
    (binOp .neq t (.agg (u8s l).toArray) (.agg (u8s m).toArray)).run P w = .ok (.bool (l != m)) w := by
  have := run_equalIn_arr (P := P) (t := t) (e := e) 9999 hu (xs := (u8s l).toArray) (ys := (u8s m).toArray) (fun j => l.getD j 0 == m.getD j 0) w (fun j hj => ⟨_, _, u8s_getD l j (by omega), u8s_getD m j (by omega), run_equalIn_u8 9998 he _ _ w⟩)
  have h2 : (List.range len).all (fun j => l.getD j 0 == m.getD j 0) = (l == m) := by
    rw [Bool.eq_iff_iff]
    simp only [List.all_eq_true, List.mem_range, beq_iff_eq]
    constructor
    · intro h
      apply List.ext_getElem (by omega)
      intro i h1 h2
      have := h i (by omega)
      simpa [List.getD, h1, h2] using this
    · rintro rfl j _; rfl
  simp only [binOp, Sem.run_bind, Op.equal, Op.maxDepth, this, h2, Result.andThen_ok, Sem.run_pure]
  rfl

theorem run_eqGuard {t : TypeId} {op : BinOp} {x y : Operand} {xs ys : Array Value} (hg : P.eqGuardType P.depth t = false) (w : World) : (eqGuard op t x y (.agg xs) (.agg ys)).run P w = .ok () w := by
  unfold eqGuard
  cases op <;> simp [Sem.run_bind, program, Sem.run, hg]
variable {w : World} {ops : Array Oper} {Q : Exit → Act → World → Prop} {rest : List Oper} {o : Oper} {a : Act} {C : World → Prop}
theorem wl_neq_bytes {t e u : TypeId} {len : Nat} {x y : Operand} [i1 : IsOne P e] (hu : P.underlying t = some (.array len e)) (he : P.underlying e = some (.int .u8)) (hg : P.eqGuardType P.depth t = false) (hgd : o.guard = none) (ho : o.op = .binOp .neq t x y u)
    {l m : List UInt8} (hx : a.eval x = .agg (u8s l).toArray) (hy : a.eval y = .agg (u8s m).toArray) (hl : l.length = len) (hm : m.length = len) (h : wpList P ops Q rest (a.put o.dst (.bool (l != m))) w) : wpList P ops Q (o :: rest) a w :=
  wpList_plain hgd fun K hK => by
    unfold Oper.wp execOp
    simp only [ho, hx, hy, Sem.run_bind, run_eqGuard hg, run_neq_bytes hu he l m hl hm, Result.andThen_ok, Sem.run_pure]
    exact hK _ _ h
theorem quiet_neq_bytes {t e u : TypeId} {len : Nat} {x y : Operand} [i1 : IsOne P e] {K : Act → Prop} (hu : P.underlying t = some (.array len e)) (he : P.underlying e = some (.int .u8)) (hg : P.eqGuardType P.depth t = false) (ho : o.op = .binOp .neq t x y u)
    {l m : List UInt8} (hx : a.eval x = .agg (u8s l).toArray) (hy : a.eval y = .agg (u8s m).toArray) (hl : l.length = len) (hm : m.length = len) (h : K (a.put o.dst (.bool (l != m)))) : o.quiet P a C K := by
  refine ⟨_, fun w' hw' => ?_, h⟩
  unfold Oper.quietAt execOp
  simp only [ho, hx, hy, Sem.run_bind, run_eqGuard hg, run_neq_bytes hu he l m hl hm, Result.andThen_ok, Sem.run_pure]
  exact ⟨rfl, rfl⟩
theorem quiet_bytesStr {src dst e : TypeId} {x : Operand} {K : Act → Prop} (hs : P.underlying src = some (.slice e)) (he : P.underlying e = some (.int .u8)) (hd : P.underlying dst = some .string) (ho : o.op = .convert src dst x) {b off n c : Nat} (hx : a.eval x = .slice (some ⟨b, off, none⟩) n c)
    (l : List UInt8) (hl : l.length = n) (hc : ∀ w', C w' → CellsAt w' b off (u8s l)) (h : K (a.put o.dst (.string ⟨l.toArray⟩))) : o.quiet P a C K := by
  refine ⟨_, fun w' hw' => ?_, h⟩
  unfold Oper.quietAt execOp
  simp only [ho, hx, Sem.run_bind, run_bytesStr hs he hd hl (hc w' hw'), Result.andThen_ok, Sem.run_pure]
  exact ⟨rfl, rfl⟩
theorem quiet_bytesStr' {src dst e : TypeId} {x : Operand} {K : Act → Prop} (hs : P.underlying src = some (.slice e)) (he : P.underlying e = some (.int .u8)) (hd : P.underlying dst = some .string) (ho : o.op = .convert src dst x) {b off n c : Nat} (hx : a.eval x = .slice (some ⟨b, off, none⟩) n c)
    (s : ByteArray) (hl : s.size = n) (hc : ∀ w', C w' → CellsAt w' b off (u8s s.data.toList)) (h : K (a.put o.dst (.string s))) : o.quiet P a C K :=
  quiet_bytesStr hs he hd ho hx s.data.toList hl hc (by have : (⟨s.data.toList.toArray⟩ : ByteArray) = s := by simp
                                                        rw [this]; exact h)
theorem quiet_load1 {T : TypeId} [i1 : IsOne P T] {x : Operand} {K : Act → Prop} (ho : o.op = .load T x) {ad : Addr} {v : Value} (hx : a.eval x = .pointer (some ad)) (hc : ∀ w', C w' → w'.cell? ad = some v) (h : K (a.put o.dst v)) : o.quiet P a C K := by
  refine ⟨_, fun w' hw' => ?_, h⟩
  unfold Oper.quietAt execOp
  simp only [ho, hx, Sem.run_bind, run_loadAt_one (hc w' hw'), Result.andThen_ok, Sem.run_pure]
  exact ⟨rfl, rfl⟩
theorem quiet_loadw {T T' : TypeId} {n : Nat} [ir : IsRow P T n] {x : Operand} {K : Act → Prop} (ho : o.op = .load T x) {b : Nat} {cs : Array Value} (hx : a.eval x = .pointer (some ⟨b, 0, none⟩)) (hc : ∀ w', C w' → (blk b cs T').ok w') (hn : cs.size = n) (h : K (a.put o.dst (.agg cs))) : o.quiet P a C K := by
  refine ⟨_, fun w' hw' => ?_, h⟩
  unfold Oper.quietAt execOp
  simp only [ho, hx, Sem.run_bind, run_loadAt_row (hc w' hw') (show 0 + n ≤ cs.size by omega), Result.andThen_ok, Sem.run_pure, part_all hn]
  exact ⟨rfl, rfl⟩

theorem results_row2 {fn : Func} {p t : Tmp} {T T' : TypeId} {n : Nat} [ir : IsRow P T n] {b : Nat} {cs : Array Value} (hr : fn.results = #[.cell p T, .tmp t]) (tmps : Array Value) (hp : tmps.getD p undef = .pointer (some ⟨b, 0, none⟩)) (hb : (blk b cs T').ok w) (hn : cs.size = n) :
    (results fn tmps).run P w = .ok (.tuple #[.agg cs, tmps.getD t undef]) w := by
  obtain ⟨d, hu, hd⟩ := ir.und
  have hl := run_loadVar_row (P := P) w b T' T cs (0, 0) d hb hu (by cases d <;> simp_all [TypeDesc.isRow]) (by rw [hn]; exact ir.sz)
  have hp' : tmps[p]?.getD undef = .pointer (some ⟨b, 0, none⟩) := by simpa using hp
  simp [results, hr, hp', asAddr, hl]
/-- Two results, the first one many cells. -/
theorem ret_row2 {w0 : World} {F : List Nat} {L : List It} {fn : Func} {R : Ending → World → Prop} {p t : Tmp} {T T' : TypeId} {n : Nat} [ir : IsRow P T n] {b : Nat} {cs : Array Value} {v : Value} (i : Nat) (hS : Chg w0 w F L) (hi : L[i]? = some (blk b cs T')) (hr : fn.results = #[.cell p T, .tmp t]) (hp : a.tmps.getD p undef = .pointer (some ⟨b, 0, none⟩))
    (ht : a.tmps.getD t undef = v) (hn : cs.size = n) (hd : a.defers = []) (h : R (.returned (.tuple #[.agg cs, v])) w) : bodyPost P fn R .ret a w :=
  ⟨hd, _, results_row2 hr a.tmps hp (hS.get i hi) hn, by rw [ht]; exact h⟩

theorem run_sliceAt {t e len : Nat} [i1 : IsOne P e] (hu : P.underlying t = some (.array len e)) (b lo hi : Nat) (i j : Int) (hi1 : i = lo) (hj1 : j = hi) (h1 : lo ≤ hi) (h2 : hi ≤ len) (h3 : lo < len) (w : World) :
    (Instr.sliceAt t (.pointer (some ⟨b, 0, none⟩)) (some (.int .i64 i)) (some (.int .i64 j)) none).run P w = .ok (.slice (some ⟨b, lo, none⟩) (hi - lo) (len - lo)) w := by
  subst hi1; subst hj1
  have e1 : (0 : Int) ≤ (hi : Int) ∧ (hi : Int) ≤ (len : Int) := by omega
  have e2 : (0 : Int) ≤ (lo : Int) ∧ (lo : Int) ≤ (hi : Int) := by omega
  unfold Instr.sliceAt
  simp only [Sem.run_bind, run_underlying hu, Result.andThen_ok, Instr.sureAddr, Sem.run_pure, Instr.sliceBounds, Instr.sliceBound, asIntOf, e1, e2, and_self, ↓reduceIte, i1.size, Int.toNat_natCast, Nat.mul_one]
  rw [if_neg (by omega), Addr.add_mid, Nat.zero_add]
end
end Go.Dyn
namespace Go.Dyn
open Go Go.RowKit
def ids (L : List It) : List Nat := L.flatMap It.ids
structure Own (w : World) (L : List It) : Prop where
  all : ∀ it, it ∈ L → it.ok w
  nodup : (ids L).Nodup
theorem Own.start {w : World} {L : List It} (h : Own w L) : Chg w w (ids L) L :=
  Chg.init w _ L h.all (fun it hi i hk => List.mem_flatMap.2 ⟨it, hi, hk⟩) h.nodup
theorem Chg.toOwn {w0 w : World} {F : List Nat} {L L2 : List It} (h : Chg w0 w F (L ++ L2)) : Own w L :=
  ⟨fun it hi => h.all it (by simp [hi]), by
    have := h.nodup
    rw [List.flatMap_append] at this
    exact (List.nodup_append.1 this).1⟩
theorem Chg.back {w0 w w' : World} {F : List Nat} {L1 L1' L2 : List It} (h : Chg w0 w F (L1 ++ L2)) (hc : Chg w w' (ids L1) L1') : Chg w0 w' F (L1' ++ L2) := h.call (fun _ hi => hi) hc
theorem Chg.weaken {w0 w : World} {F F' : List Nat} {L : List It} (h : Chg w0 w F L) (hF : ∀ i, i ∈ F → i ∈ F') : Chg w0 w F' L :=
  ⟨h.os, h.tape, h.output, h.size, fun b hb hn => h.frame b hb (fun hf => hn (hF b hf)), h.all, fun it hi i hk => (h.own it hi i hk).imp (hF i) id, h.nodup⟩
theorem Own.keep {w w' : World} {L L' : List It} (h : Own w L) (hc : Chg w w' [] L') : Own w' L :=
  ⟨fun it hi => it.loc (fun i hk => hc.frame i (it.inb (h.all it hi) i hk) (by simp)) (h.all it hi), h.nodup⟩
theorem Chg.ownL {w0 w : World} {F : List Nat} {L : List It} (h : Chg w0 w F L) : Own w L := Chg.toOwn (L2 := []) (by simpa using h)
theorem Chg.after {w0 w w' : World} {F : List Nat} {L L' : List It} (h : Chg w0 w F L) (hc : Chg w w' (ids L) L') : Chg w0 w' F L' := by
  have := Chg.back (L2 := []) (by simpa using h) hc
  simpa using this
theorem Chg.afterN {w0 w w' : World} {F : List Nat} {L L' : List It} (pre : List It) (h : Chg w0 w F (pre ++ L)) (hc : Chg w w' (ids L) L') : Chg w0 w' F (pre ++ L') :=
  (Chg.back (h.perm List.perm_append_comm) hc).perm List.perm_append_comm
theorem Chg.after1 {w0 w w' : World} {F : List Nat} {x : It} {L L' : List It} (h : Chg w0 w F (x :: L)) (hc : Chg w w' (ids L) L') : Chg w0 w' F (x :: L') := Chg.afterN [x] h hc
theorem Chg.after2 {w0 w w' : World} {F : List Nat} {x y : It} {L L' : List It} (h : Chg w0 w F (x :: y :: L)) (hc : Chg w w' (ids L) L') : Chg w0 w' F (x :: y :: L') := Chg.afterN [x, y] h hc
theorem Chg.after3 {w0 w w' : World} {F : List Nat} {x y z : It} {L L' : List It} (h : Chg w0 w F (x :: y :: z :: L)) (hc : Chg w w' (ids L) L') : Chg w0 w' F (x :: y :: z :: L') := Chg.afterN [x, y, z] h hc
section
variable {P : Program} {w0 w : World} {F : List Nat} {L : List It} {ops : Array Oper} {Q : Exit → Act → World → Prop} {rest : List Oper} {o : Oper} {a : Act} {C : World → Prop}
theorem cellsAt_sl {k n c b : Nat} {e : TypeId} {xs : List Value} (h : (slIt k e (some ⟨b, 0, none⟩) n c xs).ok w) (off : Nat) (l : List Value) (hl : (xs.drop off).take l.length = l) : CellsAt w b off l := fun j hj => by
  have h2 : l[j]? = some l[j] := by simp [hj]
  have h3 : ((xs.drop off).take l.length)[j]? = l[j]? := by rw [hl]
  rw [List.getElem?_take, if_pos hj, List.getElem?_drop, h2] at h3
  have hlt : off + j < xs.length := (List.getElem?_eq_some_iff.1 h3).1
  rw [slIt_cell h (off + j) hlt]
  rw [List.getElem?_eq_getElem hlt] at h3
  exact h3
theorem CellsAt.old {w' : World} {b off : Nat} {cs : List Value} (h : CellsAt w b off cs) (hS : Chg w w' F L) (hF : b ∉ F) : CellsAt w' b off cs := fun j hj => hS.old (h j hj) hF
theorem run_loadAt_cells {T : TypeId} {n : Nat} [ir : IsRow P T n] {b k : Nat} {cs : List Value} (hc : CellsAt w b k cs) (hn : cs.length = n) :
    (Instr.loadAt T (.pointer (some ⟨b, k, none⟩))).run P w = .ok (.agg cs.toArray) w := by
  obtain ⟨d, hu, hd⟩ := ir.und
  exact run_loadAt_mid (P := P) w b k T cs d (fun j v hv => by
    obtain ⟨hj, rfl⟩ := List.getElem?_eq_some_iff.1 hv
    exact hc j hj) hu hd (by rw [hn]; exact ir.sz)
theorem wl_loadc {T : TypeId} {n : Nat} [ir : IsRow P T n] {x : Operand} {b k : Nat} {cs : List Value} (hgd : o.guard = none) (ho : o.op = .load T x) (hx : a.eval x = .pointer (some ⟨b, k, none⟩)) (hc : CellsAt w b k cs) (hn : cs.length = n)
    (h : wpList P ops Q rest (a.put o.dst (.agg cs.toArray)) w) : wpList P ops Q (o :: rest) a w :=
  wpList_plain hgd fun K hK => by
    unfold Oper.wp execOp
    simp only [ho, hx, Sem.run_bind, run_loadAt_cells hc hn, Result.andThen_ok, Sem.run_pure]
    exact hK _ _ h
theorem quiet_loadc {T : TypeId} {n : Nat} [ir : IsRow P T n] {x : Operand} {K : Act → Prop} {b k : Nat} {cs : List Value} (ho : o.op = .load T x) (hx : a.eval x = .pointer (some ⟨b, k, none⟩)) (hc : ∀ w', C w' → CellsAt w' b k cs) (hn : cs.length = n) (h : K (a.put o.dst (.agg cs.toArray))) : o.quiet P a C K := by
  refine ⟨_, fun w' hw' => ?_, h⟩
  unfold Oper.quietAt execOp
  simp only [ho, hx, Sem.run_bind, run_loadAt_cells (hc w' hw') hn, Result.andThen_ok, Sem.run_pure]
  exact ⟨rfl, rfl⟩
end
end Go.Dyn
namespace Go.Dyn
open Go Go.RowKit Go.MapKept
set_option maxRecDepth 20000
/-- The entries of a set, in the order in which they came. -/
def setL : List Int → Nat → List MapEntry
  | [], _ => []
  | k :: ks, i => ⟨.int .i64 k, .bool true, i⟩ :: setL ks (i + 1)
theorem setL_snoc (k : Int) : ∀ (ks : List Int) (i : Nat), setL (ks ++ [k]) i = setL ks i ++ [⟨.int .i64 k, .bool true, i + ks.length⟩]
  | [], i => by simp [setL]
  | x :: ks, i => by
    simp only [List.cons_append, setL, List.length_cons]
    rw [setL_snoc k ks (i + 1)]
    rw [show i + 1 + ks.length = i + (ks.length + 1) by omega]
def setIt (b : Nat) (ks : List Int) : It where
  ids := [b]
  ok w := w.heap[b]? = some (.map (setL ks 0).toArray ks.length)
  loc h k := by rw [h b (by simp)]; exact k
  inb h i hi := by
    have : i = b := by simpa using hi
    subst this
    exact (Array.getElem?_eq_some_iff.1 h).1
/-- The type of such a set. -/
class SetT (P : Program) (T : TypeId) : Prop where
  und : ∃ k e, P.underlying T = some (.map k e) ∧ P.underlying k = some (.int .i64) ∧ (P.info? e).bind (·.zero) = some (.bool false)
section
variable {P : Program} {w0 w : World} {F : List Nat} {L : List It} {ops : Array Oper} {Q : Exit → Act → World → Prop} {rest : List Oper} {o : Oper} {a : Act}
/-- A new block, of whatever kind. -/
theorem Chg.allocOf {it : It} {ob : Obj} (h : Chg w0 w F L) (h1 : it.ids = [w.heap.size]) (h2 : it.ok (w.alloc ob)) : Chg w0 (w.alloc ob) F (it :: L) := by
  refine ⟨h.os, h.tape, h.output, by simp; have := h.size; omega, fun b hb hn => ?_, fun x hi => ?_, fun x hi i hk => ?_, ?_⟩
  · rw [Below.heap_alloc _ _ _ (by have := h.size; omega)]
    exact h.frame b hb hn
  · rcases List.mem_cons.1 hi with rfl | hi
    · exact h2
    · exact x.loc (fun i hk => Below.heap_alloc _ _ _ (h.lt hi hk)) (h.all x hi)
  · rcases List.mem_cons.1 hi with rfl | hi
    · rw [h1] at hk
      have : i = w.heap.size := by simpa using hk
      exact .inr (by have := h.size; omega)
    · exact h.own x hi i hk
  · simp only [List.flatMap_cons]
    refine List.nodup_append.2 ⟨by simp [h1], h.nodup, fun a ha b hb => ?_⟩
    rw [h1] at ha
    have : a = w.heap.size := by simpa using ha
    obtain ⟨x, hi, hk⟩ := List.mem_flatMap.1 hb
    have := h.lt hi hk
    omega
/-- A block that is written, of whatever kind. -/
theorem Chg.setOf {w' : World} {it it' : It} {b : Nat} (h : Chg w0 w F (it :: L)) (h1 : it.ids = [b]) (h1' : it'.ids = [b])
    (e1 : w'.os = w.os) (e2 : w'.tape = w.tape) (e3 : w'.output = w.output) (e4 : w'.heap.size = w.heap.size)
    (e5 : ∀ k, k ≠ b → w'.heap[k]? = w.heap[k]?) (e6 : it'.ok w') : Chg w0 w' F (it' :: L) := by
  have hn := h.nodup
  simp only [List.flatMap_cons] at hn
  have hb : ∀ x, x ∈ L → ∀ i, i ∈ x.ids → i ≠ b := fun x hi i hk e => by
    subst e
    exact (List.nodup_append.1 hn).2.2 i (by simp [h1]) i (List.mem_flatMap.2 ⟨x, hi, hk⟩) rfl
  refine ⟨e1.trans h.os, e2.trans h.tape, e3.trans h.output, by rw [e4]; exact h.size, fun k hk hnk => ?_, fun x hi => ?_, fun x hi i hk => ?_, ?_⟩
  · by_cases e : k = b
    · subst e
      rcases h.own it (by simp) k (by simp [h1]) with h' | h'
      · exact absurd h' hnk
      · omega
    · rw [e5 k e]; exact h.frame k hk hnk
  · rcases List.mem_cons.1 hi with rfl | hi
    · exact e6
    · exact x.loc (fun i hk => e5 i (hb x hi i hk)) (h.all x (by simp [hi]))
  · rcases List.mem_cons.1 hi with rfl | hi
    · exact h.own it (by simp) i (by rw [h1]; rwa [h1'] at hk)
    · exact h.own x (by simp [hi]) i hk
  · simp only [List.flatMap_cons, h1']
    rwa [h1] at hn
theorem findNow_set (n : Int) : ∀ (ks : List Int) (i j : Nat), (n ∈ ks → ∃ r, Instr.findNow (.int .i64) (.int .i64 n) (setL ks i) j = some (some (r, .bool true))) ∧ (n ∉ ks → Instr.findNow (.int .i64) (.int .i64 n) (setL ks i) j = some none)
  | [], i, j => ⟨by simp, fun _ => rfl⟩
  | k :: ks, i, j => by
    obtain ⟨h1, h2⟩ := findNow_set n ks (i + 1) (j + 1)
    simp only [setL, Instr.findNow, Instr.sameNow, ↓reduceIte]
    by_cases e : n = k
    · subst e; simp
    · have : (n == k) = false := by simp [e]
      simp only [this, List.mem_cons, e, false_or]
      exact ⟨h1, h2⟩
theorem run_lookup_set {T : TypeId} [st : SetT P T] {b : Nat} {ks : List Int} {n : Int} (h : (setIt b ks).ok w) : (Instr.lookup T (.map (some b)) (.int .i64 n) false).run P w = .ok (.bool (decide (n ∈ ks))) w := by
  obtain ⟨k, e, h1, h2, h3⟩ := st.und
  have hb : w.heap[b]? = some (.map (setL ks 0).toArray ks.length) := h
  have hz : (zeroValue e).run P w = .ok (.bool false) w := by
    cases hq : P.info? e with
    | none => simp [hq] at h3
    | some x => simp [hq] at h3; simp [zeroValue, typeInfo, hq, h3]
  have hck : ∀ em, (Instr.checkKey em 10000 k (.int .i64 n)).run P w = .ok () w := fun em => run_checkKey h2 (by simp [IsKey]) em 9999
  have hg : (getObj b).run P w = .ok (.map (setL ks 0).toArray ks.length) w := by simp [getObj, Sem.run, hb]
  simp only [Instr.lookup, Sem.run_bind, run_underlying h1, Result.andThen_ok, hg, Sem.run_pure, hck]
  by_cases hm : n ∈ ks
  · obtain ⟨r, hr⟩ := (findNow_set n ks 0 0).1 hm
    rw [run_findKey h2 hr]
    simp [hm]
  · rw [run_findKey h2 ((findNow_set n ks 0 0).2 hm)]
    simp [hm, Sem.run_bind, hz]
theorem run_update_set {T : TypeId} [st : SetT P T] {b : Nat} {ks : List Int} {n : Int} (h : (setIt b ks).ok w) (hn : n ∉ ks) :
    ∃ w', (Instr.mapUpdate T (.map (some b)) (.int .i64 n) (.bool true)).run P w = .ok () w' ∧ w'.os = w.os ∧ w'.tape = w.tape ∧ w'.output = w.output ∧ w'.heap.size = w.heap.size ∧ (∀ k, k ≠ b → w'.heap[k]? = w.heap[k]?) ∧ (setIt b (ks ++ [n])).ok w' := by
  obtain ⟨k, e, h1, h2, h3⟩ := st.und
  have hb : w.heap[b]? = some (.map (setL ks 0).toArray ks.length) := h
  have hck : ∀ em, (Instr.checkKey em 10000 k (.int .i64 n)).run P w = .ok () w := fun em => run_checkKey h2 (by simp [IsKey]) em 9999
  have hg : (getObj b).run P w = .ok (.map (setL ks 0).toArray ks.length) w := by simp [getObj, Sem.run, hb]
  have hlt : b < w.heap.size := (Array.getElem?_eq_some_iff.1 hb).1
  refine ⟨{ w with heap := w.heap.setIfInBounds b (.map (setL (ks ++ [n]) 0).toArray (ks ++ [n]).length) }, ?_, rfl, rfl, rfl, by simp, fun k hk => by simp [Array.getElem?_setIfInBounds, Ne.symm hk], ?_⟩
  · simp only [Instr.mapUpdate, Sem.run_bind, run_underlying h1, Result.andThen_ok, hg, hck, run_findKey h2 ((findNow_set n ks 0 0).2 hn)]
    simp [setObj, Sem.run, hb, setL_snoc]
  · simp [setIt, Array.getElem?_setIfInBounds, hlt]
theorem wl_makeSet {T : TypeId} (hS : Chg w0 w F L) (hgd : o.guard = none) (ho : o.op = .makeMap T none)
    (h : ∀ b w', Chg w0 w' F (setIt b [] :: L) → wpList P ops Q rest (a.put o.dst (.map (some b))) w') : wpList P ops Q (o :: rest) a w :=
  wpList_plain hgd fun K hK => by
    unfold Oper.wp execOp
    simp only [ho, Option.map_none, Instr.makeMap, newObj, Sem.run_bind, Sem.run, Sem.run_pure, Result.andThen_ok]
    exact hK _ _ (h _ _ (hS.allocOf (it := setIt w.heap.size []) rfl (heap_alloc_new w _)))
theorem wl_lookupSet {T : TypeId} [st : SetT P T] {m x : Operand} {b : Nat} {ks : List Int} {n : Int} {v : Bool} (hgd : o.guard = none) (ho : o.op = .lookup T m x false) (hm : a.eval m = .map (some b)) (hx : a.eval x = .int .i64 n) (hS : (setIt b ks).ok w) (hv : decide (n ∈ ks) = v)
    (h : wpList P ops Q rest (a.put o.dst (.bool v)) w) : wpList P ops Q (o :: rest) a w :=
  wpList_plain hgd fun K hK => by
    subst hv
    unfold Oper.wp execOp
    simp only [ho, hm, hx, Sem.run_bind, run_lookup_set hS, Result.andThen_ok, Sem.run_pure]
    exact hK _ _ h
theorem wl_updateSet {T : TypeId} [st : SetT P T] {m x y : Operand} {b : Nat} {ks : List Int} {n : Int} {L' : List It} (i : Nat) (hS : Chg w0 w F L) (hi : L[i]? = some (setIt b ks)) (he : L.eraseIdx i = L') (hgd : o.guard = none) (ho : o.op = .mapUpdate T m x y) (hm : a.eval m = .map (some b)) (hx : a.eval x = .int .i64 n) (hy : a.eval y = .bool true) (hn : n ∉ ks)
    (h : ∀ w', Chg w0 w' F (setIt b (ks ++ [n]) :: L') → wpList P ops Q rest (a.put o.dst undef) w') : wpList P ops Q (o :: rest) a w :=
  wpList_plain hgd fun K hK => by
    have hS1 := hS.front i hi he
    obtain ⟨w', hr, e1, e2, e3, e4, e5, e6⟩ := run_update_set (P := P) (T := T) hS1.head hn
    unfold Oper.wp execOp
    simp only [ho, hm, hx, hy, Sem.run_bind, hr, Result.andThen_ok, Sem.run_pure]
    exact hK _ _ (h _ (hS1.setOf (it' := setIt b (ks ++ [n])) rfl rfl e1 e2 e3 e4 e5 e6))
end
end Go.Dyn
namespace Go.Dyn
open Go Go.RowKit
structure Disk where
  firm : List Pg
  loose : List (Nat × Pg)
  down : Bool
def pagesV (l : List Pg) : List Value := l.flatMap fun p => p.enc.toList
def looseC (x : Nat × Pg) : List Value := .int .i64 (x.1 : Int) :: x.2.enc.toList
def looseV (l : List (Nat × Pg)) : List Value := l.flatMap looseC
@[simp] theorem pagesV_length (l : List Pg) : (pagesV l).length = 128 * l.length := by
  induction l with
  | nil => simp [pagesV]
  | cons p l ih => simp only [pagesV, List.flatMap_cons, List.length_append, List.length_cons] at *; rw [ih]; simp; omega
@[simp] theorem looseC_length (x : Nat × Pg) : (looseC x).length = 129 := by simp [looseC]
@[simp] theorem looseV_length (l : List (Nat × Pg)) : (looseV l).length = l.length * 129 := by
  induction l with
  | nil => simp [looseV]
  | cons p l ih => simp only [looseV, List.flatMap_cons, List.length_append, List.length_cons] at *; rw [ih]; simp; omega
theorem flat_part {α : Type} (f : α → List Value) (n : Nat) (hf : ∀ x, (f x).length = n) : ∀ (l : List α) (i : Nat) (h : i < l.length), ((l.flatMap f).drop (i * n)).take n = f l[i]
  | x :: l, 0, _ => by simp [List.take_append, hf]
  | x :: l, i + 1, h => by
    have ih := flat_part f n hf l i (by simpa using h)
    simp only [List.flatMap_cons, List.getElem_cons_succ]
    rw [List.drop_append, List.drop_eq_nil_of_le (by rw [hf, Nat.add_mul]; omega), List.nil_append, hf]
    rw [show (i + 1) * n - n = i * n by rw [Nat.add_mul]; omega]
    exact ih
theorem pages_part (l : List Pg) (i : Nat) (h : i < l.length) : part (pagesV l).toArray (i * 128) 128 = l[i].enc := by
  have := flat_part (fun p : Pg => p.enc.toList) 128 (by simp) l i h
  apply Array.ext'
  rw [← this]
  simp [part, pagesV, List.extract_eq_take_drop]
theorem flat_over {α : Type} (f : α → List Value) (n : Nat) (hf : ∀ x, (f x).length = n) : ∀ (l : List α) (i : Nat) (y : α), i < l.length → (l.flatMap f).take (i * n) ++ f y ++ (l.flatMap f).drop (i * n + n) = (l.set i y).flatMap f
  | x :: l, 0, y, _ => by simp [List.drop_append, hf, List.drop_eq_nil_of_le]
  | x :: l, i + 1, y, h => by
    have ih := flat_over f n hf l i y (by simpa using h)
    simp only [List.set_cons_succ, List.flatMap_cons, ← ih]
    rw [List.take_append, List.drop_append, hf, List.take_of_length_le (by rw [hf, Nat.add_mul]; omega), List.drop_eq_nil_of_le (by rw [hf, Nat.add_mul]; omega)]
    rw [show (i + 1) * n - n = i * n by rw [Nat.add_mul]; omega, show (i + 1) * n + n - n = i * n + n by rw [Nat.add_mul]; omega]
    simp
theorem pages_lay (l : List Pg) (i : Nat) (p : Pg) (h : i < l.length) : lay (pagesV l).toArray (i * 128) p.enc = (pagesV (l.set i p)).toArray := by
  have := flat_over (fun p : Pg => p.enc.toList) 128 (by simp) l i p h
  unfold lay pagesV
  simp only [Pg.size_enc]
  rw [← this]
/-- What a sector reads as. -/
def readFrom (l : List (Nat × Pg)) (i : Nat) (p : Pg) : Pg := l.foldl (fun p x => if x.1 = i then x.2 else p) p
def Disk.read (D : Disk) (i : Nat) : Pg := readFrom D.loose i (D.firm.getD i Pg.zero)
def applyTo (l : List (Nat × Pg)) (f : List Pg) : List Pg := l.foldl (fun f x => f.set x.1 x.2) f
@[simp] theorem applyTo_length (l : List (Nat × Pg)) : ∀ f, (applyTo l f).length = f.length := by
  induction l with
  | nil => intro f; rfl
  | cons x l ih => intro f; simp only [applyTo, List.foldl_cons] at *; rw [ih]; simp
def Disk.flush (D : Disk) : Disk := { D with firm := applyTo D.loose D.firm, loose := [] }
def Disk.write (D : Disk) (i : Nat) (p : Pg) : Disk := { D with loose := D.loose ++ [(i, p)] }
def Disk.new (n : Nat) : Disk := ⟨List.replicate n Pg.zero, [], false⟩
theorem readFrom_snoc (l : List (Nat × Pg)) (x : Nat × Pg) (i : Nat) (p : Pg) : readFrom (l ++ [x]) i p = if x.1 = i then x.2 else readFrom l i p := by simp [readFrom]
theorem loose_part (l : List (Nat × Pg)) (i : Nat) (h : i < l.length) : ((looseV l).drop (i * 129)).take (looseC l[i]).length = looseC l[i] := by
  rw [looseC_length]
  exact flat_part looseC 129 looseC_length l i h
theorem looseC_page (x : Nat × Pg) : part (looseC x).toArray 1 128 = x.2.enc := by
  apply Array.ext'
  simp [part, looseC, List.extract_eq_take_drop]
  rw [List.take_of_length_le (by simp)]
theorem looseC_one {x : Nat × Pg} : ∀ v, v ∈ (looseC x).toArray → v.oneCell' = true := fun v hv => by
  have hv : v ∈ looseC x := by simpa using hv
  rcases List.mem_cons.1 hv with rfl | hv
  · rfl
  · exact Pg.one v (by simpa using hv)
theorem readFrom_take (l : List (Nat × Pg)) (k i : Nat) (p : Pg) (h : k < l.length) : readFrom (l.take (k + 1)) i p = if l[k].1 = i then l[k].2 else readFrom (l.take k) i p := by
  rw [List.take_succ_eq_append_getElem h, readFrom_snoc]
end Go.Dyn
