/- Naturals in rows of limbs, their numbers, and the contracts of package nat's shifts, comparisons and conversions. By an AI agent. -/
import Derived.WalkKit
import Derived.KernelRfl
import Derived.Deep.QuietTactic
import Derived.BigQuiet
import Derived.Deep.LoopGhost
import Derived.Deep.Draws
import Derived.Test.YtffkedepffjobaaDoorProg
import Derived.Maps.AppendAt
import Derived.WalkLawsBesides
import Derived.WalkSpells
import Derived.Laws.AppendOwnNone
import Derived.StillTailTactics
import Derived.Deep.RegionHeld3
import Derived.Deep.DeepCutAuto
import Derived.Lib.Hide
import Derived.Lib.BitFns
import Derived.Lib.Strings
import Derived.Lib.Slices
import Derived.Lib.Small
import Derived.Lib.Walk
import Derived.Deep.DrawnRows
namespace Go.Proofs.YtffkedepffjobaaDoor
open Go.RowKit

/-! ### Numbers as rows of limbs -/

/-- The number that a row of limbs stands for. -/
def val : List Nat → Nat
  | [] => 0
  | x :: l => x + 4294967296 * val l

/-- All limbs are limbs. -/
def Lim (l : List Nat) : Prop := ∀ x ∈ l, x < 4294967296

/-- A right row: limbs, the last one not 0. -/
def Nrm (l : List Nat) : Prop := Lim l ∧ (l = [] ∨ l.getLast? ≠ some 0)

theorem Lim.nil : Lim [] := by intro x h; cases h
theorem Lim.cons {x l} (hx : x < 4294967296) (hl : Lim l) : Lim (x :: l) := by
  intro y hy
  rcases List.mem_cons.1 hy with rfl | h
  · exact hx
  · exact hl y h
theorem Lim.head {x l} (h : Lim (x :: l)) : x < 4294967296 := h x List.mem_cons_self
theorem Lim.tail {x l} (h : Lim (x :: l)) : Lim l := fun y hy => h y (List.mem_cons_of_mem _ hy)
theorem Lim.app {l m} (h : Lim l) (k : Lim m) : Lim (l ++ m) := by
  intro y hy
  rcases List.mem_append.1 hy with g | g
  · exact h y g
  · exact k y g
theorem Lim.snoc {l x} (h : Lim l) (k : x < 4294967296) : Lim (l ++ [x]) := h.app (Lim.cons k Lim.nil)
theorem Lim.take {l} (h : Lim l) (n : Nat) : Lim (l.take n) := fun y hy => h y (List.mem_of_mem_take hy)
theorem Lim.drop {l} (h : Lim l) (n : Nat) : Lim (l.drop n) := fun y hy => h y (List.mem_of_mem_drop hy)
theorem Lim.at {l} (h : Lim l) (i : Nat) : l[i]?.getD 0 < 4294967296 := by
  rcases hi : l[i]? with _ | x
  · simp
  · exact h x (List.mem_of_getElem? hi)
theorem Lim.rep (n : Nat) : Lim (List.replicate n 0) := fun y hy => by rw [(List.mem_replicate.1 hy).2]; omega

theorem val_nil : val [] = 0 := rfl
theorem val_cons (x : Nat) (l : List Nat) : val (x :: l) = x + 4294967296 * val l := rfl
theorem val_one (x : Nat) : val [x] = x := by simp [val]
theorem val_app (l m : List Nat) : val (l ++ m) = val l + 2 ^ (32 * l.length) * val m := by
  induction l with
  | nil => simp [val]
  | cons x l ih =>
    simp only [List.cons_append, val, ih, List.length_cons]
    have : 2 ^ (32 * (l.length + 1)) = 4294967296 * 2 ^ (32 * l.length) := by
      rw [Nat.mul_add, Nat.pow_add, Nat.mul_comm]
    rw [this, Nat.mul_add, Nat.mul_assoc]
    omega
theorem val_snoc (l : List Nat) (x : Nat) : val (l ++ [x]) = val l + 2 ^ (32 * l.length) * x := by rw [val_app, val_one]
theorem val_lt {l : List Nat} (h : Lim l) : val l < 2 ^ (32 * l.length) := by
  induction l with
  | nil => simp [val]
  | cons x l ih =>
    have h1 := ih h.tail
    have h2 := h.head
    have : 2 ^ (32 * (l.length + 1)) = 4294967296 * 2 ^ (32 * l.length) := by
      rw [Nat.mul_add, Nat.pow_add, Nat.mul_comm]
    simp only [val, List.length_cons, this]
    omega
theorem val_rep (n : Nat) : val (List.replicate n 0) = 0 := by
  induction n with
  | zero => rfl
  | succ n ih => simp [List.replicate_succ, val, ih]
theorem val_take_drop (l : List Nat) (n : Nat) (h : n ≤ l.length) : val l = val (l.take n) + 2 ^ (32 * n) * val (l.drop n) := by
  conv => lhs; rw [← List.take_append_drop n l]
  rw [val_app, List.length_take, Nat.min_eq_left h]

theorem Nrm.nil : Nrm [] := ⟨Lim.nil, .inl rfl⟩
theorem Nrm.tail {x l} (h : Nrm (x :: l)) : Nrm l := by
  refine ⟨h.1.tail, ?_⟩
  rcases h.2 with h2 | h2
  · cases h2
  · cases l with
    | nil => exact .inl rfl
    | cons y l => right; simpa [List.getLast?_cons_cons] using h2
theorem Nrm.zero {l} (h : Nrm l) (h0 : val l = 0) : l = [] := by
  induction l with
  | nil => rfl
  | cons x l ih =>
    simp only [val] at h0
    have := ih h.tail (by omega)
    subst this
    rcases h.2 with h2 | h2
    · exact h2
    · exact absurd (by simp; omega) h2
theorem Nrm.inj {l m} (h : Nrm l) (k : Nrm m) (e : val l = val m) : l = m := by
  induction l generalizing m with
  | nil => exact (k.zero (by rw [← e]; rfl)).symm
  | cons x l ih =>
    cases m with
    | nil => exact h.zero (by rw [e]; rfl)
    | cons y m =>
      have hx := h.1.head
      have hy := k.1.head
      simp only [val] at e
      have h1 : x = y := by omega
      have h2 : val l = val m := by omega
      rw [h1, ih h.tail k.tail h2]
theorem Nrm.le {l} (h : Nrm l) (h0 : l ≠ []) : 2 ^ (32 * (l.length - 1)) ≤ val l := by
  rcases h.2 with h2 | h2
  · exact absurd h2 h0
  · rcases List.eq_nil_or_concat l with rfl | ⟨m, x, rfl⟩
    · exact absurd rfl h0
    · simp only [List.concat_eq_append] at *
      have hx : x ≠ 0 := by simpa using h2
      rw [val_snoc]
      simp only [List.length_append, List.length_cons, List.length_nil, Nat.zero_add, Nat.add_sub_cancel]
      exact Nat.le_trans (Nat.le_mul_of_pos_right _ (by omega)) (Nat.le_add_left _ _)
theorem Nrm.snoc {l x} (h : Lim l) (hx : x < 4294967296) (h0 : x ≠ 0) : Nrm (l ++ [x]) := ⟨h.snoc hx, .inr (by simpa using h0)⟩

/-! ### Numbers of bits -/

/-- The least n of which 2^n is above x. -/
def bl (x : Nat) : Nat := if x = 0 then 0 else Nat.log2 x + 1

theorem bl_zero : bl 0 = 0 := rfl
theorem bl_le_iff {x n : Nat} : bl x ≤ n ↔ x < 2 ^ n := by
  unfold bl
  split
  · rename_i h; subst h; simp [Nat.two_pow_pos]
  · rename_i h; rw [← Nat.log2_lt h]; omega
theorem bl_lt {x : Nat} : x < 2 ^ bl x := bl_le_iff.1 (Nat.le_refl _)
theorem lt_bl_iff {x n : Nat} : n < bl x ↔ 2 ^ n ≤ x := by
  have := @bl_le_iff x n
  omega
theorem le_bl {x : Nat} (h : x ≠ 0) : 2 ^ (bl x - 1) ≤ x := lt_bl_iff.1 (by unfold bl; rw [if_neg h]; omega)
theorem bl_pos {x : Nat} (h : x ≠ 0) : 0 < bl x := by unfold bl; rw [if_neg h]; omega
theorem bl_eq_zero {x : Nat} : bl x = 0 ↔ x = 0 := by unfold bl; split <;> simp_all
theorem bl_mono {x y : Nat} (h : x ≤ y) : bl x ≤ bl y := bl_le_iff.2 (Nat.lt_of_le_of_lt h bl_lt)
theorem bl_add (x y : Nat) : bl (x + y) ≤ max (bl x) (bl y) + 1 := by
  rw [bl_le_iff, Nat.pow_succ]
  have h1 := bl_le_iff.1 (Nat.le_max_left (bl x) (bl y))
  have h2 := bl_le_iff.1 (Nat.le_max_right (bl x) (bl y))
  omega
theorem bl_mul (x y : Nat) : bl (x * y) ≤ bl x + bl y := by
  rw [bl_le_iff, Nat.pow_add]
  exact Nat.mul_lt_mul'' bl_lt bl_lt
theorem bl_shl (x n : Nat) (h : x ≠ 0) : bl (x * 2 ^ n) = bl x + n := by
  apply Nat.le_antisymm
  · rw [bl_le_iff, Nat.pow_add]; exact Nat.mul_lt_mul_of_pos_right bl_lt (Nat.two_pow_pos n)
  · have h1 := bl_pos h
    have := @lt_bl_iff (x * 2 ^ n) (bl x - 1 + n)
    have h2 : 2 ^ (bl x - 1 + n) ≤ x * 2 ^ n := by rw [Nat.pow_add]; exact Nat.mul_le_mul_right _ (le_bl h)
    have := this.2 h2
    omega
theorem bl_shl_le (x n : Nat) : bl (x * 2 ^ n) ≤ bl x + n := by
  by_cases h : x = 0
  · subst h; simp [bl_zero]
  · rw [bl_shl x n h]; omega
theorem bl_shr (x n : Nat) : bl (x / 2 ^ n) = bl x - n := by
  apply Nat.le_antisymm
  · rw [bl_le_iff, Nat.div_lt_iff_lt_mul (Nat.two_pow_pos n), ← Nat.pow_add]
    exact bl_le_iff.1 (by omega)
  · by_cases h : bl x ≤ n
    · omega
    · have h0 : x ≠ 0 := by intro e; subst e; simp [bl_zero] at h
      have h2 : 2 ^ (bl x - 1 - n) ≤ x / 2 ^ n := by
        rw [Nat.le_div_iff_mul_le (Nat.two_pow_pos n), ← Nat.pow_add, show bl x - 1 - n + n = bl x - 1 by omega]
        exact le_bl h0
      have := lt_bl_iff.2 h2
      omega
theorem bl_div (x y : Nat) : bl (x / y) ≤ bl x := bl_mono (Nat.div_le_self _ _)
theorem bl_sub (x y : Nat) : bl (x - y) ≤ bl x := bl_mono (Nat.sub_le _ _)

/-- How many limbs. -/
theorem Nrm.len {l} (h : Nrm l) : l.length = (bl (val l) + 31) / 32 := by
  by_cases h0 : l = []
  · subst h0; simp [val, bl_zero]
  · have h1 := lt_bl_iff.2 (h.le h0)
    have h2 := bl_le_iff.2 (val_lt h.1)
    have h3 : 0 < l.length := List.length_pos_iff.2 h0
    omega

/-! ### Rows in memory -/

/-- A row of whole numbers that is read. -/
def Rd (w : World) (k : IntKind) (v : Value) (l : List Nat) : Prop :=
  ∃ A c, v = .slice A l.length c ∧ l.length ≤ c ∧ (A = none → c = 0) ∧ (0 < l.length → ∃ ad, A = some ad ∧ ∀ j, j < l.length → w.cell? (ad.add j) = some (.int k (l[j]?.getD 0 : Nat)))

/-- A natural in memory. -/
def IsN (w : World) (v : Value) (n : Nat) : Prop := ∃ l, Rd w .u32 v l ∧ Nrm l ∧ val l = n

theorem Rd.up {w w1 : World} {k v l} (h : Rd w k v l) (hb : Below w.heap.size w w1) : Rd w1 k v l := by
  obtain ⟨A, c, e, hc, hz, hr⟩ := h
  exact ⟨A, c, e, hc, hz, fun h0 => by
    obtain ⟨ad, e, hr⟩ := hr h0
    exact ⟨ad, e, fun j hj => (hb.cell (World.block_lt_of_cell? w _ (hr j hj))).trans (hr j hj)⟩⟩
theorem Rd.nil (w : World) (k : IntKind) (A : Option Addr) (c : Nat) (hz : A = none → c = 0) : Rd w k (.slice A 0 c) [] := ⟨A, c, rfl, Nat.zero_le _, hz, fun h => absurd h (by simp)⟩
theorem Rd.take {w : World} {k A n c l} (h : Rd w k (.slice A n c) l) (m : Nat) (hm : m ≤ l.length) : Rd w k (.slice A m c) (l.take m) := by
  obtain ⟨A, c, e, hc, hz, hr⟩ := h
  cases e
  refine ⟨A, c, by rw [List.length_take, Nat.min_eq_left hm], by rw [List.length_take]; omega, hz, fun h0 => ?_⟩
  rw [List.length_take, Nat.min_eq_left hm] at h0 ⊢
  obtain ⟨ad, e, hr⟩ := hr (by omega)
  refine ⟨ad, e, fun j hj => ?_⟩
  rw [hr j (by omega)]
  simp [hj]
theorem IsN.up {w w1 : World} {v n} (h : IsN w v n) (hb : Below w.heap.size w w1) : IsN w1 v n := by
  obtain ⟨l, h, k⟩ := h
  exact ⟨l, h.up hb, k⟩
theorem IsN.inj {w : World} {v n m} (h : IsN w v n) (k : IsN w v m) : n = m := by
  obtain ⟨l, ⟨A, c, e, hc, _, hr⟩, hn, rfl⟩ := h
  obtain ⟨l', ⟨A', c', e', hc', _, hr'⟩, hn', rfl⟩ := k
  rw [e] at e'
  injection e' with e1 e2 e3
  have : l = l' := by
    apply List.ext_getElem e2
    intro i h1 h2
    obtain ⟨ad, e4, h4⟩ := hr (by omega)
    obtain ⟨ad', e5, h5⟩ := hr' (by omega)
    subst e4
    have e6 : ad = ad' := by rw [e5] at e1; injection e1
    subst e6
    have := (h4 i h1).symm.trans (h5 i h2)
    simp [h1, h2] at this
    omega
  rw [this]

theorem up_alloc {w W : World} (h : Below w.heap.size w W) (o : Obj) : Below w.heap.size w (W.alloc o) := h.alloc h.size o
theorem up_then {w w1 w2 : World} (h : Below w.heap.size w w1) (k : Below w1.heap.size w1 w2) : Below w.heap.size w w2 :=
  h.trans ⟨k.os, k.tape, k.output, k.size, fun i hi => k.block i (Nat.lt_of_lt_of_le hi h.size)⟩
theorem up_drewN {B : Nat} {w W : World} (h : Below B w W) (n : Nat) : Below B w (W.drewN n) := ⟨h.os, h.tape, h.output, h.size, h.block⟩
theorem IsN.al {w : World} {v n} (h : IsN w v n) (o : Obj) : IsN (w.alloc o) v n := h.up (up_alloc (Below.refl _ _) o)
theorem IsN.dr {w : World} {v n} (h : IsN w v n) : IsN w.drew v n := h.up (Below.refl _ _).drew
theorem Rd.al {w : World} {k v l} (h : Rd w k v l) (o : Obj) : Rd (w.alloc o) k v l := h.up (up_alloc (Below.refl _ _) o)

/-- An answer: a value that is as R says, old memory as it was. -/
def Ans (w : World) (R : Value → World → Prop) (e : Ending) (w' : World) : Prop := ∃ v, e = .returned v ∧ R v w' ∧ Below w.heap.size w w'
/-- .. a natural. -/
def AnsN (w : World) (n : Nat) : Ending → World → Prop := Ans w fun v w' => IsN w' v n

def ints (k : IntKind) (l : List Nat) : List Value := l.map fun x => Value.int k ((x : Nat) : Int)
theorem ints_length (k : IntKind) (l : List Nat) : (ints k l).length = l.length := by simp [ints]
theorem ints_app (k : IntKind) (l m : List Nat) : ints k (l ++ m) = ints k l ++ ints k m := by simp [ints]
/-- A row of the call's own, of whole numbers. -/
def Own (w : World) (B : Nat) (e : TypeId) (k : IntKind) (v : Value) (l : List Nat) : Prop := w.ownsRow B e 1 v l.length (ints k l)

theorem Own.rd {w : World} {B e k v l} (h : Own w B e k v l) : Rd w k v l := by
  rcases h.2 with ⟨rfl, h0⟩ | ⟨g, cap, cur, rfl, hb, hg, hn, hm, hs, ht⟩
  · exact ⟨none, 0, by rw [h0], by omega, fun _ => rfl, fun h => by omega⟩
  · refine ⟨_, cap, rfl, hn, (fun e => by cases e), fun _ => ⟨_, rfl, fun j hj => ?_⟩⟩
    have := World.ownsRow.cells (w := w) (base := B) (e := e) (size := 1) (v := .slice (some ⟨g, 0, none⟩) l.length cap) (n := l.length) h (g := g) rfl j
    apply this
    simp [ints, hj]
theorem Own.nil (w : World) (B : Nat) (e : TypeId) (k : IntKind) : Own w B e k (.slice none 0 0) [] := World.ownsRow_nil w B e 1
theorem Own.al {w : World} {B e k v l} (h : Own w B e k v l) (o : Obj) : Own (w.alloc o) B e k v l := World.ownsRow.alloc h o
theorem Own.up {w w1 : World} {B e k v l} (h : Own w B e k v l) (hb : Below w.heap.size w w1) : Own w1 B e k v l :=
  World.ownsRow.kept (row := none) h ⟨hb.os, hb.tape, hb.output, hb.size, fun i hi _ => hb.block i hi⟩ (by cases v.ownBlock <;> simp)
theorem Own.low {w : World} {B B' e k v l} (h : Own w B e k v l) (hb : B' ≤ B) : Own w B' e k v l := by
  refine ⟨h.1, ?_⟩
  rcases h.2 with h2 | ⟨g, cap, cur, h1, h2, h3⟩
  · exact .inl h2
  · exact .inr ⟨g, cap, cur, h1, Nat.le_trans hb h2, h3⟩
theorem Own.base {w : World} {B e k v l} (h : Own w B e k v l) : ∀ g, v.ownBlock = some g → B ≤ g := by
  intro g hg
  exact (World.ownsRow.lt h g hg).1
/-- What has grown has not touched old memory. -/
theorem Own.below {w w1 : World} {B e k v l} (h : Own w B e k v l) (hg : w.grownBy w1 v.ownBlock) (hB : B ≤ w.heap.size) : Below B w w1 :=
  (Below.refl B w).grown hg hB h.base
theorem Own.lit (w : World) (e : TypeId) (k : IntKind) (l : List Nat) (B : Nat) (hB : B ≤ w.heap.size) (hl : l.length ≤ maxLen) :
    Own (w.alloc (.cells (ints k l).toArray e)) B e k (.slice (some ⟨w.heap.size, 0, none⟩) l.length l.length) l :=
  ⟨by rw [ints_length]; omega, .inr ⟨w.heap.size, l.length, _, rfl, hB, heap_alloc_new w _, Nat.le_refl _, hl, by simp [ints_length], List.take_of_length_le (by simp [ints])⟩⟩

/-! ### Words -/
theorem wu64 (n : Int) : IntKind.u64.wrap n = n % 18446744073709551616 := by simp [IntKind.wrap, IntKind.bits, IntKind.signed]
theorem wu32 (n : Int) : IntKind.u32.wrap n = n % 4294967296 := by simp [IntKind.wrap, IntKind.bits, IntKind.signed]
theorem wu64n (n : Nat) (h : n < 18446744073709551616) : IntKind.u64.wrap (n : Int) = n := by rw [wu64]; omega
theorem or64 (a b : Nat) (ha : a < 18446744073709551616) (hb : b < 18446744073709551616) : bits .or .u64 (a : Int) (b : Int) = ((a ||| b : Nat) : Int) :=
  (bits_nat .u64 64 (by decide) (fun n h0 h1 => by rw [wu64]; omega) a b (by simpa using ha) (by simpa using hb)).2
theorem or32 (a b : Nat) (ha : a < 4294967296) (hb : b < 4294967296) : bits .or .u32 (a : Int) (b : Int) = ((a ||| b : Nat) : Int) :=
  (bits_nat .u32 32 (by decide) (fun n h0 h1 => by rw [wu32]; omega) a b (by simpa using ha) (by simpa using hb)).2
theorem or_add (a b k : Nat) (h : a < 2 ^ k) : a ||| b * 2 ^ k = a + b * 2 ^ k := by
  rw [Nat.or_comm, Nat.mul_comm b, ← Nat.two_pow_add_eq_or_of_lt h b, Nat.add_comm]

theorem ret_int {k : IntKind} {a b : Int} (h : a = b) : Ending.returned (.int k a) = .returned (.int k b) := by rw [h]
theorem val_int {k : IntKind} {a b : Int} (h : a = b) : Value.int k a = .int k b := by rw [h]

theorem ret_2 {a b a' b' : Value} (h : a = a') (k : b = b') : Ending.returned (.tuple #[a, b]) = .returned (.tuple #[a', b']) := by rw [h, k]

theorem and32 (a b : Nat) (ha : a < 4294967296) (hb : b < 4294967296) : bits .and .u32 (a : Int) (b : Int) = ((a &&& b : Nat) : Int) :=
  (bits_nat .u32 32 (by decide) (fun n h0 h1 => by rw [wu32]; omega) a b (by simpa using ha) (by simpa using hb)).1
theorem and64 (a b : Nat) (ha : a < 18446744073709551616) (hb : b < 18446744073709551616) : bits .and .u64 (a : Int) (b : Int) = ((a &&& b : Nat) : Int) :=
  (bits_nat .u64 64 (by decide) (fun n h0 h1 => by rw [wu64]; omega) a b (by simpa using ha) (by simpa using hb)).1
theorem xor32 (a b : Nat) (ha : a < 4294967296) (hb : b < 4294967296) : bits .xor .u32 (a : Int) (b : Int) = ((a ^^^ b : Nat) : Int) := by
  have ha' : a % 2 ^ 32 = a := Nat.mod_eq_of_lt ha
  have hb' : b % 2 ^ 32 = b := Nat.mod_eq_of_lt hb
  have h : a ^^^ b < 2 ^ 32 := Nat.xor_lt_two_pow ha hb
  simp only [bits, BitVec.ofInt_natCast, BitVec.toNat_xor, BitVec.toNat_ofNat, show IntKind.u32.bits = 32 from rfl, ha', hb', wu32]
  omega
theorem top32 (r : Nat) (h : r < 4294967296) : r / 2147483648 = if r.testBit 31 then 1 else 0 := by
  have : r.testBit 31 = decide (r / 2 ^ 31 % 2 = 1) := Nat.testBit_eq_decide_div_mod_eq
  rw [this]
  have : r / 2 ^ 31 < 2 := by omega
  by_cases h1 : r / 2147483648 = 1
  · simp [h1]
  · have : r / 2147483648 = 0 := by omega
    simp [this]
theorem bit31 (r : Nat) (h : r < 4294967296) : r.testBit 31 = decide (2147483648 ≤ r) := by
  rw [Nat.testBit_eq_decide_div_mod_eq]
  congr 1
  apply propext
  constructor <;> intro h <;> omega

theorem Own.dr {w : World} {B e k v l} (h : Own w B e k v l) : Own w.drew B e k v l := h.up (Below.refl _ _).drew
theorem Own.drN {w : World} {B e k v l} (h : Own w B e k v l) (n : Nat) : Own (w.drewN n) B e k v l := h.up (up_drewN (Below.refl _ _) n)

/-! ### Reading and writing a row of the call's own -/
theorem Own.form {w : World} {B e k v l} (h : Own w B e k v l) (h0 : 0 < l.length) : ∃ g cap, v = .slice (some ⟨g, 0, none⟩) l.length cap ∧ B ≤ g ∧ g < w.heap.size ∧ l.length ≤ cap := by
  rcases h.2 with ⟨_, h2⟩ | ⟨g, cap, cur, rfl, hb, hg, hn, _⟩
  · omega
  · exact ⟨g, cap, rfl, hb, (Array.getElem?_eq_some_iff.1 hg).1, hn⟩
theorem Own.cell {w : World} {B e k g n cap} {l : List Nat} (h : Own w B e k (.slice (some ⟨g, 0, none⟩) n cap) l) (hn : n = l.length) (j : Nat) (hj : j < l.length) : w.cell? ⟨g, j, none⟩ = some (.int k (l[j]?.getD 0 : Nat)) := by
  subst hn
  rw [World.ownsRow.cellAt h j (by omega)]
  simp [ints, hj]
theorem Own.froz {w : World} {B e k g n cap} {l : List Nat} (h : Own w B e k (.slice (some ⟨g, 0, none⟩) n cap) l) (hn : n = l.length) (j : Nat) : w.frozen? ⟨g, j, none⟩ = false := by
  subst hn
  exact World.ownsRow.frozenAt h j
theorem ints_set (k : IntKind) (l : List Nat) (j y : Nat) : (ints k l).set j (.int k (y : Nat)) = ints k (l.set j y) := by simp [ints]
theorem Own.set {w : World} {B e k g n cap} {l : List Nat} (h : Own w B e k (.slice (some ⟨g, 0, none⟩) n cap) l) (hn : n = l.length) (j y : Nat) :
    Own (w.setCell ⟨g, j, none⟩ (.int k (y : Nat))) B e k (.slice (some ⟨g, 0, none⟩) n cap) (l.set j y) := by
  subst hn
  have := (World.ownsRow.stored h j (.int k (y : Nat))).1
  rw [ints_set] at this
  unfold Own
  rw [List.length_set]
  exact this
theorem val_set (l : List Nat) (j y : Nat) (hj : j < l.length) : val (l.set j y) + 2 ^ (32 * j) * (l[j]?.getD 0) = val l + 2 ^ (32 * j) * y := by
  induction l generalizing j with
  | nil => simp at hj
  | cons x l ih =>
    cases j with
    | zero => simp [val]; omega
    | succ j =>
      have := ih j (by simpa using hj)
      simp only [List.set_cons_succ, val, List.getElem?_cons_succ]
      rw [show 32 * (j + 1) = 32 * j + 32 by omega, Nat.pow_add, Nat.mul_comm (2 ^ (32 * j)) (2 ^ 32), Nat.mul_assoc, Nat.mul_assoc, show (2 : Nat) ^ 32 = 4294967296 from rfl]
      omega
theorem Lim.set {l} (h : Lim l) (j y : Nat) (hy : y < 4294967296) : Lim (l.set j y) := by
  intro z hz
  rcases List.mem_or_eq_of_mem_set hz with h1 | rfl
  · exact h z h1
  · exact hy

end Go.Proofs.YtffkedepffjobaaDoor

namespace Go.Proofs.YtffkedepffjobaaDoor
open Go.RowKit
set_option maxRecDepth 100000

theorem inf32 : (Tryd.prog.info? 36).map (fun i => (i.zero, i.size, i.bytes)) = some (some (.int .u32 0), 1, 4) := by kernel_rfl

/-- append to a row of the call's own -/
theorem ap32 {ops : Array Oper} {rest : List Oper} {o : Oper} {a : Act} {Q : Exit → Act → World → Prop} {w : World} (hgd : o.guard = none) (s x : Operand)
    (ho : o.op = .call { callee := .builtin .append, args := #[s, x], argTypes := #[22, 22] })
    (B : Nat) (v : Value) (l : List Nat) (hs : a.eval s = v) (hown : Own w B 36 .u32 v l)
    (ad : Addr) (m c : Nat) (news : List Nat) (hx : a.eval x = .slice (some ad) m c) (hm : news.length = m)
    (hc : ∀ j u, (ints .u32 news)[j]? = some u → w.cell? (ad.add j) = some u) (hb : l.length + m ≤ 35184372088832) (hB : B ≤ w.heap.size)
    (h : ∀ v' w', Own w' B 36 .u32 v' (l ++ news) → w.grownBy w' v.ownBlock → Below B w w' → wpList Tryd.prog ops Q rest (a.put o.dst v') w') :
    wpList Tryd.prog ops Q (o :: rest) a w := by
  obtain ⟨i, hi, hz0, hz1, hz2⟩ := info_parts inf32
  refine wpList_append_own w hgd s x _ ho B 36 i (.int .u32 0) 1 4 Tryd.underlying22 hi hz0 hz1 hz2 rfl (by decide) v l.length (ints .u32 l) hs hown ad m c (ints .u32 news) hx (by rw [ints_length]; omega) hc ?_ (by unfold maxLen; omega) (by omega) hB ?_
  · intro u hu
    obtain ⟨y, _, rfl⟩ := List.mem_map.1 hu
    rfl
  · intro v' w' h1 h2 _
    refine h v' w' ?_ h2 (hown.below h2 hB)
    unfold Own
    rw [ints_app, List.length_append, hm]
    exact h1
/-- .. of what may be nil -/
theorem ap32n {ops : Array Oper} {rest : List Oper} {o : Oper} {a : Act} {Q : Exit → Act → World → Prop} {w : World} (hgd : o.guard = none) (s x : Operand)
    (ho : o.op = .call { callee := .builtin .append, args := #[s, x], argTypes := #[22, 22] })
    (B : Nat) (v u : Value) (l news : List Nat) (hs : a.eval s = v) (hown : Own w B 36 .u32 v l) (hx : a.eval x = u) (hu : Rd w .u32 u news)
    (hb : l.length + news.length ≤ 35184372088832) (hB : B ≤ w.heap.size)
    (h : ∀ v' w', Own w' B 36 .u32 v' (l ++ news) → w.grownBy w' v.ownBlock → Below B w w' → wpList Tryd.prog ops Q rest (a.put o.dst v') w') :
    wpList Tryd.prog ops Q (o :: rest) a w := by
  obtain ⟨A, c, rfl, hc, hz, hr⟩ := hu
  cases A with
  | some ad =>
    refine ap32 hgd s x ho B v l hs hown ad news.length c news hx rfl ?_ hb hB h
    intro j z hz
    have hj : j < news.length := by
      have := (List.getElem?_eq_some_iff.1 hz).1
      rwa [ints_length] at this
    obtain ⟨ad', e, hr⟩ := hr (by omega)
    cases e
    rw [hr j hj]
    simp [ints, hj] at hz
    simp [hj, hz]
  | none =>
    have h0 : news = [] := by
      cases news with
      | nil => rfl
      | cons y l => obtain ⟨_, e, _⟩ := hr (by simp); cases e
    subst h0
    obtain rfl := hz rfl
    obtain ⟨i, hi, _⟩ := info_parts inf32
    refine wpList_append_own_none hgd s x _ ho B 36 i 1 Tryd.underlying22 hi v l.length (ints .u32 l) hs hown hx ?_
    exact h v w (by rw [List.append_nil]; exact hown) ⟨rfl, rfl, rfl, Nat.le_refl _, fun _ _ _ => rfl⟩ (Below.refl _ _)

theorem eq_nil32 (w : World) (A : Option Addr) (n c n' c' : Nat) :
    (binOp .eql 22 (.slice A n c) (.slice none n' c')).run Tryd.prog w = .ok (.bool A.isNone) w :=
  Lib.run_eql_slice_nil (P := Tryd.prog) w 22 36 A n c n' c' Tryd.underlying22

/-- make of so many noughts -/
theorem mk32 {ops : Array Oper} {rest : List Oper} {o : Oper} {a : Act} {Q : Exit → Act → World → Prop} {w : World} (hgd : o.guard = none) (x y : Operand)
    (ho : o.op = .makeSlice 22 x y) (l c : Nat) (hx : a.eval x = .int .i64 l) (hy : a.eval y = .int .i64 c) (hlc : l ≤ c) (hb : c ≤ 35184372088832) (B : Nat) (hB : B ≤ w.heap.size)
    (h : ∀ v w', Own w' B 36 .u32 v (List.replicate l 0) → Below w.heap.size w w' → wpList Tryd.prog ops Q rest (a.put o.dst v) w') :
    wpList Tryd.prog ops Q (o :: rest) a w := by
  obtain ⟨i, hi, hz0, hz1, hz2⟩ := info_parts inf32
  refine wpList_plain hgd fun K hK => ?_
  have hr := run_make (P := Tryd.prog) w 22 36 i (.int .u32 0) Tryd.underlying22 hi hz0 .i64 .i64 l c (by omega) (by omega) (by rw [hz2]; omega) (by omega)
  unfold Oper.wp execOp
  simp only [ho, Sem.run_bind, Sem.run_pure, Result.andThen_ok, hx, hy, hr]
  refine hK _ _ (h _ _ ⟨?_, .inr ⟨w.heap.size, c, _, ?_, hB, heap_alloc_new w _, ?_, ?_, ?_, ?_⟩⟩ (up_alloc (Below.refl _ _) _))
  · simp [ints]
  · simp
  · simp; omega
  · unfold maxLen; omega
  · simp [size_madeCells, hz1]
  · simp only [ints, List.map_replicate, List.length_replicate, Nat.mul_one, hz1, Int.toNat_natCast, Value.cells, madeCells]
    apply List.ext_getElem
    · simp; omega
    · intro j h1 h2
      simp [Nat.mod_one]
/-- append in a region that draws its order -/
theorem st32 {ops : Array Oper} {o : Oper} {a : Act} {K : Act → World → Prop} {Q : Exit → Act → World → Prop} {E : Prop} {w : World} (hgd : o.guard = none) (s x : Operand)
    (ho : o.op = .call { callee := .builtin .append, args := #[s, x], argTypes := #[22, 22] })
    (B : Nat) (v : Value) (l : List Nat) (hs : a.eval s = v) (hown : Own w B 36 .u32 v l)
    (ad : Addr) (m c : Nat) (news : List Nat) (hx : a.eval x = .slice (some ad) m c) (hm : news.length = m)
    (hc : ∀ j u, (ints .u32 news)[j]? = some u → w.cell? (ad.add j) = some u) (hb : l.length + m ≤ 35184372088832) (hB : B ≤ w.heap.size)
    (h : ∀ v' w', Own w' B 36 .u32 v' (l ++ news) → w.grownBy w' v.ownBlock → Below B w w' → K (a.put o.dst v') w') :
    if Region.wanted o (yielded ops a.tmps) = true then Oper.wp Tryd.prog o a w K Q else E := by
  have hw : Region.wanted o (yielded ops a.tmps) = true := by simp [Region.wanted, hgd]
  rw [if_pos hw]
  obtain ⟨i, hi, hz0, hz1, hz2⟩ := info_parts inf32
  refine wp_append_own w s x _ ho B 36 i (.int .u32 0) 1 4 Tryd.underlying22 hi hz0 hz1 hz2 rfl (by decide) v l.length (ints .u32 l) hs hown ad m c (ints .u32 news) hx (by rw [ints_length]; omega) hc ?_ (by unfold maxLen; omega) (by omega) hB ?_
  · intro u hu
    obtain ⟨y, _, rfl⟩ := List.mem_map.1 hu
    rfl
  · intro v' w' h1 h2 _
    refine h v' w' ?_ h2 (hown.below h2 hB)
    unfold Own
    rw [ints_app, List.length_append, hm]
    exact h1
end Go.Proofs.YtffkedepffjobaaDoor

namespace Go.Proofs.YtffkedepffjobaaDoor
open Go.RowKit
set_option maxRecDepth 100000
attribute [local go_sem] eq_nil32

theorem clone_any (w : World) (v : Value) (l : List Nat) (h : Rd w .u32 v l) (hl : l.length ≤ 35184372088832) :
    Calls Tryd.prog 71 #[v] w (Ans w fun v' w' => Own w' w.heap.size 36 .u32 v' l) := by
  have H := Lib.hid h
  have HL := Lib.hid hl
  clear hl
  obtain ⟨A, c, rfl, hc, hz, hr⟩ := h
  cases A with
  | none =>
    obtain rfl := hz rfl
    have h0 : l = [] := by
      cases l with
      | nil => rfl
      | cons y l => obtain ⟨_, e, _⟩ := hr (by simp); cases e
    subst h0
    go_enter Tryd.func71, Tryd.ntmps71
    go_wp2
    go_ret
    exact ⟨_, rfl, Own.nil _ _ _ _, Below.refl _ _⟩
  | some ad =>
    go_enter Tryd.func71, Tryd.ntmps71
    go_wp2_with (at_builtin; refine ap32n rfl _ _ rfl w.heap.size _ _ [] l rfl (Own.lit w _ _ [] _ (Nat.le_refl _) (by simp)) rfl (H.out.al _) (by simpa using HL.out) (by simp) ?_; intro v' w' ho hg hb)
    go_ret
    exact ⟨_, rfl, ho, ((Below.refl _ _).alloc (Nat.le_refl _) _).trans hb⟩

end Go.Proofs.YtffkedepffjobaaDoor

namespace Go.Proofs.YtffkedepffjobaaDoor
open Go.RowKit
set_option maxRecDepth 100000

theorem val_take_zero (l : List Nat) (k n : Nat) (hk : k < l.length) (h0 : l[k]?.getD 0 = 0) (h : val (l.take (k + 1)) = n) : val (l.take k) = n := by
  rw [List.take_succ_eq_append_getElem hk, val_snoc] at h
  have : l[k] = 0 := by simpa [hk] using h0
  rw [this] at h
  simpa using h
theorem nrm_take (l : List Nat) (k : Nat) (hl : Lim l) (hk : k < l.length) (h0 : l[k]?.getD 0 ≠ 0) : Nrm (l.take (k + 1)) := by
  rw [List.take_succ_eq_append_getElem hk]
  have : l[k] ≠ 0 := by simpa [hk] using h0
  exact Nrm.snoc (hl.take k) (hl _ (List.getElem_mem hk)) this

/-- An answer that is a row of the call's own. -/
def AnsO (w : World) (n : Nat) : Ending → World → Prop := Ans w fun v w' => ∃ l, Own w' w.heap.size 36 .u32 v l ∧ Nrm l ∧ val l = n
theorem AnsO.ansN {w : World} {n : Nat} {e : Ending} {w' : World} (h : AnsO w n e w') : AnsN w n e w' := by
  obtain ⟨v, e, ⟨l, h1, h2, h3⟩, hb⟩ := h
  exact ⟨v, e, ⟨l, h1.rd, h2, h3⟩, hb⟩
theorem nat_MakeO (w : World) (v : Value) (l : List Nat) (h : Rd w .u32 v l) (hl : Lim l) (hb : l.length ≤ 35184372088832) :
    Calls Tryd.prog 54 #[v] w (AnsO w (val l)) := by
  have H := Lib.hid h
  have HB := Lib.hid hb
  have hc64 : l.length ≤ 9223372036854775807 := by omega
  clear hb
  obtain ⟨A, c, rfl, hc, hz, hr⟩ := h
  go_enter Tryd.func54, Tryd.ntmps54
  go_wp2
  go_loop [3] (fun n => ∃ k : Nat, k ≤ l.length ∧ n = .int .i64 k ∧ Hid (val (l.take k) = val l)) (fun n => (intOf n).toNat)
  case atStart => exact ⟨l.length, Nat.le_refl _, rfl, by rw [List.take_length]; exact Lib.hid rfl⟩
  case round =>
    obtain ⟨k, hk, rfl, hv⟩ := hrel
    have key : k = 0 ∨ (∃ m, k = m + 1 ∧ l[m]?.getD 0 = 0) ∨ (∃ m, k = m + 1 ∧ l[m]?.getD 0 ≠ 0) := by
      cases k with
      | zero => exact .inl rfl
      | succ m => by_cases h : l[m]?.getD 0 = 0
                  · exact .inr (.inl ⟨m, rfl, h⟩)
                  · exact .inr (.inr ⟨m, rfl, h⟩)
    rcases key with rfl | ⟨m, rfl, h0⟩ | ⟨m, rfl, h0⟩
    · clear hr
      have hv0 : val l = 0 := hv.out.symm
      go_wp2_with (go_at_call 71; refine (clone_any w _ [] (Rd.nil _ _ _ _ hz) (by simp)).mono ?_; rintro e w' ⟨v, rfl, ho, hb⟩)
      go_ret
      exact ⟨_, rfl, ⟨[], ho, Nrm.nil, hv0.symm⟩, hb⟩
    · obtain ⟨ad, rfl, hs⟩ := hr (by omega)
      have hx := hs m (by omega)
      rw [h0] at hx
      clear hr hs
      go_wp2
      go_round
      case rel => exact ⟨m, by omega, by go_num, Lib.hid (val_take_zero l m _ hk h0 hv.out)⟩
      case measure => simp [intOf]
    · obtain ⟨ad, rfl, hs⟩ := hr (by omega)
      have hx := hs m (by omega)
      have H' := Lib.hid (H.out.take (m + 1) hk)
      have hne : (((l[m]?.getD 0 : Nat) : Int) == 0) = false := by simpa using h0
      clear hr hs
      go_wp2_with (go_at_call 71; refine (clone_any w _ (l.take (m + 1)) H'.out (by rw [List.length_take]; have := HB.out; omega)).mono ?_; rintro e w' ⟨v, rfl, ho, hb⟩)
      go_ret
      exact ⟨_, rfl, ⟨_, ho, nrm_take l m hl hk h0, hv.out⟩, hb⟩
theorem nat_Make (w : World) (v : Value) (l : List Nat) (h : Rd w .u32 v l) (hl : Lim l) (hb : l.length ≤ 35184372088832) :
    Calls Tryd.prog 54 #[v] w (AnsN w (val l)) := (nat_MakeO w v l h hl hb).mono fun _ _ h => h.ansN

end Go.Proofs.YtffkedepffjobaaDoor

namespace Go.Proofs.YtffkedepffjobaaDoor
open Go.RowKit
set_option maxRecDepth 100000

theorem bitLen_bl (x : Nat) (h : x < 18446744073709551616) : Lib.bitLen x = bl x := by
  have h1 : ∀ k, k ≤ 64 → x < 2 ^ k → Lib.bitLen x ≤ k := fun k hk h => Lib.bitLen_le x k hk h
  have h2 : ∀ f y, Lib.bitLenAux f y ≤ f ∧ (y < 2 ^ f → y < 2 ^ Lib.bitLenAux f y) := by
    intro f
    induction f with
    | zero => intro y; exact ⟨Nat.le_refl _, fun h => h⟩
    | succ f ih =>
      intro y
      unfold Lib.bitLenAux
      split
      · rename_i h; subst h; exact ⟨Nat.zero_le _, fun _ => by simp⟩
      · have := ih (y / 2)
        refine ⟨by omega, fun h => ?_⟩
        have h3 := this.2 (by rw [Nat.pow_succ] at h; omega)
        rw [Nat.add_comm, Nat.pow_succ]
        omega
  apply Nat.le_antisymm
  · exact h1 _ (bl_le_iff.2 (by simpa using h)) bl_lt
  · rw [bl_le_iff]
    exact (h2 64 x).2 (by simpa using h)

theorem len8sz : Lib.len8tab.size = 256 := by decide
theorem len8get (y : Int) (h : y.toNat < Lib.len8tab.size) : (Lib.len8tab[y.toNat]'h).toNat = bl y.toNat := by
  have h1 : y.toNat < 256 := by rw [← len8sz]; exact h
  have h2 := Lib.len8_of (y.toNat : Int) (by omega) (by omega)
  unfold Lib.len8 at h2
  rw [← bitLen_bl _ (by omega)]
  simp only [Int.toNat_natCast] at h2
  rw [getElem?_pos Lib.len8tab y.toNat h] at h2
  simp only [Option.getD_some] at h2
  omega
theorem bl_w (k y x : Nat) (hk : k ≤ 56) (h : y < 256) (e : bl x = k + bl y) : wrap64 ((k : Int) + wrap64 (bl y : Int)) = (bl x : Int) := by
  have : bl y ≤ 8 := bl_le_iff.2 h
  unfold wrap64
  omega
theorem bl_div' (x k : Nat) (h : 2 ^ k ≤ x) : bl x = k + bl (x / 2 ^ k) := by
  rw [bl_shr]
  have := lt_bl_iff.2 h
  omega
set_option maxHeartbeats 4000000 in
attribute [local go_sem] len8sz len8get in
theorem bits_Len32_int (x : Int) (w : World) (h0 : 0 ≤ x) (h1 : x ≤ 4294967295) :
    Calls Tryd.prog 55 #[.int .u32 x] w fun e w' => e = .returned (.int .i64 (bl x.toNat)) ∧ w = w' := by
  go_enter Tryd.func55, Tryd.ntmps55
  go_wp2
  all_goals (go_ret; refine ⟨congrArg Ending.returned (congrArg (Value.int IntKind.i64) ?_), rfl⟩)
  · exact bl_w 24 _ _ (by omega) (by omega) (by rw [bl_div' x.toNat 24 (by omega)]; congr 2; omega)
  · exact bl_w 16 _ _ (by omega) (by omega) (by rw [bl_div' x.toNat 16 (by omega)]; congr 2; omega)
  · exact bl_w 8 _ _ (by omega) (by omega) (by rw [bl_div' x.toNat 8 (by omega)]; congr 2; omega)
  · have := bl_w 0 x.toNat x.toNat (by omega) (by omega) (by omega)
    simpa using this

theorem bits_Len32 (x : Nat) (w : World) (h1 : x ≤ 4294967295) :
    Calls Tryd.prog 55 #[.int .u32 x] w fun e w' => e = .returned (.int .i64 (bl x)) ∧ w = w' :=
  bits_Len32_int x w (by omega) (by omega)
theorem bits_LeadingZeros32 (x : Nat) (w : World) (h1 : x ≤ 4294967295) :
    Calls Tryd.prog 63 #[.int .u32 x] w fun e w' => e = .returned (.int .i64 ((32 - bl x : Nat) : Int)) ∧ w = w' := by
  have hb : bl x ≤ 32 := (bl_le_iff (n := 32)).2 (by show _ < 4294967296; omega)
  go_enter Tryd.func63, Tryd.ntmps63
  go_wp2_with (go_at_call 55; refine (bits_Len32 _ _ h1).mono ?_; rintro e w' ⟨rfl, rfl⟩)
  go_ret
  exact ⟨by rw [Int.ofNat_sub hb]; rfl, rfl⟩

theorem nat_Of (n : Nat) (w : World) (h : n < 18446744073709551616) :
    Calls Tryd.prog 37 #[.int .u64 n] w (AnsN w n) := by
  have hl : Lim [n % 4294967296, n / 4294967296 % 4294967296] := Lim.cons (by omega) (Lim.cons (by omega) Lim.nil)
  have hv : val [n % 4294967296, n / 4294967296 % 4294967296] = n := by simp only [val]; omega
  have H := Lib.hid h
  clear h
  go_enter Tryd.func37, Tryd.ntmps37
  go_wp2_with (go_at_call 54; refine (nat_Make _ _ [n % 4294967296, n / 4294967296 % 4294967296] ((Own.lit w 36 .u32 [n % 4294967296, n / 4294967296 % 4294967296] _ (Nat.le_refl _) (by simp [maxLen])).rd) hl (by simp)).mono ?_; rintro e w' ⟨v, rfl, ho, hb⟩)
  go_ret
  exact ⟨_, rfl, by rw [hv] at ho; exact ho, up_then ((Below.refl _ _).alloc (Nat.le_refl _) _) hb⟩

theorem val_small {l : List Nat} (hl : Nrm l) : (l.length ≤ 2 ↔ val l < 18446744073709551616) := by
  have h := hl.len
  have h1 := @bl_le_iff (val l) 64
  simp at h1
  omega

theorem low_step (l : List Nat) (k : Nat) (hl : Nrm l) (h2 : l.length ≤ 2) (hk : k < l.length) :
    bits .or .u64 (val (l.take k) : Int) (IntKind.u64.wrap (IntKind.u64.wrap (l[k] : Int) * 2 ^ (32 * k))) = (val (l.take (k + 1)) : Int) := by
  have h1 := hl.1 l[k] (List.getElem_mem hk)
  have hv := val_lt (hl.1.take k)
  rw [List.length_take, Nat.min_eq_left (by omega)] at hv
  rw [List.take_succ_eq_append_getElem hk, val_snoc, List.length_take, Nat.min_eq_left (by omega), wu64n _ (by omega)]
  have : k = 0 ∨ k = 1 := by omega
  rcases this with rfl | rfl
  · simp only [Nat.mul_zero, Int.pow_zero, Int.mul_one, Nat.pow_zero, Nat.one_mul] at hv ⊢
    rw [wu64n _ (by omega), show val (l.take 0) = 0 from rfl, or64 _ _ (by omega) (by omega), Nat.zero_or, Nat.zero_add]
  · simp only [Nat.mul_one] at hv ⊢
    have e : ((l[1] : Nat) : Int) * (2 : Int) ^ 32 = ((l[1] * 2 ^ 32 : Nat) : Int) := by rw [Int.natCast_mul]; rfl
    rw [e, wu64n _ (by omega), or64 _ _ (by omega) (by omega), or_add _ _ _ hv, Nat.mul_comm l[1]]

theorem nat_Low (w : World) (v : Value) (n : Nat) (h : IsN w v n) :
    Calls Tryd.prog 35 #[v] w fun e w' => e = .returned (.tuple #[.int .u64 ((if n < 18446744073709551616 then n else 0 : Nat) : Int), .bool (decide (n < 18446744073709551616))]) ∧ w = w' := by
  obtain ⟨l, ⟨A, c, rfl, hc, hz, hr⟩, hn, rfl⟩ := h
  have hs := val_small hn
  have HL := Lib.hid hn
  by_cases h2 : l.length ≤ 2
  · have h3 : val l < 18446744073709551616 := hs.1 h2
    have h4 : decide ((2 : Int) < l.length) = false := by simp; omega
    have HS := Lib.hid h3
    clear hs h3
    rw [if_pos HS.out, decide_eq_true HS.out]
    go_enter Tryd.func35, Tryd.ntmps35
    go_wp2
    go_loop [4, 12] (fun o i => ∃ k : Nat, k ≤ l.length ∧ i = .int .i64 k ∧ o = .int .u64 (val (l.take k) : Nat)) (fun _ i => l.length - (intOf i).toNat)
    case atStart => exact ⟨0, Nat.zero_le _, rfl, rfl⟩
    case round =>
      obtain ⟨k, hk, rfl, rfl⟩ := hrel
      by_cases hlt : k < l.length
      · obtain ⟨ad, rfl, hs⟩ := hr (by omega)
        have hx := hs k hlt
        have hl := HL.out.1.at k
        clear hr hs
        go_wp2
        go_round
        case rel => exact ⟨k + 1, hlt, by go_num, congrArg _ (low_step l k hn h2 hlt)⟩
        case measure => simp [intOf]; omega
      · clear hr
        go_wp2
        go_ret2
        obtain rfl : k = l.length := by omega
        rw [List.take_length]
        exact ⟨rfl, rfl⟩
  · have h3 : ¬ val l < 18446744073709551616 := fun h => h2 (hs.2 h)
    have h4 : decide ((2 : Int) < l.length) = true := by simp; omega
    have HS := Lib.hid h3
    clear hs h3
    rw [if_neg HS.out, decide_eq_false HS.out]
    go_enter Tryd.func35, Tryd.ntmps35
    go_wp2
    go_ret2
    exact ⟨rfl, rfl⟩

/-- The last limb, and the number of bits. -/
theorem bl_last {l : List Nat} (hl : Nrm l) (h0 : 0 < l.length) : bl (val l) = 32 * (l.length - 1) + bl (l[l.length - 1]?.getD 0) := by
  obtain ⟨m, x, rfl⟩ : ∃ m x, l = m ++ [x] := ⟨l.dropLast, l.getLast (by intro e; subst e; simp at h0), (List.dropLast_concat_getLast _).symm⟩
  have hx : x ≠ 0 := by
    rcases hl.2 with h | h
    · simp at h
    · simpa using h
  have hm : Lim m := fun y hy => hl.1 y (List.mem_append_left _ hy)
  have hv := val_lt hm
  have e : (m ++ [x])[(m ++ [x]).length - 1]?.getD 0 = x := by simp
  rw [e, val_snoc]
  simp only [List.length_append, List.length_cons, List.length_nil, Nat.zero_add, Nat.add_sub_cancel]
  apply Nat.le_antisymm
  · rw [bl_le_iff, Nat.pow_add]
    have h1 : x + 1 ≤ 2 ^ bl x := bl_lt
    calc val m + 2 ^ (32 * m.length) * x < 2 ^ (32 * m.length) * 1 + 2 ^ (32 * m.length) * x := by omega
      _ = 2 ^ (32 * m.length) * (x + 1) := by rw [Nat.mul_add, Nat.add_comm]
      _ ≤ _ := Nat.mul_le_mul_left _ h1
  · have h1 := le_bl hx
    have h2 := bl_pos hx
    have h3 : 2 ^ (32 * m.length + (bl x - 1)) ≤ val m + 2 ^ (32 * m.length) * x := by
      rw [Nat.pow_add]
      exact Nat.le_trans (Nat.mul_le_mul_left _ h1) (Nat.le_add_left _ _)
    have := lt_bl_iff.2 h3
    omega

theorem nat_Bits (w : World) (v : Value) (n : Nat) (h : IsN w v n) (hb : bl n ≤ 1000000000000) :
    Calls Tryd.prog 38 #[v] w fun e w' => e = .returned (.int .i64 (bl n)) ∧ w = w' := by
  obtain ⟨l, ⟨A, c, rfl, hc, hz, hr⟩, hn, rfl⟩ := h
  have hlen := hn.len
  have hle : l.length ≤ 100000000000 := by omega
  rcases Nat.eq_zero_or_pos l.length with h0 | h0
  · obtain rfl := List.eq_nil_of_length_eq_zero h0
    clear hr hz hlen
    go_enter Tryd.func38, Tryd.ntmps38
    go_wp2
    go_ret
    exact ⟨rfl, rfl⟩
  · obtain ⟨ad, rfl, hs⟩ := hr h0
    have hx := hs (l.length - 1) (by omega)
    have hl := hn.1.at (l.length - 1)
    have HE := Lib.hid (bl_last hn h0)
    have hne : ((l.length : Int) == 0) = false := beq_eq_false_iff_ne.mpr (by omega)
    have hbb : bl (l[l.length - 1]?.getD 0) ≤ 32 := (bl_le_iff (n := 32)).2 (by show _ < 4294967296; omega)
    clear hr hz hlen hs
    go_enter Tryd.func38, Tryd.ntmps38
    go_wp2_with (go_at_call 55; refine (bits_Len32 (l[l.length - 1]?.getD 0) w (by omega)).mono ?_; rintro e w' ⟨rfl, rfl⟩)
    go_ret
    exact ⟨ret_int (by rw [HE.out]; omega), rfl⟩

end Go.Proofs.YtffkedepffjobaaDoor

namespace Go.Proofs.YtffkedepffjobaaDoor
open Go.RowKit
set_option maxRecDepth 100000

/-- One of the limbs, 0 beyond. -/
def lb (l : List Nat) (i : Nat) : Nat := l[i]?.getD 0

theorem nat_at (w : World) (v : Value) (l : List Nat) (i : Nat) (h : Rd w .u32 v l) (hl : l.length ≤ 281474976710656) :
    Calls Tryd.prog 56 #[v, .int .i64 i] w fun e w' => e = .returned (.int .u32 (lb l i)) ∧ w = w' := by
  unfold lb
  obtain ⟨A, c, rfl, hc, hz, hr⟩ := h
  by_cases h1 : i < l.length
  · obtain ⟨ad, rfl, hs⟩ := hr (by omega)
    have hx := hs i (by omega)
    clear hr hs
    go_enter Tryd.func56, Tryd.ntmps56
    go_wp2
    go_ret
    exact ⟨ret_int (by simp [h1]), rfl⟩
  · have : l[i]? = none := by simp; omega
    clear hr
    go_enter Tryd.func56, Tryd.ntmps56
    go_wp2
    go_ret
    exact ⟨ret_int (by simp [this]), rfl⟩

theorem nat_atI (w : World) (v : Value) (l : List Nat) (i : Int) (j : Nat) (e : i = j) (h : Rd w .u32 v l) (hl : l.length ≤ 281474976710656) :
    Calls Tryd.prog 56 #[v, .int .i64 i] w fun e w' => e = .returned (.int .u32 (lb l j)) ∧ w = w' := by
  subst e
  exact nat_at w v l j h hl

theorem bits_Add32 (x y c : Nat) (w : World) (hx : x < 4294967296) (hy : y < 4294967296) (hc : c < 4294967296) :
    Calls Tryd.prog 70 #[.int .u32 x, .int .u32 y, .int .u32 c] w fun e w' => e = .returned (.tuple #[.int .u32 ((x + y + c) % 4294967296 : Nat), .int .u32 ((x + y + c) / 4294967296 : Nat)]) ∧ w = w' := by
  go_enter Tryd.func70, Tryd.ntmps70
  go_wp2
  go_ret2
  exact ⟨ret_2 (val_int (by omega)) (val_int (by omega)), rfl⟩

theorem borrow32 (x y c : Nat) (hx : x < 4294967296) (hy : y < 4294967296) (hc : c ≤ 1) :
    bits .or .u32 (bits .and .u32 (bits .xor .u32 IntKind.u32.max (x : Int)) (y : Int)) (bits .and .u32 (bits .xor .u32 IntKind.u32.max (bits .xor .u32 (x : Int) (y : Int))) (((x : Int) - y - c) % 4294967296)) / 2147483648
      = ((if x < y + c then 1 else 0 : Nat) : Int) := by
  have em : IntKind.u32.max = ((4294967295 : Nat) : Int) := rfl
  have ed : (((x : Int) - y - c) % 4294967296) = (((4294967296 + x - y - c) % 4294967296 : Nat) : Int) := by omega
  have hd : (4294967296 + x - y - c) % 4294967296 < 4294967296 := by omega
  have h1 : 4294967295 ^^^ x < 4294967296 := Nat.xor_lt_two_pow (n := 32) (by omega) hx
  have h2 : x ^^^ y < 4294967296 := Nat.xor_lt_two_pow (n := 32) hx hy
  have h3 : 4294967295 ^^^ (x ^^^ y) < 4294967296 := Nat.xor_lt_two_pow (n := 32) (by omega) h2
  have h4 : (4294967295 ^^^ x) &&& y < 4294967296 := Nat.lt_of_le_of_lt Nat.and_le_right hy
  have h5 : (4294967295 ^^^ (x ^^^ y)) &&& ((4294967296 + x - y - c) % 4294967296) < 4294967296 := Nat.lt_of_le_of_lt Nat.and_le_right hd
  have h6 : ((4294967295 ^^^ x) &&& y) ||| ((4294967295 ^^^ (x ^^^ y)) &&& ((4294967296 + x - y - c) % 4294967296)) < 4294967296 := Nat.or_lt_two_pow (n := 32) h4 h5
  rw [em, ed, xor32 _ _ (by omega) hx, xor32 _ _ hx hy, xor32 _ _ (by omega) h2, and32 _ _ h1 hy, and32 _ _ h3 hd, or32 _ _ h4 h5]
  have h7 := top32 _ h6
  rw [show ((2147483648 : Int)) = ((2147483648 : Nat) : Int) from rfl, ← Int.natCast_ediv, h7]
  congr 1
  simp only [Nat.testBit_or, Nat.testBit_and, Nat.testBit_xor]
  rw [bit31 x hx, bit31 y hy, bit31 _ hd, show Nat.testBit 4294967295 31 = true by decide]
  generalize hg : (4294967296 + x - y - c) % 4294967296 = d at *
  by_cases hx1 : 2147483648 ≤ x <;> by_cases hy1 : 2147483648 ≤ y <;> by_cases hd1 : 2147483648 ≤ d <;> by_cases hb : x < y + c <;> simp [hx1, hy1, hd1, hb] <;> omega

theorem bits_Sub32 (x y c : Nat) (w : World) (hx : x < 4294967296) (hy : y < 4294967296) (hc : c ≤ 1) :
    Calls Tryd.prog 72 #[.int .u32 x, .int .u32 y, .int .u32 c] w fun e w' => e = .returned (.tuple #[.int .u32 ((4294967296 + x - y - c) % 4294967296 : Nat), .int .u32 (if x < y + c then 1 else 0 : Nat)]) ∧ w = w' := by
  have hsg : IntKind.u32.signed = false := rfl
  have HB := Lib.hid (borrow32 x y c hx hy hc)
  go_enter Tryd.func72, Tryd.ntmps72
  go_wp2
  all_goals
    go_ret2
    exact ⟨ret_2 (val_int (by omega)) (val_int (HB.out.trans (by simp [*]))), rfl⟩

end Go.Proofs.YtffkedepffjobaaDoor

namespace Go.Proofs.YtffkedepffjobaaDoor
open Go.RowKit
set_option maxRecDepth 100000

/-- -1, 0 or 1. -/
def cmp3 (x y : Nat) : Int := if x < y then -1 else if y < x then 1 else 0

theorem val_lt_of_len {l m : List Nat} (hl : Lim l) (hm : Nrm m) (h : l.length < m.length) : val l < val m := by
  have h1 := val_lt hl
  have h2 := hm.le (by intro e; subst e; simp at h)
  exact Nat.lt_of_lt_of_le h1 (Nat.le_trans (Nat.pow_le_pow_right (by omega) (by omega)) h2)
theorem val_lt_top {l m : List Nat} (hl : Lim l) (_hm : Lim m) (he : l.length = m.length) (k : Nat) (hk : k < l.length) (hd : l.drop (k + 1) = m.drop (k + 1)) (h : l[k]?.getD 0 < m[k]?.getD 0) : val l < val m := by
  rw [val_take_drop l k (by omega), val_take_drop m k (by omega)]
  have e1 : l.drop k = l[k]?.getD 0 :: l.drop (k + 1) := by rw [List.drop_eq_getElem_cons hk]; simp [hk]
  have e2 : m.drop k = m[k]?.getD 0 :: m.drop (k + 1) := by rw [List.drop_eq_getElem_cons (by omega)]; simp [show k < m.length by omega]
  rw [e1, e2, hd, val_cons, val_cons]
  have h1 := val_lt (hl.take k)
  rw [List.length_take, Nat.min_eq_left (by omega)] at h1
  have h2 : 2 ^ (32 * k) * (l[k]?.getD 0 + 4294967296 * val (m.drop (k + 1)) + 1) ≤ 2 ^ (32 * k) * (m[k]?.getD 0 + 4294967296 * val (m.drop (k + 1))) := Nat.mul_le_mul_left _ (by omega)
  rw [Nat.mul_add, Nat.mul_one] at h2
  omega
theorem drop_eq_step {l m : List Nat} (he : l.length = m.length) (k : Nat) (hk : k < l.length) (hd : l.drop (k + 1) = m.drop (k + 1)) (h : l[k]?.getD 0 = m[k]?.getD 0) : l.drop k = m.drop k := by
  rw [List.drop_eq_getElem_cons hk, List.drop_eq_getElem_cons (show k < m.length by omega), hd]
  congr 1
  simpa [hk, show k < m.length by omega] using h

theorem nat_Cmp (w : World) (v u : Value) (x y : Nat) (h : IsN w v x) (h' : IsN w u y) (hb : bl x ≤ 1000000000000) (hb' : bl y ≤ 1000000000000) :
    Calls Tryd.prog 44 #[v, u] w fun e w' => e = .returned (.int .i64 (cmp3 x y)) ∧ Below w.heap.size w w' := by
  obtain ⟨l, ⟨A, c, rfl, hc, hz, hr⟩, hn, rfl⟩ := h
  obtain ⟨m, ⟨A', c', rfl, hc', hz', hr'⟩, hn', rfl⟩ := h'
  have hll : l.length ≤ 100000000000 := by have := hn.len; omega
  have hlm : m.length ≤ 100000000000 := by have := hn'.len; omega
  have HN := Lib.hid (And.intro hn hn')
  clear hb hb' hz hz' hn hn'
  by_cases he : l.length = m.length
  · have hne : ((l.length : Int) != m.length) = false := bne_eq_false_iff_eq.mpr (by omega)
    have HE := Lib.hid he
    have hle : m.length ≤ l.length := by omega
    have hge : l.length ≤ m.length := by omega
    clear he
    go_enter Tryd.func44, Tryd.ntmps44
    go_wp2
    go_loopw [5] (fun i wr => ∃ k : Nat, k ≤ l.length ∧ i = .int .i64 ((k : Int) - 1) ∧ Hid (l.drop k = m.drop k) ∧ Below w.heap.size w wr) (fun i _ => (intOf i + 1).toNat)
    case atStart => exact ⟨l.length, Nat.le_refl _, rfl, by rw [List.drop_length, HE.out, List.drop_length]; exact Lib.hid rfl, Below.refl _ _⟩
    case round =>
      obtain ⟨k, hk, rfl, hd, hB⟩ := hrel
      cases k with
      | zero =>
        clear hr hr'
        go_wp2
        go_ret
        exact ⟨ret_int (by rw [show l = m from hd.out]; simp [cmp3]), hB⟩
      | succ k =>
        have e1 : ((k + 1 : Nat) : Int) - 1 = k := by omega
        rw [e1]
        clear e1
        obtain ⟨ad, rfl, hs⟩ := hr (by omega)
        obtain ⟨ad', rfl, hs'⟩ := hr' (by omega)
        have hx := hs k (by omega)
        have hy := hs' k (by omega)
        replace hx := (hB.cell (World.block_lt_of_cell? w _ hx)).trans hx
        replace hy := (hB.cell (World.block_lt_of_cell? w _ hy)).trans hy
        clear hr hr' hs hs'
        rcases Nat.lt_trichotomy (l[k]?.getD 0) (m[k]?.getD 0) with h | h | h
        · have HV := Lib.hid (val_lt_top HN.out.1.1 HN.out.2.1 HE.out k (by omega) hd.out h)
          go_wp2
          go_quiet (fail)
          go_wp2
          go_ret
          exact ⟨ret_int (by have := HV.out; simp [cmp3, this]), up_drewN hB _⟩
        · have HV := Lib.hid (drop_eq_step HE.out k (by omega) hd.out h)
          have h1 : ¬ (l[k]?.getD 0 < m[k]?.getD 0) := by omega
          have h2 : ¬ (m[k]?.getD 0 < l[k]?.getD 0) := by omega
          clear h
          go_wp2
          go_quiet (fail)
          go_wp2
          go_quiet (fail)
          go_wp2
          go_roundw
          case rel => exact ⟨k, by omega, by go_num, HV, up_drewN hB _⟩
          case measure => simp [intOf]
        · have HV := Lib.hid (val_lt_top HN.out.2.1 HN.out.1.1 HE.out.symm k (by omega) hd.out.symm h)
          have h1 : ¬ (l[k]?.getD 0 < m[k]?.getD 0) := by omega
          go_wp2
          go_quiet (fail)
          go_wp2
          go_quiet (fail)
          go_wp2
          go_ret
          exact ⟨ret_int (by have := HV.out; simp [cmp3, this]; omega), up_drewN (up_drewN hB _) _⟩
  · have hne : ((l.length : Int) != m.length) = true := bne_iff_ne.mpr (by omega)
    clear hr hr'
    go_enter Tryd.func44, Tryd.ntmps44
    go_wp2
    go_ret
    refine ⟨ret_int ?_, Below.refl _ _⟩
    obtain ⟨hn, hn'⟩ := HN.out
    unfold cmp3
    rcases Nat.lt_or_ge l.length m.length with h | h
    · have := val_lt_of_len hn.1 hn' h
      rw [if_pos this]
      omega
    · have := val_lt_of_len hn'.1 hn (by omega)
      rw [if_neg (by omega), if_pos this]
      omega

end Go.Proofs.YtffkedepffjobaaDoor

namespace Go.Proofs.YtffkedepffjobaaDoor
open Go.RowKit
set_option maxRecDepth 100000

theorem pow_split (n : Nat) : 2 ^ n = 2 ^ (32 * (n / 32)) * 2 ^ (n % 32) := by
  rw [← Nat.pow_add, Nat.div_add_mod]

theorem carry_math (M P V low y Z : Nat) (h : V + P * low = Z) : V + P * (y % M + low) + P * M * (y / M) = Z + P * y := by
  rw [← h, Nat.mul_assoc P M]
  have : P * (y % M + low) + P * (M * (y / M)) = P * low + P * y := by
    rw [← Nat.mul_add, ← Nat.mul_add]
    congr 1
    have := Nat.div_add_mod y M
    omega
  omega
theorem pow32_succ (q : Nat) : 2 ^ (32 * (q + 1)) = 2 ^ (32 * q) * 4294967296 := by
  rw [show 32 * (q + 1) = 32 * q + 32 by omega, Nat.pow_add]
/-- A limb that is shifted on. -/
theorem shl_step (o l : List Nat) (k n low : Nat) (hk : k < l.length) (ho : o.length = n / 32 + k)
    (h : val o + 2 ^ (32 * o.length) * low = val (l.take k) * 2 ^ n) :
    val (o ++ [l[k] * 2 ^ (n % 32) % 4294967296 + low]) + 2 ^ (32 * (o.length + 1)) * (l[k] * 2 ^ (n % 32) / 4294967296) = val (l.take (k + 1)) * 2 ^ n := by
  rw [List.take_succ_eq_append_getElem hk, val_snoc, val_snoc, List.length_take, Nat.min_eq_left (by omega), pow32_succ, carry_math 4294967296 (2 ^ (32 * o.length)) (val o) low _ _ h, Nat.add_mul]
  congr 1
  rw [pow_split n, ho, Nat.mul_add, Nat.pow_add]
  ac_rfl

theorem shl_lo (z low s : Nat) (hs : s < 32) (hz : 2 ^ s ∣ z) (hl : low < 2 ^ s) : bits .or .u32 ((z : Int) % 4294967296) (low : Int) = ((z % 4294967296 + low : Nat) : Int) ∧ z % 4294967296 + low < 4294967296 := by
  have h1 : 2 ^ s ≤ 2 ^ 31 := Nat.pow_le_pow_right (by omega) (by omega)
  have h2 : 2 ^ s ∣ z % 4294967296 := (Nat.dvd_mod_iff (Nat.pow_dvd_pow 2 (show s ≤ 32 by omega))).2 hz
  obtain ⟨q, hq⟩ := h2
  have e : ((z : Int) % 4294967296) = ((z % 4294967296 : Nat) : Int) := by omega
  rw [e, or32 _ _ (by omega) (by omega), hq, Nat.or_comm, Nat.mul_comm, or_add _ _ _ hl]
  refine ⟨by rw [Nat.add_comm], ?_⟩
  have h3 : 2 ^ s * q < 2 ^ s * 2 ^ (32 - s) := by rw [← hq, ← Nat.pow_add, show s + (32 - s) = 32 by omega]; omega
  have h4 := Nat.lt_of_mul_lt_mul_left h3
  have h5 : 2 ^ s * (q + 1) ≤ 2 ^ s * 2 ^ (32 - s) := Nat.mul_le_mul_left _ h4
  rw [← Nat.pow_add, show s + (32 - s) = 32 by omega, Nat.mul_add] at h5
  rw [Nat.mul_comm]
  omega

theorem nat_ShlO (w : World) (v : Value) (x n : Nat) (h : IsN w v x) (hb : bl x ≤ 100000000000) (hn : n ≤ 100000000000) :
    Calls Tryd.prog 40 #[v, .int .i64 n] w (AnsO w (x * 2 ^ n)) := by
  obtain ⟨l, ⟨A, c, rfl, hc, hz, hr⟩, hl, rfl⟩ := h
  have hll : l.length ≤ 10000000000 := by have := hl.len; omega
  have HL := Lib.hid hl
  clear hb hz hl
  rcases Nat.eq_zero_or_pos l.length with h0 | h0
  · obtain rfl := List.eq_nil_of_length_eq_zero h0
    clear hr
    go_enter Tryd.func40, Tryd.ntmps40
    go_wp2
    go_ret
    exact ⟨_, rfl, ⟨[], Own.nil _ _ _ _, Nrm.nil, by simp [val]⟩, Below.refl _ _⟩
  · have hne : ((l.length : Int) == 0) = false := beq_eq_false_iff_ne.mpr (by omega)
    obtain ⟨ad, rfl, hs⟩ := hr h0
    clear hr
    go_enter Tryd.func40, Tryd.ntmps40
    go_wp2_with (first | (at_make; refine mk32 rfl _ _ rfl (n / 32) (n / 32 + l.length + 1) (val_int (by omega)) (val_int (by omega)) (by omega) (by omega) w.heap.size (Nat.le_refl _) ?_; intro v0 w1 ho hb1) | fail)
    have hB := hb1
    clear hb1
    go_loopw [5, 7, 26] (fun o lo i wr => ∃ (k : Nat) (out : List Nat) (low : Nat), k ≤ l.length ∧ i = .int .i64 k ∧ lo = .int .u32 low ∧ Own wr w.heap.size 36 .u32 o out ∧
        Hid (Lim out ∧ out.length = n / 32 + k ∧ low < 2 ^ (n % 32) ∧ val out + 2 ^ (32 * out.length) * low = val (l.take k) * 2 ^ n) ∧ Below w.heap.size w wr) (fun _ _ i _ => l.length - (intOf i).toNat)
    case atStart =>
      refine ⟨0, List.replicate (n / 32) 0, 0, Nat.zero_le _, rfl, rfl, ho, Lib.hid ⟨Lim.rep _, by simp, Nat.two_pow_pos _, by simp [val_rep, val]⟩, hB⟩
    case round =>
      clear hB ho
      obtain ⟨k, out, low, hk, rfl, rfl, ho, H, hB⟩ := hrel
      by_cases hlt : k < l.length
      · have hx := hs k hlt
        replace hx := (hB.cell (World.block_lt_of_cell? w _ hx)).trans hx
        clear hs
        have hlk := HL.out.1 l[k] (List.getElem_mem hlt)
        obtain ⟨hlo, holen, hlow, hval⟩ := H.out
        have hs32 : n % 32 < 32 := Nat.mod_lt _ (by omega)
        have hp31 : 2 ^ (n % 32) ≤ 2 ^ 31 := Nat.pow_le_pow_right (by omega) (by omega)
        obtain ⟨z, hz⟩ : ∃ z, z = l[k] * 2 ^ (n % 32) := ⟨_, rfl⟩
        have hz1 : z < 9223372036854775808 := by rw [hz]; exact Nat.lt_of_lt_of_le (Nat.mul_lt_mul_of_lt_of_le hlk hp31 (by omega)) (by omega)
        obtain ⟨hor, hy⟩ := shl_lo z low _ hs32 (by rw [hz]; exact Nat.dvd_mul_left _ _) hlow
        have hzh : z / 4294967296 < 2 ^ (n % 32) := by
          rw [hz, Nat.div_lt_iff_lt_mul (by omega), Nat.mul_comm]; exact Nat.mul_lt_mul_of_pos_left hlk (Nat.two_pow_pos _)
        obtain ⟨y, hyd⟩ : ∃ y, y = z % 4294967296 + low := ⟨_, rfl⟩
        rw [← hyd] at hor hy
        have hzi : (l[k] : Int) * (2 : Int) ^ (n % 32) = (z : Int) := by rw [hz, Int.natCast_mul, Int.natCast_pow]; rfl
        have NX : Hid (Lim (out ++ [y]) ∧ (out ++ [y]).length = n / 32 + (k + 1) ∧ z / 4294967296 < 2 ^ (n % 32) ∧ val (out ++ [y]) + 2 ^ (32 * (out ++ [y]).length) * (z / 4294967296) = val (l.take (k + 1)) * 2 ^ n) := by
          refine ⟨hlo.snoc hy, by simp; omega, hzh, ?_⟩
          rw [List.length_append, List.length_singleton, hyd, hz]
          exact shl_step out l k n low hlt holen hval
        have hlen : out.length ≤ 10000000000 + 10000000000 := by omega
        clear hlo holen hlow hval hp31 hz hyd hzh
        go_wp2_with (at_builtin; refine ap32 rfl _ _ rfl w.heap.size _ out rfl (ho.al _) ⟨wr.heap.size, 0, none⟩ 1 1 [y] rfl rfl (cell_one_new _ _ _) (by omega) (by have := hB.size; simp; omega) ?_; intro v2 w2 ho2 hg2 hb2)
        go_roundw
        case rel => exact ⟨k + 1, out ++ [y], z / 4294967296, by omega, by go_num, val_int (by omega), ho2, NX, (hB.alloc hB.size _).trans hb2⟩
        case measure => simp [intOf]; omega
      · obtain rfl : k = l.length := by omega
        clear hs
        obtain ⟨hlo, holen, hlow, hval⟩ := H.out
        have hp31 : 2 ^ (n % 32) ≤ 2 ^ 32 := Nat.pow_le_pow_right (by omega) (by omega)
        have NX : Hid (Lim (out ++ [low]) ∧ val (out ++ [low]) = val l * 2 ^ n) := ⟨hlo.snoc (by omega), by rw [val_snoc, hval, List.take_length]⟩
        have hlen : out.length ≤ 10000000000 + 10000000000 := by omega
        clear hlo holen hlow hval hp31
        go_wp2_with (first
          | (at_builtin; refine ap32 rfl _ _ rfl w.heap.size _ out rfl (ho.al _) ⟨wr.heap.size, 0, none⟩ 1 1 [low] rfl rfl (cell_one_new _ _ _) (by omega) (by have := hB.size; simp; omega) ?_; intro v2 w2 ho2 hg2 hb2)
          | (go_at_call 54; refine (nat_MakeO _ _ _ ho2.rd NX.out.1 (by simp; omega)).mono ?_; rintro e w3 ⟨v3, rfl, ⟨l3, h3, h4, h5⟩, hb3⟩))
        go_ret
        have hbw := (hB.alloc hB.size (.cells #[.int .u32 (low : Nat)] 36)).trans hb2
        exact ⟨_, rfl, ⟨l3, h3.low hbw.size, h4, by rw [← NX.out.2]; exact h5⟩, up_then hbw hb3⟩
theorem nat_Shl (w : World) (v : Value) (x n : Nat) (h : IsN w v x) (hb : bl x ≤ 100000000000) (hn : n ≤ 100000000000) :
    Calls Tryd.prog 40 #[v, .int .i64 n] w (AnsN w (x * 2 ^ n)) := (nat_ShlO w v x n h hb hn).mono fun _ _ h => h.ansN

end Go.Proofs.YtffkedepffjobaaDoor

namespace Go.Proofs.YtffkedepffjobaaDoor
open Go.RowKit
set_option maxRecDepth 100000
attribute [local go_sem ↓] Go.wp_at_zero Go.wp_at_succ

theorem shr_or (x y s : Nat) (hx : x < 4294967296) (hy : y < 4294967296) (hs : s < 32) :
    bits .or .u32 ((x : Int) / 2 ^ s) (IntKind.u32.wrap (IntKind.u64.wrap (IntKind.u64.wrap (y : Int) * 4294967296) / 2 ^ s)) = ((x / 2 ^ s + y % 2 ^ s * 2 ^ (32 - s) : Nat) : Int) ∧ x / 2 ^ s + y % 2 ^ s * 2 ^ (32 - s) < 4294967296 := by
  have e32 : 2 ^ s * 2 ^ (32 - s) = 4294967296 := by rw [← Nat.pow_add, show s + (32 - s) = 32 by omega]
  have hm : y * 4294967296 / 2 ^ s % 4294967296 = y % 2 ^ s * 2 ^ (32 - s) := by
    have : y * 4294967296 / 2 ^ s = y * 2 ^ (32 - s) := by
      rw [← e32, Nat.mul_left_comm, Nat.mul_div_cancel_left _ (Nat.two_pow_pos s)]
    rw [this]
    conv => lhs; rw [← e32]
    rw [Nat.mul_mod_mul_right]
  have hx1 : x / 2 ^ s < 2 ^ (32 - s) := by rw [Nat.div_lt_iff_lt_mul (Nat.two_pow_pos s), Nat.mul_comm, e32]; exact hx
  have hm1 : y % 2 ^ s * 2 ^ (32 - s) < 4294967296 := by rw [← hm]; exact Nat.mod_lt _ (by omega)
  have e1 : (x : Int) / 2 ^ s = ((x / 2 ^ s : Nat) : Int) := by rw [Int.natCast_ediv, Int.natCast_pow]; rfl
  have e2 : ((y * 4294967296 : Nat) : Int) / 2 ^ s = ((y * 4294967296 / 2 ^ s : Nat) : Int) := by rw [Int.natCast_ediv, Int.natCast_pow]; rfl
  have e3 : (y : Int) * 4294967296 = ((y * 4294967296 : Nat) : Int) := by omega
  have hle : x / 2 ^ s ≤ x := Nat.div_le_self _ _
  rw [wu64n y (by omega), e3, wu64n _ (by omega), e2, wu32, e1]
  have e4 : ((y * 4294967296 / 2 ^ s : Nat) : Int) % 4294967296 = ((y % 2 ^ s * 2 ^ (32 - s) : Nat) : Int) := by rw [← hm]; omega
  rw [e4, or32 _ _ (by omega) hm1, or_add _ _ _ hx1]
  refine ⟨rfl, ?_⟩
  have h1 : y % 2 ^ s < 2 ^ s := Nat.mod_lt _ (Nat.two_pow_pos s)
  have h2 : (y % 2 ^ s + 1) * 2 ^ (32 - s) ≤ 2 ^ s * 2 ^ (32 - s) := Nat.mul_le_mul_right _ h1
  rw [e32, Nat.add_mul] at h2
  omega
theorem shr_step (out D : List Nat) (k s r d0 : Nat) (hs : s < 32) (hk : k < D.length) (ho : out.length = k) (hr : r = lb D k / 2 ^ s + lb D (k + 1) % 2 ^ s * 2 ^ (32 - s))
    (h : val out * 2 ^ s + d0 = val (D.take k) + 2 ^ (32 * k) * (lb D k % 2 ^ s)) :
    val (out ++ [r]) * 2 ^ s + d0 = val (D.take (k + 1)) + 2 ^ (32 * (k + 1)) * (lb D (k + 1) % 2 ^ s) := by
  have e32 : 2 ^ s * 2 ^ (32 - s) = 4294967296 := by rw [← Nat.pow_add, show s + (32 - s) = 32 by omega]
  have e : D[k] = lb D k := by simp [lb, hk]
  rw [List.take_succ_eq_append_getElem hk, val_snoc, val_snoc, List.length_take, Nat.min_eq_left (by omega), pow32_succ, Nat.add_mul, e, ho]
  have h1 := Nat.div_add_mod (lb D k) (2 ^ s)
  have h2 : 2 ^ (32 * k) * r * 2 ^ s = 2 ^ (32 * k) * (2 ^ s * (lb D k / 2 ^ s)) + 2 ^ (32 * k) * 4294967296 * (lb D (k + 1) % 2 ^ s) := by
    rw [hr, ← e32, Nat.mul_add, Nat.add_mul]
    congr 1 <;> ac_rfl
  rw [h2]
  have h3 : 2 ^ (32 * k) * lb D k = 2 ^ (32 * k) * (2 ^ s * (lb D k / 2 ^ s)) + 2 ^ (32 * k) * (lb D k % 2 ^ s) := by rw [← Nat.mul_add, h1]
  rw [h3]
  omega
theorem shr_end (out l : List Nat) (n q s : Nat) (hn : n / 32 = q ∧ n % 32 = s) (hl : Lim l) (hq : q ≤ l.length)
    (h : val out * 2 ^ s + lb l q % 2 ^ s = val ((l.drop q).take (l.length - q)) + 2 ^ (32 * (l.length - q)) * (lb l (q + (l.length - q)) % 2 ^ s)) : val out = val l / 2 ^ n := by
  have e1 : lb l (q + (l.length - q)) = 0 := by simp [lb, show l.length ≤ q + (l.length - q) by omega]
  rw [e1, Nat.zero_mod, Nat.mul_zero, Nat.add_zero, List.take_of_length_le (by simp)] at h
  rw [pow_split n, hn.1, hn.2, ← Nat.div_div_eq_div_mul]
  have h1 := val_lt (hl.take q)
  rw [List.length_take, Nat.min_eq_left hq] at h1
  have e2 : val l / 2 ^ (32 * q) = val (l.drop q) := by
    rw [val_take_drop l q hq, Nat.add_mul_div_left _ _ (Nat.two_pow_pos _), Nat.div_eq_of_lt h1, Nat.zero_add]
  rw [e2, ← h, Nat.add_comm, Nat.add_mul_div_right _ _ (Nat.two_pow_pos _), Nat.div_eq_of_lt (Nat.mod_lt _ (Nat.two_pow_pos _)), Nat.zero_add]

theorem nat_Shr (w : World) (v : Value) (x n : Nat) (h : IsN w v x) (hb : bl x ≤ 100000000000) (hn : n ≤ 100000000000) :
    Calls Tryd.prog 41 #[v, .int .i64 n] w (AnsN w (x / 2 ^ n)) := by
  obtain ⟨l, hR, hl, rfl⟩ := h
  have HR := Lib.hid hR
  obtain ⟨A, c, rfl, hc, hz, hr⟩ := hR
  have hll : l.length ≤ 10000000000 := by have := hl.len; omega
  have HL := Lib.hid hl
  clear hb hz hl
  by_cases h0 : l.length ≤ n / 32
  · clear hr
    go_enter Tryd.func41, Tryd.ntmps41
    go_wp2
    go_ret
    refine ⟨_, rfl, ⟨[], Rd.nil _ _ _ _ (fun _ => rfl), Nrm.nil, ?_⟩, Below.refl _ _⟩
    rw [Nat.div_eq_of_lt, val]
    exact Nat.lt_of_lt_of_le (val_lt HL.out.1) (Nat.pow_le_pow_right (by omega) (by omega))
  · obtain ⟨ad, rfl, hs⟩ := hr (by omega)
    clear hr
    obtain ⟨q, hq⟩ : ∃ q, n / 32 = q := ⟨_, rfl⟩
    obtain ⟨s, hs'⟩ : ∃ s, n % 32 = s := ⟨_, rfl⟩
    have hs32 : s < 32 := by omega
    have hql : q < l.length := by omega
    have hdq : decide (l.length ≤ q) = false := decide_eq_false (by omega)
    have HQ := Lib.hid (And.intro hq hs')
    have iq : (n : Int) / 32 = q := by omega
    have is : (n : Int) % 32 = s := by omega
    clear hq hs' h0
    go_enter Tryd.func41, Tryd.ntmps41
    go_wp2_with fail
    simp only [is]
    clear iq is hn
    go_loopw [7, 21] (fun o i wr => ∃ (k : Nat) (out : List Nat), k ≤ l.length - q ∧ i = .int .i64 k ∧ Own wr w.heap.size 36 .u32 o out ∧
        Hid (Lim out ∧ out.length = k ∧ val out * 2 ^ s + lb l q % 2 ^ s = val ((l.drop q).take k) + 2 ^ (32 * k) * (lb l (q + k) % 2 ^ s)) ∧ Below w.heap.size w wr) (fun _ i _ => l.length - q - (intOf i).toNat)
    case atStart => exact ⟨0, [], Nat.zero_le _, rfl, Own.nil _ _ _ _, Lib.hid ⟨Lim.nil, rfl, by simp [val]⟩, Below.refl _ _⟩
    case round =>
      obtain ⟨k, out, hk, rfl, ho, H, hB⟩ := hrel
      by_cases hlt : k < l.length - q
      · have KS : Hid (∀ X, Below w.heap.size w X → X.cell? (ad.add (q + k)) = some (.int .u32 ((l[q + k]?.getD 0 : Nat) : Int))) := fun X hX => by
          have hx := hs (q + k) (by omega)
          exact (hX.cell (World.block_lt_of_cell? w _ hx)).trans hx
        have hx := KS.out wr hB
        clear hs
        obtain ⟨r, hrd⟩ : ∃ r, r = l[q + k] / 2 ^ s + lb l (q + k + 1) % 2 ^ s * 2 ^ (32 - s) := ⟨_, rfl⟩
        obtain ⟨hor, hr32⟩ := shr_or l[q + k] (lb l (q + k + 1)) s (HL.out.1 _ (List.getElem_mem _)) (HL.out.1.at _) hs32
        rw [← hrd] at hor hr32
        have NX : Hid (Lim (out ++ [r]) ∧ (out ++ [r]).length = k + 1 ∧ val (out ++ [r]) * 2 ^ s + lb l q % 2 ^ s = val ((l.drop q).take (k + 1)) + 2 ^ (32 * (k + 1)) * (lb l (q + (k + 1)) % 2 ^ s)) := by
          obtain ⟨h1, h2, h3⟩ := H.out
          have e1 : ∀ j, lb (l.drop q) j = lb l (q + j) := fun j => by simp [lb]
          refine ⟨h1.snoc hr32, by simp [h2], ?_⟩
          have := shr_step out (l.drop q) k s r (lb l q % 2 ^ s) hs32 (by simp; omega) h2 (by rw [e1, e1, hrd]; congr 2; simp [lb, show q + k < l.length by omega]) (by rw [e1]; exact h3)
          rw [e1] at this
          exact this
        have hol : out.length ≤ 10000000000 := by have := H.out.2.1; omega
        clear hrd
        have hkl : q + k < l.length := by omega
        go_wp2_with fail
        have e1 : IntKind.i64.wrap ((q : Int) + k) = (q : Int) + k := IntWalk.i64_in _ (by omega)
        have e2 : IntKind.i64.wrap ((q : Int) + k + 1) = (q : Int) + k + 1 := IntWalk.i64_in _ (by omega)
        have e3 : (0 : Int) ≤ (q : Int) + k := by omega
        have e4 : (q : Int) + k < (l.length : Int) := by omega
        have e5 : ((q : Int) + k).toNat = q + k := by omega
        have e6 : (0 : Int) ≤ (s : Int) := by omega
        go_region_held3 (fun w' => w'.cell? (ad.add (q + k)) = some (.int .u32 ((l[q + k]?.getD 0 : Nat) : Int))) (first | assumption | exact KS.out _ hB | exact KS.out _ hB.drew | exact KS.out _ (hB.alloc hB.size _).drew | exact KS.out _ ((hB.alloc hB.size _).drew.trans hb2)) ((first | (refine st32 (by rfl) _ _ (by rfl) w.heap.size _ out (by rfl) (ho.al _).dr ⟨wr.heap.size, 0, none⟩ 1 1 [r] (by rfl) rfl (cell_one_new _ _ _) (by omega) (by have := hB.size; simp; omega) ?_; intro v2 w2 ho2 hg2 hb2) | (go_at_call 56; refine (nat_atI _ _ l _ (q + k + 1) (by omega) (HR.out.up hB.drew) (by omega)).mono ?_; rintro e w1 ⟨rfl, rfl⟩) | (fail)))
        clear e1 e2 e3 e4 e5 e6 hor
        go_wp2
        go_roundw
        case rel => exact ⟨k + 1, out ++ [r], by omega, by go_num, ho2, NX, (hB.alloc hB.size _).drew.trans hb2⟩
        case measure => simp [intOf]; omega
      · obtain rfl : k = l.length - q := by omega
        clear hs
        obtain ⟨h1, h2, h3⟩ := H.out
        have HE := Lib.hid (shr_end out l n q s HQ.out HL.out.1 (by omega) h3)
        clear h3
        go_wp2_with (go_at_call 54; refine (nat_Make _ _ _ ho.rd h1 (by omega)).mono ?_; rintro e w3 ⟨v3, rfl, h3, hb3⟩)
        go_ret
        exact ⟨_, rfl, by rw [← HE.out]; exact h3, up_then hB hb3⟩
end Go.Proofs.YtffkedepffjobaaDoor

