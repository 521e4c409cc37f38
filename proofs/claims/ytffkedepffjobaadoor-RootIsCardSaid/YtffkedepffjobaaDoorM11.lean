/- What a row asks of an argument that is read and of a law that tells true. By an AI agent. -/
import Derived.Test.YtffkedepffjobaaDoorM10
import Derived.ProofKit
import Derived.OpenShut
import Derived.Carry
import Derived.Deep.DeepHandedRow
import Derived.Lib.LaidTab
import Derived.LaidMore
namespace Go.Proofs.YtffkedepffjobaaDoor
open Go.ChangeShapes Go.WideShapes Go.ChangeAt Go.RowKit
set_option maxRecDepth 100000

/-! ### The rows: an argument that is read; what stands behind a law that told true -/
theorem cells32 : Tryd.prog.cellsOf 36 = 1 := by kernel_rfl
theorem laid_out : laidOutB Tryd.prog = true := by kernel_rfl
theorem wf32 {n : Int} (h : (Lit.int .u32 n).wf = true) : 0 ≤ n ∧ n < 4294967296 := by
  simp [Lit.wf, IntKind.min, IntKind.max, IntKind.signed, IntKind.bits] at h
  omega
theorem wf8 {n : Int} (h : (Lit.int .u8 n).wf = true) : 0 ≤ n ∧ n < 256 := by
  simp [Lit.wf, IntKind.min, IntKind.max, IntKind.signed, IntKind.bits] at h
  omega
theorem wf64 {n : Int} (h : (Lit.int .i64 n).wf = true) : -9223372036854775808 ≤ n ∧ n ≤ 9223372036854775807 := by
  simp [Lit.wf, IntKind.min, IntKind.max, IntKind.signed, IntKind.bits] at h
  omega
section
variable {H : Type} {enc : TypeId × Value → H}
theorem open_row {W : World} {base : Nat} {v : Value} {d : DataW H} {ps : List MemPlace} (hval : Value.okWide Tryd.prog W .any base 22 v) (h : DataW.Trod enc Tryd.prog W 0 (fun _ => true) true 22 v d ps) :
    ∃ l, Rd W .u32 v l ∧ Lim l ∧ l.length ≤ 9223372036854775807 := by
  obtain ⟨a0, len, cap, rfl⟩ := okWide_slice Tryd.underlying22 hval
  obtain ⟨fuel, hf⟩ := h
  rcases open_ints Tryd.underlying22 Tryd.underlying36 cells32 hf with ⟨hcs, _⟩ | ⟨a, len', cap', zs, hcs, _, hl, hm, hz, _, hcell, hwz⟩
  · simp [Value.cells] at hcs
    obtain ⟨rfl, rfl, rfl⟩ := hcs
    exact ⟨[], Rd.nil _ _ _ _ (fun _ => rfl), Lim.nil, by simp⟩
  · simp [Value.cells] at hcs
    obtain ⟨rfl, rfl, rfl⟩ := hcs
    simp only [if_true] at hz
    unfold maxLen at hm
    have hll : ((zs.take len).map Int.toNat).length = len := by simp; omega
    refine ⟨(zs.take len).map Int.toNat, ⟨some a, cap, by rw [hll], by rw [hll]; exact hl, (fun e => by cases e), fun _ => ⟨a, rfl, fun j hj => ?_⟩⟩, ?_, by rw [hll]; omega⟩
    · rw [hll] at hj
      rw [hcell j (by omega)]
      have hj2 : j < zs.length := by omega
      have hw := wf32 (hwz _ (List.getElem_mem hj2))
      have e : ((zs.take len).map Int.toNat)[j]?.getD 0 = zs[j].toNat := by simp [hj, hj2]
      rw [e, show zs.getD j 0 = zs[j] by simp [List.getD, hj2]]
      congr 2
      omega
    · intro x hx
      obtain ⟨n, hn, rfl⟩ := List.mem_map.1 hx
      have := wf32 (hwz n (List.mem_of_mem_take hn))
      omega
theorem trodAll_keep {W W' : World} (hb : Below W.heap.size W W') : ∀ (ts : List TypeId) (vs : List Value) (ds : List (DataW H)) (ps : List MemPlace), (ts.all fun t => Tryd.prog.readableRec t && decide (t < Tryd.prog.types.size)) = true →
    (∀ x ∈ ps, x.block < W.heap.size) → DataW.TrodAll enc Tryd.prog W 0 (fun _ => true) true ts vs ds ps → DataW.TrodAll enc Tryd.prog W' 0 (fun b => decide (b < W.heap.size)) true ts vs ds ps := by
  intro ts
  induction ts with
  | nil =>
    intro vs ds ps _ _ h
    obtain ⟨rfl, rfl, rfl⟩ := trodAll_nil h
    exact trodAll_mk0
  | cons t ts ih =>
    intro vs ds ps hr hlt h
    obtain ⟨v, vs', d, ds', p, q, rfl, rfl, rfl, h1, h2⟩ := trodAll_cons h
    simp only [List.all_cons, Bool.and_eq_true, decide_eq_true_eq] at hr
    exact trodAll_cons_mk (Below.trod laid_out hr.1.1 hr.1.2 h1 hb (fun x hx => hlt x (List.mem_append_left _ hx))) (ih vs' ds' q (by simpa using hr.2) (fun x hx => hlt x (List.mem_append_right _ hx)) h2)
/-- A law that told true, and touched nothing that lay. -/
theorem post_true {fn : Func} {s : ChangeSpec} {W W' : World} {args : Array Value} {ds gs : List (DataW H)} {before : List MemPlace} (hW : DataW.Whole enc Tryd.prog fn.params.toList s.vars false W args.toList ds gs before)
    (hv : s.vars = []) (hr : fn.resultTypes = #[4]) (hres : (s.fn H (ds ++ gs)).results = [.lit (.bool true)]) (hargs : (s.fn H (ds ++ gs)).args = ds) (hvars : (s.fn H (ds ++ gs)).vars = [])
    (hread : (fn.params.toList.all fun t => Tryd.prog.readableRec t && decide (t < Tryd.prog.types.size)) = true) (hb : Below W.heap.size W W') :
    s.post enc Tryd.prog fn false true false false W args (.bool true) W' := by
  have hlt : ∀ p ∈ before, p.block < W.heap.size := fun p hp => hW.lt p hp
  have hW2 := hW
  obtain ⟨p, q, hA, hV, hps, _, _⟩ := hW2
  rw [hv] at hV
  obtain ⟨rfl, rfl⟩ := trodVars_none hV
  rw [List.append_nil] at hps
  subst hps
  refine ⟨ds, [], before, [], before, [], hW, ?_, ?_, ?_, ?_, fun h => by cases h⟩
  · rw [hres, hr]
    exact trodAll_mk1 (shut_bool Tryd.underlying4 _)
  · rw [hargs]
    exact trodAll_keep hb _ _ _ _ hread hlt hA
  · rw [hv, hvars]
    rfl
  · exact World.keptBut_mono (fun p hp => ⟨hp, .inr (.inl hp)⟩) (hb.frame (· ∈ before))
end
theorem own : ownKnob Tryd.prog.godebug = none := by kernel_rfl
end Go.Proofs.YtffkedepffjobaaDoor

namespace Go.Proofs.YtffkedepffjobaaDoor
open Go.ChangeShapes Go.WideShapes Go.ChangeAt Go.RowKit
set_option maxRecDepth 100000

/-! ### What the laws share -/
theorem md_lt (l : List Nat) (m : Nat) (h : Lim l) : bl (val (l.take m)) ≤ 32 * m := by
  rw [bl_le_iff]
  refine Nat.lt_of_lt_of_le (val_lt (h.take m)) (Nat.pow_le_pow_right (by omega) ?_)
  rw [List.length_take]
  omega
/-- A root, taken so often, has not many bits. -/
theorem root_bits {a k : Nat} (hk : 1 ≤ k) : (bl (rt a k) + 1) * k ≤ bl a + 2 * k := by
  rcases Nat.eq_zero_or_pos (rt a k) with h0 | h0
  · rw [h0, bl_zero, Nat.zero_add, Nat.one_mul]; omega
  · have h1 := le_bl (show rt a k ≠ 0 by omega)
    have h2 : (2 ^ (bl (rt a k) - 1)) ^ k ≤ a := Nat.le_trans (Nat.pow_le_pow_left h1 k) (rt_is (by omega)).1
    rw [← Nat.pow_mul] at h2
    have h3 := lt_bl_iff.2 h2
    have h4 := bl_pos (show rt a k ≠ 0 by omega)
    obtain ⟨b, hb⟩ : ∃ b, bl (rt a k) = b + 1 := ⟨bl (rt a k) - 1, by omega⟩
    rw [hb, Nat.add_sub_cancel] at h3
    rw [hb, show b + 1 + 1 = b + 2 by omega, Nat.add_mul]
    omega

/-- A root and an error, whatever k. -/
def rtv (a : Nat) (k : Int) : Nat := if k < 1 ∨ 1000000 < k then 0 else rt a k.toNat
def erv (k : Int) : Int := if k < 1 ∨ 1000000 < k then 1 else 0
def AnsE (w : World) (a : Nat) (k : Int) : Ending → World → Prop := Ans w fun v w' => ∃ u, v = .tuple #[u, .int .i64 (erv k)] ∧ IsN w' u (rtv a k)
theorem rtv_le (a : Nat) (k : Int) : rtv a k ≤ a := by
  unfold rtv
  split
  · omega
  · exact rt_le _ _ (by omega)
theorem root_RootE (w : World) (va : Value) (a : Nat) (k : Int) (ha : IsN w va a) (hb : bl a ≤ 50000000) (hF : ∀ k, k < bl a → Ok (bl a + k)) :
    Calls Tryd.prog 14 #[va, .int .i64 k] w (AnsE w a k) := by
  unfold AnsE rtv erv
  by_cases h : k < 1 ∨ 1000000 < k
  · rw [if_pos h, if_pos h]
    refine (root_RootBad w va k h).mono fun e w' ⟨he, hw⟩ => ?_
    subst hw
    exact ⟨_, he, ⟨_, rfl, isN_nil _⟩, Below.refl _ _⟩
  · rw [if_neg h, if_neg h]
    obtain ⟨n, rfl⟩ : ∃ n : Nat, k = n := ⟨k.toNat, by omega⟩
    rw [Int.toNat_natCast]
    exact root_Root w va a n ha (by omega) (by omega) hb (fun _ h => hF n h)
theorem r8_RootE (w : World) (va : Value) (a : Nat) (k : Int) (ha : IsN w va a) (hb : bl a ≤ 50000000) :
    Calls Tryd.prog 15 #[va, .int .i64 k] w (AnsE w a k) := by
  unfold AnsE rtv erv
  by_cases h : k < 1 ∨ 1000000 < k
  · rw [if_pos h, if_pos h]
    refine (r8_RootBad w va k h).mono fun e w' ⟨he, hw⟩ => ?_
    subst hw
    exact ⟨_, he, ⟨_, rfl, isN_nil _⟩, Below.refl _ _⟩
  · rw [if_neg h, if_neg h]
    obtain ⟨n, rfl⟩ : ∃ n : Nat, k = n := ⟨k.toNat, by omega⟩
    rw [Int.toNat_natCast]
    exact r8_Root w va a n ha (by omega) (by omega) (by omega)

/-- A number as a power of what is none, whatever it is. -/
def PwR (a b k : Nat) : Prop := (a ≤ 1 ∧ b = a ∧ k = 1) ∨ (2 ≤ a ∧ Plain b ∧ 1 ≤ k ∧ b ^ k = a)
theorem PwR.inj {a b k c m : Nat} (h : PwR a b k) (g : PwR a c m) : b = c ∧ k = m := by
  rcases h with ⟨h1, rfl, rfl⟩ | ⟨h1, h2, h3, h4⟩ <;> rcases g with ⟨g1, rfl, rfl⟩ | ⟨g1, g2, g3, g4⟩
  · exact ⟨rfl, rfl⟩
  · omega
  · omega
  · exact h2.inj g2 h3 g3 (h4.trans g4.symm)
theorem PwR.le {a b k : Nat} (h : PwR a b k) : b ≤ a := by
  rcases h with ⟨_, rfl, _⟩ | ⟨h1, h2, h3, h4⟩
  · exact Nat.le_refl _
  · rw [← h4]; exact le_pow' b k h3 (by have := h2.1; omega)
def AnsP (w : World) (a : Nat) : Ending → World → Prop := Ans w fun v w' => ∃ u b k, v = .tuple #[u, .int .i64 ((k : Nat) : Int)] ∧ IsN w' u b ∧ PwR a b k
theorem root_PowerE (w : World) (va : Value) (a : Nat) (ha : IsN w va a) (hb : bl a ≤ 50000000) (hF : Ok (2 * bl a)) : Calls Tryd.prog 18 #[va] w (AnsP w a) := by
  rcases Nat.lt_or_ge a 2 with h | h
  · refine (root_Power1 w va a ha (by omega)).mono ?_
    rintro e w' ⟨v, he, hv, hw⟩
    exact ⟨v, he, ⟨va, a, 1, hv, ha.up hw, .inl ⟨by omega, rfl, rfl⟩⟩, hw⟩
  · refine (root_Power2 w va a ha h hb hF).mono ?_
    rintro e w' ⟨v, he, ⟨u, b, k, hv, hu, h1, h2, h3⟩, hw⟩
    exact ⟨v, he, ⟨u, b, k, hv, hu, .inr ⟨h, h1, h2, h3⟩⟩, hw⟩
theorem r8_PowerE (w : World) (va : Value) (a : Nat) (ha : IsN w va a) (hb : bl a ≤ 50000000) : Calls Tryd.prog 19 #[va] w (AnsP w a) := by
  rcases Nat.lt_or_ge a 2 with h | h
  · refine (r8_Power1 w va a ha (by omega)).mono ?_
    rintro e w' ⟨v, he, hv, hw⟩
    exact ⟨v, he, ⟨va, a, 1, hv, ha.up hw, .inl ⟨by omega, rfl, rfl⟩⟩, hw⟩
  · refine (r8_Power2 w va a ha h hb).mono ?_
    rintro e w' ⟨v, he, ⟨u, b, k, hv, hu, h1, h2, h3⟩, hw⟩
    exact ⟨v, he, ⟨u, b, k, hv, hu, .inr ⟨h, h1, h2, h3⟩⟩, hw⟩

/-- Their box. -/
theorem pair_box {w X : World} {n0 n1 : Nat} (hX : Below (w.alloc (.cells #[.int .u8 (n0 : Nat), .int .u8 (n1 : Nat)] 43)).heap.size (w.alloc (.cells #[.int .u8 (n0 : Nat), .int .u8 (n1 : Nat)] 43)) X) :
    X.cell? ⟨w.heap.size, 0, none⟩ = some (.int .u8 (n0 : Nat)) ∧ X.cell? ⟨w.heap.size, 1, none⟩ = some (.int .u8 (n1 : Nat)) := by
  have h := (hX.block w.heap.size (by simp)).trans (World.alloc_heap_new w _)
  exact ⟨by simp [World.cell?, h], by simp [World.cell?, h]⟩
/-- Two small numbers, side by side. -/
theorem cellsP : Tryd.prog.cellsOf 43 = 2 := by kernel_rfl
theorem cells8 : Tryd.prog.cellsOf 5 = 1 := by kernel_rfl
theorem open_pair {H : Type} {enc : TypeId × Value → H} {W : World} {base : Nat} {v : Value} {d : DataW H} {ps : List MemPlace} (hval : Value.okWide Tryd.prog W .any base 43 v) (h : DataW.Trod enc Tryd.prog W 0 (fun _ => true) true 43 v d ps) :
    ∃ n m : Nat, v = .agg #[.int .u8 (n : Nat), .int .u8 (m : Nat)] ∧ n < 256 ∧ m < 256 := by
  simp only [Value.okWide, Tryd.underlying43] at hval
  obtain ⟨cs, rfl, hsz, _⟩ := hval
  obtain ⟨fuel, hf⟩ := h
  obtain ⟨xs, m, rfl, _, hlen, hxs, hel⟩ := DataW.trod_array Tryd.underlying43 hf
  rw [cellsP] at hsz
  obtain ⟨l⟩ := cs
  match l, hsz with
  | [c0, c1], _ =>
    have h0 := hel 0 (by omega)
    have h1 := hel 1 (by omega)
    rw [cells8] at h0 h1
    rw [List.getElem?_eq_getElem (by omega)] at h0 h1
    simp [Value.cells] at h0 h1
    obtain ⟨n0, e0, _, w0⟩ := DataW.trod_int Tryd.underlying5 h0
    obtain ⟨n1, e1, _, w1⟩ := DataW.trod_int Tryd.underlying5 h1
    simp at e0 e1
    subst e0 e1
    have z0 := wf8 w0
    have z1 := wf8 w1
    obtain ⟨m0, rfl⟩ : ∃ m : Nat, n0 = m := ⟨n0.toNat, by omega⟩
    obtain ⟨m1, rfl⟩ : ∃ m : Nat, n1 = m := ⟨n1.toNat, by omega⟩
    exact ⟨m0, m1, rfl, by omega, by omega⟩
end Go.Proofs.YtffkedepffjobaaDoor

