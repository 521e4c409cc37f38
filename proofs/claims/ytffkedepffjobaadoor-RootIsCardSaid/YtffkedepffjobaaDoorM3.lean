/- The contract of mul.Toom. By an AI agent. -/
import Derived.Test.YtffkedepffjobaaDoorM2
set_option linter.unusedVariables false
set_option linter.unusedSimpArgs false
namespace Go.Proofs.YtffkedepffjobaaDoor
open Go.RowKit
set_option maxRecDepth 100000

theorem toom_sign (p q s t : Nat) : (decide (p < q) = decide (s < t) → (p - q + (q - p)) * (s - t + (t - s)) + (p * t + q * s) = p * s + q * t) ∧
    (decide (p < q) ≠ decide (s < t) → (p - q + (q - p)) * (s - t + (t - s)) + (p * s + q * t) = p * t + q * s) := by
  by_cases h1 : p < q
  · obtain ⟨d, rfl⟩ : ∃ d, q = p + d := ⟨q - p, by omega⟩
    have e1 : p - (p + d) + (p + d - p) = d := by omega
    by_cases h2 : s < t
    · obtain ⟨c, rfl⟩ : ∃ c, t = s + c := ⟨t - s, by omega⟩
      have e2 : s - (s + c) + (s + c - s) = c := by omega
      rw [e1, e2]
      refine ⟨fun _ => ?_, fun h => absurd (by simp [h1, h2]) h⟩
      simp only [Nat.mul_add, Nat.add_mul]
      omega
    · obtain ⟨c, rfl⟩ : ∃ c, s = t + c := ⟨s - t, by omega⟩
      have e2 : t + c - t + (t - (t + c)) = c := by omega
      rw [e1, e2]
      refine ⟨fun h => by simp [h1] at h; omega, fun _ => ?_⟩
      simp only [Nat.mul_add, Nat.add_mul]
      omega
  · obtain ⟨d, rfl⟩ : ∃ d, p = q + d := ⟨p - q, by omega⟩
    have e1 : q + d - q + (q - (q + d)) = d := by omega
    by_cases h2 : s < t
    · obtain ⟨c, rfl⟩ : ∃ c, t = s + c := ⟨t - s, by omega⟩
      have e2 : s - (s + c) + (s + c - s) = c := by omega
      rw [e1, e2]
      refine ⟨fun h => by simp [h2] at h; omega, fun _ => ?_⟩
      simp only [Nat.mul_add, Nat.add_mul]
      omega
    · obtain ⟨c, rfl⟩ : ∃ c, s = t + c := ⟨s - t, by omega⟩
      have e2 : t + c - t + (t - (t + c)) = c := by omega
      rw [e1, e2]
      refine ⟨fun _ => ?_, fun h => absurd (by rw [decide_eq_false h1, decide_eq_false h2]) h⟩
      simp only [Nat.mul_add, Nat.add_mul]
      omega

/-- What the five points tell: E and O are the sums of the even, and of the odd ones. -/
structure ToomM (x0 x1 x2 y0 y1 y2 c1 c2 c3 E O : Nat) : Prop where
  hE : E = x0 * y0 + c2 + x2 * y2
  hO : O = c1 + c3
  r1 : (x0 + x2 + x1) * (y0 + y2 + y1) = E + O
  same : decide (x0 + x2 < x1) = decide (y0 + y2 < y1) → (x0 + x2 - x1 + (x1 - (x0 + x2))) * (y0 + y2 - y1 + (y1 - (y0 + y2))) + O = E
  other : decide (x0 + x2 < x1) ≠ decide (y0 + y2 < y1) → (x0 + x2 - x1 + (x1 - (x0 + x2))) * (y0 + y2 - y1 + (y1 - (y0 + y2))) + E = O
  r2 : (x0 + (x1 * 2 ^ 1 + x2 * 2 ^ 2)) * (y0 + (y1 * 2 ^ 1 + y2 * 2 ^ 2)) = x0 * y0 + (c2 * 2 ^ 2 + x2 * y2 * 2 ^ 4) + (2 * c1 + 8 * c3)
theorem toomM (x0 x1 x2 y0 y1 y2 : Nat) : ToomM x0 x1 x2 y0 y1 y2 (x0 * y1 + x1 * y0) (x0 * y2 + x1 * y1 + x2 * y0) (x1 * y2 + x2 * y1) ((x0 + x2) * (y0 + y2) + x1 * y1) ((x0 + x2) * y1 + x1 * (y0 + y2)) := by
  have h := toom_sign (x0 + x2) x1 (y0 + y2) y1
  refine ⟨?_, ?_, ?_, h.1, h.2, ?_⟩
  all_goals
    clear h
    simp only [Nat.mul_add, Nat.add_mul, Nat.reducePow]
    have e1 := Nat.mul_assoc x1 2 (y1 * 2)
    have e2 : x1 * 2 * (y1 * 2) = 4 * (x1 * y1) := by rw [Nat.mul_comm x1, Nat.mul_comm y1, Nat.mul_assoc, Nat.mul_left_comm x1]; omega
    have e3 : x1 * 2 * (y2 * 4) = 8 * (x1 * y2) := by rw [Nat.mul_comm x1, Nat.mul_comm y2, Nat.mul_assoc, Nat.mul_left_comm x1]; omega
    have e4 : x2 * 4 * (y1 * 2) = 8 * (x2 * y1) := by rw [Nat.mul_comm x2, Nat.mul_comm y1, Nat.mul_assoc, Nat.mul_left_comm x2]; omega
    have e5 : x2 * 4 * (y2 * 4) = 16 * (x2 * y2) := by rw [Nat.mul_comm x2, Nat.mul_comm y2, Nat.mul_assoc, Nat.mul_left_comm x2]; omega
    have e6 : x0 * (y1 * 2) = 2 * (x0 * y1) := by rw [Nat.mul_comm y1, Nat.mul_left_comm]
    have e7 : x0 * (y2 * 4) = 4 * (x0 * y2) := by rw [Nat.mul_comm y2, Nat.mul_left_comm]
    have e8 : x1 * 2 * y0 = 2 * (x1 * y0) := by rw [Nat.mul_comm x1, Nat.mul_assoc]
    have e9 : x2 * 4 * y0 = 4 * (x2 * y0) := by rw [Nat.mul_comm x2, Nat.mul_assoc]
    first | omega | (rw [e2, e3, e4, e5, e6, e7, e8, e9]; omega)
theorem toom_out (x y B : Nat) :
    x % B * (y % B) + (x % B * (y / B % B) + x / B % B * (y % B)) * B + (x % B * (y / B / B) + x / B % B * (y / B % B) + x / B / B * (y % B)) * (B * B) + (x / B % B * (y / B / B) + x / B / B * (y / B % B)) * (B * B * B) + x / B / B * (y / B / B) * (B * B * B * B) = x * y := by
  have hx : x = x % B + (x / B % B + x / B / B * B) * B := by
    have h1 := Nat.mod_add_div x B
    have h2 := Nat.mod_add_div (x / B) B
    rw [Nat.mul_comm (x / B % B + _), Nat.mul_comm (x / B / B), h2, h1]
  have hy : y = y % B + (y / B % B + y / B / B * B) * B := by
    have h1 := Nat.mod_add_div y B
    have h2 := Nat.mod_add_div (y / B) B
    rw [Nat.mul_comm (y / B % B + _), Nat.mul_comm (y / B / B), h2, h1]
  revert hx hy
  generalize x % B = a0
  generalize x / B % B = a1
  generalize x / B / B = a2
  generalize y % B = b0
  generalize y / B % B = b1
  generalize y / B / B = b2
  rintro rfl rfl
  simp only [Nat.mul_add, Nat.add_mul]
  ac_rfl

/-- The sum of the first so many ones. -/
def tacc (cs : Nat → Nat) (k : Nat) : Nat → Nat
  | 0 => 0
  | i + 1 => tacc cs k i + cs i * 2 ^ (32 * k * i)
/-- Five numbers. -/
def five (a b c d e : Nat) : Nat → Nat
  | 0 => a
  | 1 => b
  | 2 => c
  | 3 => d
  | _ => e
theorem tacc_five (a b c d e k B : Nat) (hB : B = 2 ^ (32 * k)) : tacc (five a b c d e) k 5 = a + b * B + c * (B * B) + d * (B * B * B) + e * (B * B * B * B) := by
  simp only [tacc, five, Nat.pow_mul, Nat.zero_add, Nat.pow_zero, Nat.mul_one, Nat.pow_one]
  rw [Nat.pow_mul] at hB
  rw [← hB]
  simp only [Nat.pow_succ, Nat.pow_zero, Nat.one_mul]
theorem tacc_mono (cs : Nat → Nat) (k i j : Nat) (h : i ≤ j) : tacc cs k i ≤ tacc cs k j := by
  induction j with
  | zero => rw [Nat.le_zero.1 h]; exact Nat.le_refl _
  | succ j ih =>
    by_cases e : i = j + 1
    · rw [e]; exact Nat.le_refl _
    · exact Nat.le_trans (ih (by omega)) (Nat.le_add_right _ _)

/-- What is reckoned on the way from the points to the five numbers. -/
structure ToomA (c0 c1 c2 c3 c4 E O r1 rm r2 X Y : Nat) : Prop where
  a1 : r1 + rm = X
  a2 : r1 - rm = Y
  s1 : 2 * E / 2 ^ 1 = E
  s2 : 2 * O / 2 ^ 1 = O
  l1 : E - (c0 + c4) = c2
  u : r2 - (c0 + (c2 * 2 ^ 2 + c4 * 2 ^ 4)) = 2 * c1 + 8 * c3
  v : (2 * c1 + 8 * c3) / 2 ^ 1 - O = 3 * c3
  t : 3 * c3 / 3 = c3
  d : O - c3 = c1
theorem toomA {c0 c1 c2 c3 c4 E O r1 rm r2 : Nat} (hE : E = c0 + c2 + c4) (hO : O = c1 + c3) (h1 : r1 = E + O) (h2 : r2 = c0 + (c2 * 2 ^ 2 + c4 * 2 ^ 4) + (2 * c1 + 8 * c3)) (X Y : Nat) (ha : r1 + rm = X) (hb : r1 - rm = Y) : ToomA c0 c1 c2 c3 c4 E O r1 rm r2 X Y := by
  refine ⟨ha, hb, ?_, ?_, ?_, ?_, ?_, ?_, ?_⟩ <;> omega

/-- How long the numbers are. -/
structure ToomB (c0 c1 c2 c3 c4 E O r1 rm r2 : Nat) : Prop where
  h_e : bl E ≤ 100000000000
  h_o : bl O ≤ 100000000000
  h_e2 : bl (2 * E) ≤ 100000000000
  h_o2 : bl (2 * O) ≤ 100000000000
  h_r1 : bl r1 ≤ 100000000000
  h_rm : bl rm ≤ 100000000000
  h_r2 : bl r2 ≤ 100000000000
  h_c0 : bl c0 ≤ 100000000000
  h_c1 : bl c1 ≤ 100000000000
  h_c2 : bl c2 ≤ 100000000000
  h_c3 : bl c3 ≤ 100000000000
  h_c4 : bl c4 ≤ 100000000000
  h_c04 : bl (c0 + c4) ≤ 100000000000
  h_s : bl (c0 + (c2 * 2 ^ 2 + c4 * 2 ^ 4)) ≤ 100000000000
  h_s2 : bl (c2 * 2 ^ 2 + c4 * 2 ^ 4) ≤ 100000000000
  h_u : bl (2 * c1 + 8 * c3) ≤ 100000000000
  h_v : bl ((2 * c1 + 8 * c3) / 2 ^ 1) ≤ 100000000000
  h_d2 : bl (c2 * 2 ^ 2) ≤ 100000000000
  h_d4 : bl (c4 * 2 ^ 4) ≤ 100000000000
  h_t : bl (3 * c3) ≤ 100000000000
theorem bl_of_le {x y n : Nat} (h : bl y ≤ n) (k : x ≤ y) : bl x ≤ n := Nat.le_trans (bl_mono k) h
theorem toomB {c0 c1 c2 c3 c4 E O r1 rm r2 k : Nat} (hk : k ≤ 40000000) (hE : E = c0 + c2 + c4) (hO : O = c1 + c3) (h1 : r1 = E + O) (h2 : r2 = c0 + (c2 * 2 ^ 2 + c4 * 2 ^ 4) + (2 * c1 + 8 * c3))
    (b1 : bl r1 ≤ 64 * k + 64) (b2 : bl rm ≤ 64 * k + 64) (b3 : bl r2 ≤ 64 * k + 64) : ToomB c0 c1 c2 c3 c4 E O r1 rm r2 := by
  have b4 : bl (2 * r1) ≤ 100000000000 := by have := bl_shl_le r1 1; rw [Nat.mul_comm] at this; exact Nat.le_trans this (by omega)
  replace b1 : bl r1 ≤ 100000000000 := by omega
  replace b2 : bl rm ≤ 100000000000 := by omega
  replace b3 : bl r2 ≤ 100000000000 := by omega
  simp only [Nat.reducePow] at *
  exact ⟨bl_of_le b1 (by omega), bl_of_le b1 (by omega), bl_of_le b4 (by omega), bl_of_le b4 (by omega), b1, b2, b3, bl_of_le b1 (by omega), bl_of_le b1 (by omega), bl_of_le b1 (by omega), bl_of_le b1 (by omega), bl_of_le b1 (by omega), bl_of_le b1 (by omega),
    bl_of_le b3 (by omega), bl_of_le b3 (by omega), bl_of_le b3 (by omega), bl_of_le b3 (by omega), bl_of_le b3 (by omega), bl_of_le b3 (by omega), bl_of_le b3 (by omega)⟩

/-- A factor's three thirds: its values at the points are no longer than one limb more. -/
structure ToomL (x0 x1 x2 k : Nat) : Prop where
  l0 : nl x0 ≤ k + 1
  l2 : nl x2 ≤ k + 1
  lp : nl (x0 + x2 + x1) ≤ k + 1
  lm : nl (x0 + x2 - x1 + (x1 - (x0 + x2))) ≤ k + 1
  lq : nl (x0 + (x1 * 2 ^ 1 + x2 * 2 ^ 2)) ≤ k + 1
  bp : bl (x0 + x2 + x1) ≤ 32 * k + 2
  bm : bl (x0 + x2 - x1 + (x1 - (x0 + x2))) ≤ 32 * k + 3
  bq : bl (x0 + (x1 * 2 ^ 1 + x2 * 2 ^ 2)) ≤ 32 * k + 4
theorem toomL {x0 x1 x2 k : Nat} (k1 : bl x0 ≤ 32 * k) (k2 : bl x1 ≤ 32 * k) (k3 : bl x2 ≤ 32 * k) : ToomL x0 x1 x2 k := by
  have f1 := bl_add x0 x2
  have f2 := bl_add (x0 + x2) x1
  have f3 := bl_sub (x0 + x2) x1
  have f4 := bl_sub x1 (x0 + x2)
  have f5 := bl_add (x0 + x2 - x1) (x1 - (x0 + x2))
  have f6 := bl_shl_le x1 1
  have f7 := bl_shl_le x2 2
  have f8 := bl_add (x1 * 2 ^ 1) (x2 * 2 ^ 2)
  have f9 := bl_add x0 (x1 * 2 ^ 1 + x2 * 2 ^ 2)
  exact ⟨by unfold nl; omega, by unfold nl; omega, by unfold nl; omega, by unfold nl; omega, by unfold nl; omega, by omega, by omega, by omega⟩

/-- All that the walk wants. -/
structure ToomN (x0 x1 x2 y0 y1 y2 k : Nat) (an bn : Bool) (c0 c1 c2 c3 c4 E O r1 rm r2 X Y : Nat) : Prop where
  h_r1 : (x0 + x2 + x1) * (y0 + y2 + y1) = r1
  h_rm : (x0 + x2 - x1 + (x1 - (x0 + x2))) * (y0 + y2 - y1 + (y1 - (y0 + y2))) = rm
  h_r2 : (x0 + (x1 * 2 ^ 1 + x2 * 2 ^ 2)) * (y0 + (y1 * 2 ^ 1 + y2 * 2 ^ 2)) = r2
  h_c0 : x0 * y0 = c0
  h_c4 : x2 * y2 = c4
  h_an : an = decide (x0 + x2 < x1)
  h_bn : bn = decide (y0 + y2 < y1)
  h_xy : (an = bn ∧ X = 2 * E ∧ Y = 2 * O) ∨ (bn = !an ∧ X = 2 * O ∧ Y = 2 * E)
  h_a : ToomA c0 c1 c2 c3 c4 E O r1 rm r2 X Y
  h_out : ∀ B, B = 2 ^ (32 * k) → tacc (five c0 c1 c2 c3 c4) k 5 = x0 * y0 + (x0 * y1 + x1 * y0) * B + (x0 * y2 + x1 * y1 + x2 * y0) * (B * B) + (x1 * y2 + x2 * y1) * (B * B * B) + x2 * y2 * (B * B * B * B)
theorem toomN (x0 x1 x2 y0 y1 y2 k : Nat) (hk : k ≤ 40000000) (hx : ToomL x0 x1 x2 k) (hy : ToomL y0 y1 y2 k) : ∃ an bn c0 c1 c2 c3 c4 E O r1 rm r2 X Y, ToomB c0 c1 c2 c3 c4 E O r1 rm r2 ∧ Hid (ToomN x0 x1 x2 y0 y1 y2 k an bn c0 c1 c2 c3 c4 E O r1 rm r2 X Y) := by
  have HM := toomM x0 x1 x2 y0 y1 y2
  have z1 := bl_mul (x0 + x2 + x1) (y0 + y2 + y1)
  have z2 := bl_mul (x0 + x2 - x1 + (x1 - (x0 + x2))) (y0 + y2 - y1 + (y1 - (y0 + y2)))
  have z3 := bl_mul (x0 + (x1 * 2 ^ 1 + x2 * 2 ^ 2)) (y0 + (y1 * 2 ^ 1 + y2 * 2 ^ 2))
  obtain ⟨_, _, _, _, _, p1, p2, p3⟩ := hx
  obtain ⟨_, _, _, _, _, q1, q2, q3⟩ := hy
  obtain ⟨m1, m2, m3, m4, m5, m6⟩ := HM
  have HB := toomB hk m1 m2 m3 m6 (by omega) (Nat.le_trans z2 (by omega)) (by omega)
  have hs : ∀ a b c d X Y : Nat, a + b = c → c = d → a = d - b := by intros; omega
  by_cases hs : decide (x0 + x2 < x1) = decide (y0 + y2 < y1)
  · have h := m4 hs
    refine ⟨_, _, _, _, _, _, _, _, _, _, _, _, _, _, HB, Lib.hid ⟨rfl, rfl, rfl, rfl, rfl, rfl, rfl, .inl ⟨hs, rfl, rfl⟩, toomA m1 m2 m3 m6 _ _ ?_ ?_, ?_⟩⟩
    · rw [m3]; omega
    · rw [m3]; omega
    · intro B hB; rw [tacc_five _ _ _ _ _ _ _ hB]
  · have h := m5 hs
    refine ⟨_, _, _, _, _, _, _, _, _, _, _, _, _, _, HB, Lib.hid ⟨rfl, rfl, rfl, rfl, rfl, rfl, rfl, .inr ⟨?_, rfl, rfl⟩, toomA m1 m2 m3 m6 _ _ ?_ ?_, ?_⟩⟩
    · revert hs; generalize decide (x0 + x2 < x1) = a; generalize decide (y0 + y2 < y1) = b; cases a <;> cases b <;> simp
    · rw [m3]; omega
    · rw [m3]; omega
    · intro B hB; rw [tacc_five _ _ _ _ _ _ _ hB]
end Go.Proofs.YtffkedepffjobaaDoor

namespace Go.Proofs.YtffkedepffjobaaDoor
open Go.RowKit
set_option maxRecDepth 100000

/-- What a product of at most m limbs each tells. -/
def ToomTo (m : Nat) : Prop := ∀ (w : World) (va vb : Value) (x y : Nat), IsN w va x → IsN w vb y → nl x ≤ m → nl y ≤ m → Calls Tryd.prog 59 #[va, vb] w (AnsN w (x * y))
theorem calls_world {P : Program} {f : Nat} {args : Array Value} {w : World} {Q : Ending → World → Prop} (H : ∀ W, W = w → Calls P f args W Q) : Calls P f args w Q := H w rfl
theorem wp_world {P : Program} {c : Code} {Q : Exit → Act → World → Prop} {a : Act} {w : World} (H : ∀ W, W = w → Code.wp P c Q a W) : Code.wp P c Q a w := H w rfl
theorem wp_world_check : True := trivial
theorem IsN.find {w w1 : World} {v n} (h : IsN w v n) (hb : Below w.heap.size w w1) : IsN w1 v n := h.up hb

theorem kToom {m : Nat} (hm : ToomTo m) {w : World} {va vb : Value} {x y : Nat} (ha : IsN w va x := by repeat (first | assumption | (apply IsN.up' (by assumption)) | (apply IsN.al') | (apply IsN.dr) | (apply IsN.drN')))
    (hb : IsN w vb y := by repeat (first | assumption | (apply IsN.up' (by assumption)) | (apply IsN.al') | (apply IsN.dr) | (apply IsN.drN')))
    (hx : nl x ≤ m := by first | assumption | omega) (hy : nl y ≤ m := by first | assumption | omega) : Calls Tryd.prog 59 #[va, vb] w (AnsN w (x * y)) := hm w va vb x y ha hb hx hy
theorem kThird {w : World} {va : Value} {x : Nat} (ha : IsN w va x := by repeat (first | assumption | (apply IsN.up' (by assumption)) | (apply IsN.al') | (apply IsN.dr) | (apply IsN.drN')))
    (bx : bl x ≤ 100000000000 := by first | assumption | omega) : Calls Tryd.prog 79 #[va] w (AnsN w (x / 3)) := mul_third w va x ha bx

set_option maxHeartbeats 8000000 in
theorem mul_Toom (m : Nat) (hm : m ≤ 100000000) : ToomTo m := by
  induction m using Nat.strongRecOn with
  | _ m ih =>
    intro w va vb x y ha hb hx hy
    have bx : bl x ≤ 100000000000 := by unfold nl at hx; omega
    have by_ : bl y ≤ 100000000000 := by unfold nl at hy; omega
    obtain ⟨A, c, rfl⟩ := ha.slice
    obtain ⟨A', c', rfl⟩ := hb.slice
    by_cases h4 : min (nl x) (nl y) < 7
    · have h4' : min (nl x : Int) (nl y : Int) < 7 := by omega
      clear ih
      have HK := Lib.hid (mul_Karatsuba m hm)
      go_enter Tryd.func59, Tryd.ntmps59
      go_wp2_with (go_at_call 60; refine (kKar HK.out).mono ?_; rintro e w' ⟨v, rfl, h, hb⟩)
      go_ret
      exact ⟨_, rfl, h, up_then (up_alloc (Below.refl _ _) _) hb⟩
    · have h4' : ¬ (min (nl x : Int) (nl y : Int) < 7) := by omega
      obtain ⟨n, hn⟩ : ∃ n, n = max (nl x) (nl y) := ⟨_, rfl⟩
      obtain ⟨k, hk⟩ : ∃ k, k = (n + 2) / 3 := ⟨_, rfl⟩
      have hmx : max (nl x : Int) (nl y : Int) = (n : Int) := by omega
      have hki : ((n : Int) + 2) / 3 = (k : Int) := by omega
      have hnx : nl x ≤ n := by omega
      have hny : nl y ≤ n := by omega
      have hnb : n ≤ 100000000 := by omega
      have h7 : 7 ≤ n := by omega
      obtain ⟨B, hB⟩ : ∃ B, B = 2 ^ (32 * k) := ⟨_, rfl⟩
      have hBp : 0 < B := by rw [hB]; exact Nat.two_pow_pos _
      have IH := Lib.hid (ih (k + 1) (by omega) (by omega))
      have HC := Lib.hid (And.intro (toom_cut · · x k n B hk h7 hnb hB hnx) (toom_cut · · y k n B hk h7 hnb hB hny))
      have HO := Lib.hid (toom_out x y B)
      have k1 : bl (x % B) ≤ 32 * k := bl_le_iff.2 (by rw [← hB]; exact Nat.mod_lt _ hBp)
      have k2 : bl (x / B % B) ≤ 32 * k := bl_le_iff.2 (by rw [← hB]; exact Nat.mod_lt _ hBp)
      have k3 : bl (x / B / B) ≤ 32 * k := by rw [hB, bl_shr, bl_shr]; unfold nl at hnx; omega
      have k4 : bl (y % B) ≤ 32 * k := bl_le_iff.2 (by rw [← hB]; exact Nat.mod_lt _ hBp)
      have k5 : bl (y / B % B) ≤ 32 * k := bl_le_iff.2 (by rw [← hB]; exact Nat.mod_lt _ hBp)
      have k6 : bl (y / B / B) ≤ 32 * k := by rw [hB, bl_shr, bl_shr]; unfold nl at hny; omega
      have hkb : k ≤ 40000000 := by omega
      clear ih hn hk hx hy h4
      revert HC HO k1 k2 k3 k4 k5 k6
      generalize x % B = x0
      generalize x / B % B = x1
      generalize x / B / B = x2
      generalize y % B = y0
      generalize y / B % B = y1
      generalize y / B / B = y2
      intro HC HO k1 k2 k3 k4 k5 k6
      have HB := Lib.hid hB
      clear hB hBp
      have LX := toomL k1 k2 k3
      have LY := toomL k4 k5 k6
      obtain ⟨an, bn, c0, c1, c2, c3, c4, E, O, r1, rm, r2, X, Y, BB, HN⟩ := toomN x0 x1 x2 y0 y1 y2 k hkb LX LY
      obtain ⟨l1, l2, l3, l4, l5, _, _, _⟩ := LX
      obtain ⟨l6, l7, l8, l9, l10, _, _, _⟩ := LY
      obtain ⟨z1, z2, z3, z4, z5, z6, z7, z8, z9, z10, z11, z12, z13, z14, z15, z16, z17, z18, z19, z20⟩ := BB
      have HZ := Lib.hid (show tacc (five c0 c1 c2 c3 c4) k 5 = x * y from (HN.out.h_out B HB.out).trans HO.out)
      clear HO
      go_enter Tryd.func59, Tryd.ntmps59
      go_wp2_with fail
      refine calls_world ?_
      intro W hW
      have hWw : Below w.heap.size w W := by rw [hW]; exact up_alloc (up_alloc (Below.refl _ _) _) _
      have cN : W.cell? ⟨w.heap.size, 0, none⟩ = some (.int .i64 n) := by rw [hW]; simp [go_sem]
      have cK : W.cell? ⟨w.heap.size + 1, 0, none⟩ = some (.int .i64 k) := by rw [hW]; simp [go_sem]
      have hWs : W.heap.size = w.heap.size + 2 := by rw [hW]; simp
      clear hW
      have HcN := Lib.hid cN
      have HcK := Lib.hid cK
      refine ((HC.out.1 _ _ (ha.up hWw) _ _ cK cN)).mono ?_
      rintro e W1 ⟨v, rfl, ⟨u0, u1, u2, rfl, hu0, hu1, hu2⟩, hW1⟩
      obtain ⟨A0, d0, rfl⟩ := hu0.slice
      obtain ⟨A1, d1, rfl⟩ := hu1.slice
      obtain ⟨A2, d2, rfl⟩ := hu2.slice
      clear cN cK
      go_wp2_with fail
      refine ((HC.out.2 W1 _ ((hb.up hWw).up hW1) _ _ (by rw [hW1.cell (by rw [hWs]; simp)]; exact HcK.out) (by rw [hW1.cell (by rw [hWs]; simp)]; exact HcN.out))).mono ?_
      rintro e W2 ⟨v, rfl, ⟨v0, v1, v2, rfl, hv0, hv1, hv2⟩, hW2⟩
      obtain ⟨B0, e0, rfl⟩ := hv0.slice
      obtain ⟨B1, e1, rfl⟩ := hv1.slice
      obtain ⟨B2, e2, rfl⟩ := hv2.slice
      go_wp2_with fail
      refine calls_world ?_
      intro W3 hW3
      have hb3 : Below W2.heap.size W2 W3 := by rw [hW3]; exact up_alloc (up_alloc (Below.refl _ _) _) _
      have p0 : W3.cell? ⟨W2.heap.size, 0, none⟩ = some (.slice A0 (nl x0) d0) := by rw [hW3]; simp [go_sem]
      have p1 : W3.cell? ⟨W2.heap.size, 2, none⟩ = some (.slice A2 (nl x2) d2) := by rw [hW3]; simp [go_sem]
      have q0 : W3.cell? ⟨W2.heap.size + 1, 0, none⟩ = some (.slice B0 (nl y0) e0) := by rw [hW3]; simp [go_sem]
      have q1 : W3.cell? ⟨W2.heap.size + 1, 1, none⟩ = some (.slice B1 (nl y1) e1) := by rw [hW3]; simp [go_sem]
      have q2 : W3.cell? ⟨W2.heap.size + 1, 2, none⟩ = some (.slice B2 (nl y2) e2) := by rw [hW3]; simp [go_sem]
      have hs3 : W3.heap.size = W2.heap.size + 2 := by rw [hW3]; simp
      have hk3 : W3.cell? ⟨w.heap.size + 1, 0, none⟩ = some (.int .i64 k) := by rw [hb3.cell (by simp; have := hW2.size; have := hW1.size; omega), hW2.cell (by simp; have := hW1.size; omega), hW1.cell (by rw [hWs]; simp)]; exact HcK.out
      have hbw : Below w.heap.size w W3 := up_then hWw (up_then hW1 (up_then hW2 hb3))
      have KS : Hid (∀ X, Below W3.heap.size W3 X → (X.cell? ⟨W2.heap.size, 0, none⟩ = some (.slice A0 (nl x0) d0) ∧ X.cell? ⟨W2.heap.size, 2, none⟩ = some (.slice A2 (nl x2) d2)) ∧
        (X.cell? ⟨W2.heap.size + 1, 0, none⟩ = some (.slice B0 (nl y0) e0) ∧ X.cell? ⟨W2.heap.size + 1, 1, none⟩ = some (.slice B1 (nl y1) e1) ∧ X.cell? ⟨W2.heap.size + 1, 2, none⟩ = some (.slice B2 (nl y2) e2)) ∧
        X.cell? ⟨w.heap.size + 1, 0, none⟩ = some (.int .i64 k)) := Lib.hid fun X hX => by
        have h := fun p v (e : W3.cell? p = some v) => (hX.cell (World.block_lt_of_cell? _ _ e)).trans e
        exact ⟨⟨h _ _ p0, h _ _ p1⟩, ⟨h _ _ q0, h _ _ q1, h _ _ q2⟩, h _ _ hk3⟩
      replace hu0 := (hu0.up hW2).up hb3
      replace hu1 := (hu1.up hW2).up hb3
      replace hu2 := (hu2.up hW2).up hb3
      replace hv0 := hv0.up hb3
      replace hv1 := hv1.up hb3
      replace hv2 := hv2.up hb3
      clear hW3 p0 p1 q0 q1 q2 hk3 hb3 hW1 hW2 hWw HcN HcK hWs HC ha hb
      have HP := mul_points W3 _ _ _ x0 x1 x2 hu0 hu1 hu2 (by omega) (by omega) (by omega)
      rw [← HN.out.h_an] at HP
      refine HP.mono ?_
      clear HP
      rintro e W4 ⟨v, rfl, ⟨a1, am, a2, rfl, ha1, ham, ha2⟩, hW4⟩
      obtain ⟨⟨p0, p1⟩, ⟨q0, q1, q2⟩, hk4⟩ := KS.out W4 hW4
      go_wp2_with fail
      have HP := mul_points W4 _ _ _ y0 y1 y2 (hv0.up hW4) (hv1.up hW4) (hv2.up hW4) (by omega) (by omega) (by omega)
      rw [← HN.out.h_bn] at HP
      refine HP.mono ?_
      clear HP
      rintro e W5 ⟨v, rfl, ⟨b1, bm, b2, rfl, hb1, hbm, hb2⟩, hW5⟩
      clear p0 p1 q0 q1 q2 hk4
      obtain ⟨⟨p0, p1⟩, ⟨q0, q1, q2⟩, hk4⟩ := KS.out W5 (up_then hW4 hW5)
      go_wp2_with fail
      replace hu0 := (hu0.up hW4).up hW5
      replace hu2 := (hu2.up hW4).up hW5
      replace hv0 := hv0.up (up_then hW4 hW5)
      replace hv2 := hv2.up (up_then hW4 hW5)
      replace ha1 := ha1.up hW5
      replace ham := ham.up hW5
      replace ha2 := ha2.up hW5
      clear hu1 hv1
      have KT : Hid (∀ X, Below W5.heap.size W5 X → (X.cell? ⟨W2.heap.size, 0, none⟩ = some (.slice A0 (nl x0) d0) ∧ X.cell? ⟨W2.heap.size, 2, none⟩ = some (.slice A2 (nl x2) d2)) ∧
        (X.cell? ⟨W2.heap.size + 1, 0, none⟩ = some (.slice B0 (nl y0) e0) ∧ X.cell? ⟨W2.heap.size + 1, 1, none⟩ = some (.slice B1 (nl y1) e1) ∧ X.cell? ⟨W2.heap.size + 1, 2, none⟩ = some (.slice B2 (nl y2) e2)) ∧
        X.cell? ⟨w.heap.size + 1, 0, none⟩ = some (.int .i64 k)) := Lib.hid fun X hX => KS.out X (up_then hW4 (up_then hW5 hX))
      replace hbw := up_then hbw (up_then hW4 hW5)
      clear KS hW4 hW5
      go_region_held3 (fun X => (X.cell? ⟨W2.heap.size, 0, none⟩ = some (.slice A0 (nl x0) d0) ∧ X.cell? ⟨W2.heap.size, 2, none⟩ = some (.slice A2 (nl x2) d2)) ∧
        (X.cell? ⟨W2.heap.size + 1, 0, none⟩ = some (.slice B0 (nl y0) e0) ∧ X.cell? ⟨W2.heap.size + 1, 1, none⟩ = some (.slice B1 (nl y1) e1) ∧ X.cell? ⟨W2.heap.size + 1, 2, none⟩ = some (.slice B2 (nl y2) e2)) ∧
        X.cell? ⟨w.heap.size + 1, 0, none⟩ = some (.int .i64 k))
        (first | exact KT.out _ (by repeat (first | exact Below.refl _ _ | assumption | (apply up_then' (by assumption)) | (apply Below.drew) | (apply up_al') | (apply up_drN'))))
        (first
        | (go_at_call 59; refine (kToom IH.out).mono ?_; rintro e w' ⟨v, rfl, h, hb⟩; (first | rw [HN.out.h_c0] at h | rw [HN.out.h_c4] at h | skip); obtain ⟨_, _, rfl⟩ := h.slice)
        | fail)
      have bxy : bl (x * y) ≤ 100000000000 := by have := bl_mul x y; unfold nl at hnx hny; omega
      rcases HN.out.h_xy with ⟨rfl, rfl, rfl⟩ | ⟨rfl, rfl, rfl⟩
      all_goals
        go_wp2_with (first
        | (go_at_call 59; refine (kToom IH.out).mono ?_; rintro e w' ⟨v, rfl, h, hb⟩; (first | rw [HN.out.h_r1] at h | rw [HN.out.h_rm] at h | rw [HN.out.h_r2] at h | skip))
        | (go_at_call 52; refine (kAdd).mono ?_; rintro e w' ⟨v, rfl, h, hb⟩; (first | rw [HN.out.h_a.a1] at h | skip))
        | (go_at_call 78; refine (kLess).mono ?_; rintro e w' ⟨v, rfl, h, hb⟩; (first | rw [HN.out.h_a.a2] at h | rw [HN.out.h_a.l1] at h | rw [HN.out.h_a.u] at h | rw [HN.out.h_a.v] at h | rw [HN.out.h_a.d] at h | skip); obtain ⟨_, _, rfl⟩ := h.slice)
        | (go_at_call 41; refine (kShr (n := 1) (by omega)).mono ?_; rintro e w' ⟨v, rfl, h, hb⟩; (first | rw [HN.out.h_a.s1] at h | rw [HN.out.h_a.s2] at h | skip))
        | (go_at_call 40; (first | with_reducible refine (kShl (n := 2) (by omega)).mono ?_ | with_reducible refine (kShl (n := 4) (by omega)).mono ?_); rintro e w' ⟨v, rfl, h, hb⟩)
        | (go_at_call 79; refine (kThird).mono ?_; rintro e w' ⟨v, rfl, h, hb⟩; rw [HN.out.h_a.t] at h; obtain ⟨_, _, rfl⟩ := h.slice))
        refine wp_world ?_
        intro Wz hWz
        have hbz : Below W5.heap.size W5 Wz := by rw [hWz]; repeat (first | exact Below.refl _ _ | assumption | (apply up_then' (by assumption)) | (apply Below.drew) | (apply up_al') | (apply up_drN'))
        have hkz := (KT.out Wz hbz).2.2
        have C5 : ∀ j, j < 5 → ∃ A c, Wz.cell? ⟨w'.heap.size, j, none⟩ = some (.slice A (nl (five c0 c1 c2 c3 c4 j)) c) ∧ IsN Wz (.slice A (nl (five c0 c1 c2 c3 c4 j)) c) (five c0 c1 c2 c3 c4 j) := by
          intro j hj
          rw [hWz]
          have : j = 0 ∨ j = 1 ∨ j = 2 ∨ j = 3 ∨ j = 4 := by omega
          rcases this with rfl | rfl | rfl | rfl | rfl
          all_goals
            refine ⟨_, _, (World.cell?_alloc_new _ _ _ _).trans rfl, ?_⟩
            apply IsN.al'
            show IsN _ _ _
            repeat (first | assumption | (apply IsN.up' (by assumption)) | (apply IsN.dr))
        have KZ : Hid (∀ X, Below Wz.heap.size Wz X → X.cell? ⟨w.heap.size + 1, 0, none⟩ = some (.int .i64 k) ∧ ∀ j, j < 5 → ∃ A c, X.cell? ⟨w'.heap.size, j, none⟩ = some (.slice A (nl (five c0 c1 c2 c3 c4 j)) c) ∧ IsN X (.slice A (nl (five c0 c1 c2 c3 c4 j)) c) (five c0 c1 c2 c3 c4 j)) := Lib.hid fun X hX => by
          refine ⟨(hX.cell (World.block_lt_of_cell? _ _ hkz)).trans hkz, fun j hj => ?_⟩
          obtain ⟨A, c, e, h⟩ := C5 j hj
          exact ⟨A, c, (hX.cell (World.block_lt_of_cell? _ _ e)).trans e, h.up hX⟩
        have hbw' : Below w.heap.size w Wz := up_then hbw hbz
        have C6 : Hid (∀ j, j < 5 → bl (five c0 c1 c2 c3 c4 j) ≤ 100000000000) := Lib.hid fun j hj => by
          have : j = 0 ∨ j = 1 ∨ j = 2 ∨ j = 3 ∨ j = 4 := by omega
          rcases this with rfl | rfl | rfl | rfl | rfl <;> assumption
        have C7 : Hid (∀ j, j ≤ 5 → bl (tacc (five c0 c1 c2 c3 c4) k j) ≤ 100000000000) := Lib.hid fun j hj => bl_of_le (by rw [HZ.out]; exact bxy) (tacc_mono _ _ _ _ hj)
        clear C5 hkz
        go_loopw [29, 133] (fun o i wr => ∃ j : Nat, j ≤ 5 ∧ i = .int .i64 j ∧ IsN wr o (tacc (five c0 c1 c2 c3 c4) k j) ∧ Below Wz.heap.size Wz wr) (fun _ i _ => 5 - (intOf i).toNat)
        case atStart => exact ⟨0, by omega, rfl, ⟨[], Rd.nil _ _ _ _ (fun _ => rfl), Nrm.nil, rfl⟩, Below.refl _ _⟩
        case round =>
          obtain ⟨j, hj, rfl, ho, hB⟩ := hrel
          obtain ⟨hkr, hcs⟩ := KZ.out wr hB
          by_cases hlt : j < 5
          · obtain ⟨Aj, cj, ej, hij⟩ := hcs j hlt
            have hbj := C6.out j hlt
            have hbo := C7.out j (by omega)
            obtain ⟨N, hN⟩ : ∃ N, N = 32 * k * j := ⟨_, rfl⟩
            have hNb : N ≤ 10000000000 := by rw [hN]; exact Nat.le_trans (Nat.mul_le_mul (show 32 * k ≤ 1280000000 by omega) (show j ≤ 5 by omega)) (by omega)
            have hNi : (32 : Int) * (k : Int) * (j : Int) = (N : Int) := by rw [hN]; simp
            have hki : IntKind.i64.wrap (32 * (k : Int)) = 32 * (k : Int) := IntWalk.i64_in _ (by omega)
            have hbs := bl_shl_le (five c0 c1 c2 c3 c4 j) N
            have HNN := Lib.hid hN
            have hbn : bl (five c0 c1 c2 c3 c4 j * 2 ^ N) ≤ 100000000000 := by
              refine bl_of_le (C7.out (j + 1) (by omega)) ?_
              rw [hN]; exact Nat.le_add_left _ _
            clear hcs hN hbs
            go_wp2_with (first
              | (go_at_call 40; refine (kShl (n := N) (by first | rfl | omega | (rw [IntWalk.i64_in _ (by omega)]))).mono ?_; rintro e w' ⟨v, rfl, h, hb⟩)
              | (go_at_call 52; refine (kAdd).mono ?_; rintro e w' ⟨v, rfl, h, hb⟩))
            go_roundw
            case rel =>
              refine ⟨j + 1, by omega, by go_num, ?_, by repeat (first | exact Below.refl _ _ | assumption | (apply up_then' (by assumption)))⟩
              show IsN _ _ (tacc (five c0 c1 c2 c3 c4) k j + five c0 c1 c2 c3 c4 j * 2 ^ (32 * k * j))
              rw [← HNN.out]
              exact h
            case measure => simp [intOf]; omega
          · obtain rfl : j = 5 := by omega
            clear hlt hcs
            go_wp2
            go_ret
            rw [HZ.out] at ho
            exact ⟨_, rfl, ho, up_then hbw' hB⟩
end Go.Proofs.YtffkedepffjobaaDoor

