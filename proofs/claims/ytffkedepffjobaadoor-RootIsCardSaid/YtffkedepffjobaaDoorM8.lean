/- The contracts of root.Sqrt, root.Root and root.Is. By an AI agent. -/
import Derived.Test.YtffkedepffjobaaDoorM7
namespace Go.Proofs.YtffkedepffjobaaDoor
open Go.RowKit
set_option maxRecDepth 100000

theorem div_DivMod (w : World) (va vb : Value) (x y : Nat) (ha : IsN w va x) (hb : IsN w vb y) (bx : bl x ≤ 10000000000) (by_ : bl y ≤ 10000000000) (hy : 0 < y) :
    Calls Tryd.prog 50 #[va, vb] w (AnsQR w (x / y) (x % y)) := by
  rcases Nat.lt_or_ge x y with h | h
  · exact div_less w va vb x y ha hb bx by_ hy h
  · rcases Nat.lt_or_ge y 4294967296 with h1 | h1
    · exact div_one w va vb x y ha hb bx hy h1 h
    · exact div_long w va vb x y ha hb bx by_ h1 h

theorem root_unit (w : World) : Calls Tryd.prog 45 #[] w (AnsN w 1) := by
  go_enter Tryd.func45, Tryd.ntmps45
  go_wp2_with (go_at_call 37; refine (nat_Of 1 _ (by omega)).mono ?_; rintro e w' ⟨v, rfl, ho, hb⟩)
  go_ret
  exact ⟨_, rfl, ho, hb⟩
theorem root_sub (w : World) (va vb : Value) (x y : Nat) (ha : IsN w va x) (hb : IsN w vb y) (bx : bl x ≤ 100000000000) (by_ : bl y ≤ 100000000000) :
    Calls Tryd.prog 42 #[va, vb] w (AnsN w (x - y)) := by
  go_enter Tryd.func42, Tryd.ntmps42
  go_wp2_with (go_at_call 57; refine (nat_Sub _ _ _ x y ha hb bx by_).mono ?_; rintro e w' ⟨v, rfl, ⟨u, rfl, h1⟩, hb1⟩)
  go_ret
  exact ⟨_, rfl, h1, hb1⟩

section
variable {w : World} {va vb : Value} {x y z : Nat}
theorem kAddE (hz : x + y = z) (hx : IsN w va x := by repeat (first | assumption | (apply IsN.up' (by assumption)) | (apply IsN.al') | (apply IsN.dr) | (apply IsN.drN'))) (hy : IsN w vb y := by repeat (first | assumption | (apply IsN.up' (by assumption)) | (apply IsN.al') | (apply IsN.dr) | (apply IsN.drN'))) (bx : bl x ≤ 100000000000 := by first | assumption | omega) (by_ : bl y ≤ 100000000000 := by first | assumption | omega) : Calls Tryd.prog 52 #[va, vb] w (AnsN w z) := by
  subst hz
  exact nat_Add w va vb x y hx hy bx by_
theorem kRsubE (hz : x - y = z) (hx : IsN w va x := by repeat (first | assumption | (apply IsN.up' (by assumption)) | (apply IsN.al') | (apply IsN.dr) | (apply IsN.drN'))) (hy : IsN w vb y := by repeat (first | assumption | (apply IsN.up' (by assumption)) | (apply IsN.al') | (apply IsN.dr) | (apply IsN.drN'))) (bx : bl x ≤ 100000000000 := by first | assumption | omega) (by_ : bl y ≤ 100000000000 := by first | assumption | omega) : Calls Tryd.prog 42 #[va, vb] w (AnsN w z) := by
  subst hz
  exact root_sub w va vb x y hx hy bx by_
theorem kShlE {i : Int} {n : Nat} (hi : i = (n : Nat)) (hz : x * 2 ^ n = z) (hx : IsN w va x := by repeat (first | assumption | (apply IsN.up' (by assumption)) | (apply IsN.al') | (apply IsN.dr) | (apply IsN.drN'))) (bx : bl x ≤ 100000000000 := by first | assumption | omega) (hn : n ≤ 100000000000 := by first | assumption | omega) : Calls Tryd.prog 40 #[va, .int .i64 i] w (AnsN w z) := by
  subst hi hz
  exact nat_Shl w va x n hx bx hn
theorem kShrE {i : Int} {n : Nat} (hi : i = (n : Nat)) (hz : x / 2 ^ n = z) (hx : IsN w va x := by repeat (first | assumption | (apply IsN.up' (by assumption)) | (apply IsN.al') | (apply IsN.dr) | (apply IsN.drN'))) (bx : bl x ≤ 100000000000 := by first | assumption | omega) (hn : n ≤ 100000000000 := by first | assumption | omega) : Calls Tryd.prog 41 #[va, .int .i64 i] w (AnsN w z) := by
  subst hi hz
  exact nat_Shr w va x n hx bx hn
theorem kMulE (hz : x * y = z) (hF : Ok (bl z)) (hx : IsN w va x := by repeat (first | assumption | (apply IsN.up' (by assumption)) | (apply IsN.al') | (apply IsN.dr) | (apply IsN.drN'))) (hy : IsN w vb y := by repeat (first | assumption | (apply IsN.up' (by assumption)) | (apply IsN.al') | (apply IsN.dr) | (apply IsN.drN'))) (bx : bl x ≤ 1000000000 := by first | assumption | omega) (by_ : bl y ≤ 1000000000 := by first | assumption | omega) : Calls Tryd.prog 43 #[va, vb] w (AnsN w z) := by
  subst hz
  exact mul_Mul w va vb x y hx hy bx by_ hF
theorem kDivE {q r : Nat} (hy0 : 0 < y) (hq : x / y = q) (hr : x % y = r) (hx : IsN w va x := by repeat (first | assumption | (apply IsN.up' (by assumption)) | (apply IsN.al') | (apply IsN.dr) | (apply IsN.drN'))) (hy : IsN w vb y := by repeat (first | assumption | (apply IsN.up' (by assumption)) | (apply IsN.al') | (apply IsN.dr) | (apply IsN.drN'))) (bx : bl x ≤ 10000000000 := by first | assumption | omega) (by_ : bl y ≤ 10000000000 := by first | assumption | omega) : Calls Tryd.prog 50 #[va, vb] w (AnsQR w q r) := by
  subst hq hr
  exact div_DivMod w va vb x y hx hy bx by_ hy0
theorem kPowE {n : Nat} {i : Int} (hi : i = (n : Nat)) (hz : x ^ n = z) (hF : Ok (bl z)) (hx : IsN w va x := by repeat (first | assumption | (apply IsN.up' (by assumption)) | (apply IsN.al') | (apply IsN.dr) | (apply IsN.drN'))) (bx : bl x ≤ 1000000000 := by first | assumption | omega) (bz : bl z ≤ 1000000000 := by first | assumption | omega) (hn : n ≤ 1000000000 := by first | assumption | omega) : Calls Tryd.prog 48 #[va, .int .i64 i] w (AnsN w z) := by
  subst hi hz
  exact mul_Pow w va x n hx bz bx hn hF
end
end Go.Proofs.YtffkedepffjobaaDoor

namespace Go.Proofs.YtffkedepffjobaaDoor
open Go.RowKit
set_option maxRecDepth 100000

/-- What is known of a square root with j bits left to make. -/
structure Le (n r j : Nat) : Prop where
  sq : r * r ≤ n
  up : n < (r + 2 ^ j) * (r + 2 ^ j)
  mul : 2 ^ j ∣ r
  top : r + 2 ^ j ≤ 4294967296
def bitOf (j : Nat) : Nat := if j = 0 then 0 else 2 ^ (j - 1)
theorem le_start (n : Nat) (h : n < 18446744073709551616) : Le n 0 32 := ⟨by omega, by rw [Nat.zero_add]; exact h, ⟨0, rfl⟩, by omega⟩
theorem le_or {n r j : Nat} (h : Le n r (j + 1)) : r ||| 2 ^ j = r + 2 ^ j := by
  obtain ⟨q, hq⟩ := h.mul
  have := or_add (2 ^ j) q (j + 1) (Nat.pow_lt_pow_right (by omega) (by omega))
  rw [hq, Nat.or_comm, Nat.mul_comm, this]
  omega
theorem le_yes {n r j : Nat} (h : Le n r (j + 1)) (hx : (r + 2 ^ j) * (r + 2 ^ j) ≤ n) : Le n (r + 2 ^ j) j := by
  have h2 := h.up
  have e : r + 2 ^ (j + 1) = r + 2 ^ j + 2 ^ j := by rw [Nat.pow_succ]; omega
  rw [e] at h2
  refine ⟨hx, h2, ?_, ?_⟩
  · exact (Nat.dvd_add_left (Nat.dvd_refl _)).2 (Nat.dvd_trans (Nat.pow_dvd_pow 2 (by omega)) h.mul)
  · have := h.top; rw [e] at this; exact this
theorem le_no {n r j : Nat} (h : Le n r (j + 1)) (hx : ¬ (r + 2 ^ j) * (r + 2 ^ j) ≤ n) : Le n r j := by
  refine ⟨h.sq, by omega, Nat.dvd_trans (Nat.pow_dvd_pow 2 (by omega)) h.mul, ?_⟩
  have h1 := h.top
  have : 2 ^ j ≤ 2 ^ (j + 1) := Nat.pow_le_pow_right (by omega) (by omega)
  omega
theorem le_end {n r : Nat} (h : Le n r 0) : r = rt n 2 := by
  have h1 := h.up
  rw [Nat.pow_zero] at h1
  exact (rt_eq (by omega) ⟨by rw [Nat.pow_two]; exact h.sq, by rw [Nat.pow_two]; exact h1⟩).symm
theorem bitOf_half (j : Nat) : ((2 ^ j : Nat) : Int) / 2 = ((bitOf j : Nat) : Int) := by
  unfold bitOf
  split
  · rename_i h; subst h; rfl
  · rename_i h
    obtain ⟨i, rfl⟩ : ∃ i, j = i + 1 := ⟨j - 1, by omega⟩
    rw [Nat.pow_succ, Nat.add_sub_cancel]
    omega

theorem root_least (n : Nat) (w : World) (hn : n < 18446744073709551616) :
    Calls Tryd.prog 36 #[.int .u64 n] w fun e w' => e = .returned (.int .u64 (rt n 2)) ∧ w = w' := by
  have H0 := Lib.hid (le_start n hn)
  go_enter Tryd.func36, Tryd.ntmps36
  go_wp2
  go_loop [3, 4] (fun rv bv => ∃ r j : Nat, j ≤ 32 ∧ rv = .int .u64 r ∧ bv = .int .u64 (bitOf j : Nat) ∧ Hid (Le n r j)) (fun _ bv => (intOf bv).toNat)
  case atStart => exact ⟨0, 32, by omega, rfl, rfl, H0⟩
  case round =>
    clear H0
    obtain ⟨r, j, hj, rfl, rfl, H⟩ := hrel
    rcases Nat.eq_zero_or_pos j with rfl | h0
    · have hz : bitOf 0 = 0 := rfl
      have HE := Lib.hid (le_end H.out)
      rw [hz]
      clear hz
      go_wp2
      go_ret
      exact ⟨ret_int (by rw [← HE.out]), rfl⟩
    · obtain ⟨i, rfl⟩ : ∃ i, j = i + 1 := ⟨j - 1, by omega⟩
      have hb : bitOf (i + 1) = 2 ^ i := by unfold bitOf; rw [if_neg (by omega), Nat.add_sub_cancel]
      rw [hb]
      have hpb : 2 ^ i ≤ 2 ^ 31 := Nat.pow_le_pow_right (by omega) (by omega)
      have hp0 : 0 < 2 ^ i := Nat.two_pow_pos i
      have hor := le_or H.out
      have hy := le_yes H.out
      have hno := le_no H.out
      have hhalf := bitOf_half i
      have htop := H.out.top
      have hpp : 2 ^ (i + 1) = 2 ^ i + 2 ^ i := by rw [Nat.pow_succ]; omega
      rw [hpp] at htop
      obtain ⟨b, hbe⟩ : ∃ b, b = 2 ^ i := ⟨_, rfl⟩
      rw [← hbe] at hpb hp0 hor hy hno hhalf htop ⊢
      obtain ⟨x, hx⟩ : ∃ x, x = r + b := ⟨_, rfl⟩
      rw [← hx] at hor hy hno
      have hori : bits .or .u64 (r : Int) (b : Int) = (x : Int) := by rw [or64 _ _ (by omega) (by omega), hor]
      have hx32 : x < 4294967296 := by omega
      obtain ⟨p, hp⟩ : ∃ p, p = x * x := ⟨_, rfl⟩
      have hpi : (x : Int) * (x : Int) = (p : Int) := by rw [hp]; simp
      have hp64 : p < 18446744073709551616 := by
        have := Nat.mul_le_mul (show x ≤ 4294967295 by omega) (show x ≤ 4294967295 by omega); omega
      rw [← hp] at hy hno
      obtain ⟨b2, hb2⟩ : ∃ b2, b2 = bitOf i := ⟨_, rfl⟩
      rw [← hb2] at hhalf
      have hb2b : b2 < b := by omega
      have hr32 : r < 4294967296 := by omega
      have hb64 : b < 4294967296 := by omega
      have HB2 := Lib.hid hb2
      clear hor hx hp hbe hb2 hpp hb hn
      by_cases hle : p ≤ n
      · have NX := Lib.hid (hy hle)
        clear hy hno
        go_wp2
        go_round
        case rel => exact ⟨x, i, by omega, rfl, by rw [← HB2.out], NX⟩
        case measure => simp [intOf]; omega
      · have NX := Lib.hid (hno hle)
        clear hy hno
        go_wp2
        go_round
        case rel => exact ⟨r, i, by omega, rfl, by rw [← HB2.out], NX⟩
        case measure => simp [intOf]; omega

/-- A square root and what is left. -/
def AnsSq (w : World) (x : Nat) : Ending → World → Prop := Ans w fun v w' => ∃ u1 u2, v = .tuple #[u1, u2] ∧ IsN w' u1 (rt x 2) ∧ IsN w' u2 (x - rt x 2 * rt x 2)
/-- What Sqrt tells of what has fewer than so many bits. -/
def SqTo (n : Nat) : Prop := ∀ (w : World) (va : Value) (x : Nat), IsN w va x → bl x < n → Ok (bl x) → Calls Tryd.prog 16 #[va] w (AnsSq w x)

theorem half_root {a m B : Nat} (hm : 1 ≤ m) (ha : 4 * m - 1 ≤ bl a) (hB : B = 2 ^ m) : B ≤ 2 * rt (a / (B * B)) 2 := by
  obtain ⟨k, rfl⟩ : ∃ k, m = k + 1 := ⟨m - 1, by omega⟩
  have h1 : 2 ^ k ≤ rt (a / (B * B)) 2 := by
    refine (rt_is (by omega)).le (by omega) ?_
    rw [hB, ← Nat.pow_add, Nat.le_div_iff_mul_le (Nat.two_pow_pos _), Nat.pow_two, ← Nat.pow_add, ← Nat.pow_add]
    exact lt_bl_iff.1 (by omega)
  have e : B = 2 ^ k * 2 := by rw [hB, Nat.pow_succ]
  omega

set_option maxHeartbeats 4000000 in
theorem root_whole (N : Nat) (ih : SqTo N) (w : World) (va : Value) (a m : Nat) (ha : IsN w va a) (hm : 2 ≤ m) (h1 : 4 * m - 1 ≤ bl a) (h2 : bl a ≤ 4 * m) (hb : bl a ≤ 100000000) (hN : 2 * m < N) (hF : Ok (2 * m + 1)) :
    Calls Tryd.prog 39 #[va, .int .i64 m] w (AnsSq w a) := by
  obtain ⟨B, hB⟩ : ∃ B, B = 2 ^ m := ⟨_, rfl⟩
  have hB2 : 2 ^ (2 * m) = B * B := by rw [hB, ← Nat.pow_add]; congr 1; omega
  obtain ⟨H, eH⟩ : ∃ z, a / 2 ^ (2 * m) = z := ⟨_, rfl⟩
  obtain ⟨A1, eA1⟩ : ∃ z, a / 2 ^ m = z := ⟨_, rfl⟩
  obtain ⟨T1, eT1⟩ : ∃ z, H * 2 ^ m = z := ⟨_, rfl⟩
  obtain ⟨mid, emid⟩ : ∃ z, A1 - T1 = z := ⟨_, rfl⟩
  obtain ⟨T2, eT2⟩ : ∃ z, A1 * 2 ^ m = z := ⟨_, rfl⟩
  obtain ⟨low, elow⟩ : ∃ z, a - T2 = z := ⟨_, rfl⟩
  obtain ⟨s, es⟩ : ∃ z, rt H 2 = z := ⟨_, rfl⟩
  obtain ⟨r, er⟩ : ∃ z, H - s * s = z := ⟨_, rfl⟩
  obtain ⟨R1, eR1⟩ : ∃ z, r * 2 ^ m = z := ⟨_, rfl⟩
  obtain ⟨N1, eN1⟩ : ∃ z, R1 + mid = z := ⟨_, rfl⟩
  obtain ⟨D1, eD1⟩ : ∃ z, s * 2 ^ 1 = z := ⟨_, rfl⟩
  obtain ⟨q, eq⟩ : ∃ z, N1 / D1 = z := ⟨_, rfl⟩
  obtain ⟨u, eu⟩ : ∃ z, N1 % D1 = z := ⟨_, rfl⟩
  obtain ⟨S1, eS1⟩ : ∃ z, s * 2 ^ m = z := ⟨_, rfl⟩
  obtain ⟨rr, err⟩ : ∃ z, S1 + q = z := ⟨_, rfl⟩
  obtain ⟨U1, eU1⟩ : ∃ z, u * 2 ^ m = z := ⟨_, rfl⟩
  obtain ⟨rest, erest⟩ : ∃ z, U1 + low = z := ⟨_, rfl⟩
  obtain ⟨sq, esq⟩ : ∃ z, q * q = z := ⟨_, rfl⟩
  obtain ⟨D2, eD2⟩ : ∃ z, rr * 2 ^ 1 = z := ⟨_, rfl⟩
  obtain ⟨E1, eE1⟩ : ∃ z, rest + D2 = z := ⟨_, rfl⟩
  -- the law
  have hs2 : B ≤ 2 * s := by rw [← es, ← eH, hB2]; exact half_root (by omega) h1 hB
  have hB0 : 0 < B := by rw [hB]; exact Nat.two_pow_pos m
  have hD0 : 0 < D1 := by omega
  have hparts := whole_parts a B
  rw [← hB2, eH] at hparts
  rw [← hB] at eA1 eT1 eT2 eR1 eS1 eU1
  rw [eA1, eT1, emid, eT2, elow] at hparts
  obtain ⟨p1, p2, p3⟩ := hparts.resolve_right (by omega)
  have hsq : IsSq H s r := by rw [← er, ← es]; exact rt_sq H
  have hqu : r * B + mid = 2 * s * q + u := by
    rw [eR1, eN1, ← eq, ← eu, Nat.mul_comm 2 s]
    rw [Nat.pow_one] at eD1
    rw [eD1]
    exact (Nat.div_add_mod _ _).symm
  have hu : u < 2 * s := by rw [← eu]; have := Nat.mod_lt N1 hD0; omega
  obtain ⟨hqB, L1, L2⟩ := whole_law hsq hs2 p2 p3 hqu hu
  rw [← hB2, ← p1, eU1, erest, esq, eS1, err] at L1
  rw [← hB2, ← p1, eU1, erest, esq, eS1, err] at L2
  -- bounds
  have b0 : bl B = m + 1 := by rw [hB]; exact bl_two_pow m
  have bH : bl H ≤ 2 * m := by rw [← eH, bl_shr]; omega
  have bA1 : bl A1 ≤ 4 * m := by rw [← eA1]; exact Nat.le_trans (bl_div _ _) h2
  have bT1 : bl T1 ≤ 4 * m + 2 := by rw [← eT1]; have := bl_mul H B; omega
  have bmid : bl mid ≤ 4 * m + 2 := by rw [← emid]; have := bl_sub A1 T1; omega
  have bT2 : bl T2 ≤ 5 * m + 2 := by rw [← eT2]; have := bl_mul A1 B; omega
  have blow : bl low ≤ 4 * m := by rw [← elow]; have := bl_sub a T2; omega
  have bs : bl s ≤ 2 * m := by rw [← es]; exact Nat.le_trans (bl_rt H 2 (by omega)) bH
  have br : bl r ≤ 2 * m := by rw [← er]; have := bl_sub H (s * s); omega
  have bR1 : bl R1 ≤ 4 * m := by rw [← eR1]; have := bl_mul r B; omega
  have bN1 : bl N1 ≤ 4 * m + 3 := by rw [← eN1]; have := bl_add R1 mid; omega
  have bD1 : bl D1 ≤ 2 * m + 1 := by rw [← eD1]; have := bl_shl_le s 1; omega
  have bq : bl q ≤ m + 1 := by have := bl_mono hqB; omega
  have bu : bl u ≤ 4 * m + 3 := by rw [← eu]; exact Nat.le_trans (bl_mono (Nat.mod_le _ _)) bN1
  have bS1 : bl S1 ≤ 4 * m := by rw [← eS1]; have := bl_mul s B; omega
  have brr : bl rr ≤ 4 * m + 1 := by rw [← err]; have := bl_add S1 q; omega
  have bU1 : bl U1 ≤ 6 * m + 4 := by rw [← eU1]; have := bl_mul u B; omega
  have brest : bl rest ≤ 6 * m + 5 := by rw [← erest]; have := bl_add U1 low; omega
  have bsq : bl sq ≤ 2 * m + 1 := by
    rw [← esq]
    refine Nat.le_trans (bl_mono (Nat.mul_le_mul hqB hqB)) ?_
    rw [← hB2, bl_two_pow]
    omega
  have bD2 : bl D2 ≤ 6 * m := by rw [← eD2]; have := bl_shl_le rr 1; omega
  have bE1 : bl E1 ≤ 6 * m + 6 := by rw [← eE1]; have := bl_add rest D2; omega
  have bE2 : bl (E1 - 1) ≤ 6 * m + 6 := by have := bl_sub E1 1; omega
  have b1 : bl 1 ≤ 1 := by decide
  have mb : m ≤ 30000000 := by omega
  rw [hB] at eA1 eT1 eT2 eR1 eS1 eU1
  have hE : 2 * rr = D2 := by rw [← eD2]; omega
  rw [hE, eE1] at L2
  have HL1 := Lib.hid L1
  have HL2 := Lib.hid L2
  have xH := Lib.hid eH
  have xA1 := Lib.hid eA1
  have xT1 := Lib.hid eT1
  have xmid := Lib.hid emid
  have xT2 := Lib.hid eT2
  have xlow := Lib.hid elow
  have xs := Lib.hid es
  have xr := Lib.hid er
  have xR1 := Lib.hid eR1
  have xN1 := Lib.hid eN1
  have xD1 := Lib.hid eD1
  have xq := Lib.hid eq
  have xu := Lib.hid eu
  have xS1 := Lib.hid eS1
  have xrr := Lib.hid err
  have xU1 := Lib.hid eU1
  have xrest := Lib.hid erest
  have xsq := Lib.hid esq
  have xD2 := Lib.hid eD2
  have xE1 := Lib.hid eE1
  have hF2 := hF.le bsq
  have hFH := hF.le (show bl H ≤ 2 * m + 1 by omega)
  have hHN : bl H < N := by omega
  clear L1 L2 hE eH eA1 eT1 emid eT2 elow es er eR1 eN1 eD1 eq eu eS1 err eU1 erest esq eD2 eE1 hB hB2 b0 p1 p2 p3 hsq hqu hu hqB hparts hs2 hB0 h1 h2 hF
  clear hN
  go_enter Tryd.func39, Tryd.ntmps39
  go_wp2_with fail
  refine (kShrE (n := 2 * m) (by omega) xH.out).mono ?_
  rintro e w1 ⟨v1, rfl, i1, c1⟩
  go_wp2_with fail
  refine (kShrE (n := m) rfl xA1.out).mono ?_
  rintro e w2 ⟨v2, rfl, i2, c2⟩
  go_wp2_with fail
  refine (kShrE (n := 2 * m) (by omega) xH.out).mono ?_
  rintro e w3 ⟨v3, rfl, i3, c3⟩
  go_wp2_with fail
  refine (kShlE (n := m) rfl xT1.out).mono ?_
  rintro e w4 ⟨v4, rfl, i4, c4⟩
  go_wp2_with fail
  refine (kRsubE xmid.out).mono ?_
  rintro e w5 ⟨v5, rfl, i5, c5⟩
  go_wp2_with fail
  refine (kShrE (n := m) rfl xA1.out).mono ?_
  rintro e w6 ⟨v6, rfl, i6, c6⟩
  go_wp2_with fail
  refine (kShlE (n := m) rfl xT2.out).mono ?_
  rintro e w7 ⟨v7, rfl, i7, c7⟩
  go_wp2_with fail
  refine (kRsubE xlow.out).mono ?_
  rintro e w8 ⟨v8, rfl, i8, c8⟩
  have i1' : IsN w8 v1 H := by repeat (first | assumption | (apply IsN.up' (by assumption)))
  go_wp2_with fail
  refine (ih w8 v1 H i1' hHN hFH).mono ?_
  rintro e w9 ⟨v9, rfl, ⟨v10, v11, rfl, i10, i11⟩, c9⟩
  rw [xs.out] at i10 i11
  rw [xr.out] at i11
  clear i1'
  go_wp2_with fail
  refine (kShlE (n := m) rfl xR1.out).mono ?_
  rintro e w10 ⟨v12, rfl, i12, c10⟩
  go_wp2_with fail
  refine (kAddE xN1.out).mono ?_
  rintro e w11 ⟨v13, rfl, i13, c11⟩
  go_wp2_with fail
  refine (kShlE (n := 1) rfl xD1.out).mono ?_
  rintro e w12 ⟨v14, rfl, i14, c12⟩
  go_wp2_with fail
  refine (kDivE hD0 xq.out xu.out).mono ?_
  rintro e w13 ⟨v15, rfl, ⟨v16, v17, rfl, i16, i17⟩, c13⟩
  go_wp2_with fail
  refine (kShlE (n := m) rfl xS1.out).mono ?_
  rintro e w14 ⟨v18, rfl, i18, c14⟩
  go_wp2_with fail
  refine (kAddE xrr.out).mono ?_
  rintro e w15 ⟨v19, rfl, i19, c15⟩
  go_wp2_with fail
  refine (kShlE (n := m) rfl xU1.out).mono ?_
  rintro e w16 ⟨v20, rfl, i20, c16⟩
  go_wp2_with fail
  refine (kAddE xrest.out).mono ?_
  rintro e w17 ⟨v21, rfl, i21, c17⟩
  go_wp2_with fail
  refine (kMulE xsq.out hF2).mono ?_
  rintro e w18 ⟨v22, rfl, i22, c18⟩
  have j19 : IsN w18 v19 rr := by repeat (first | assumption | (apply IsN.up' (by assumption)))
  have j21 : IsN w18 v21 rest := by repeat (first | assumption | (apply IsN.up' (by assumption)))
  have hc : Below w.heap.size w w18 := by repeat (first | exact Below.refl _ _ | assumption | (apply up_then' (by assumption)))
  clear i1 i2 i3 i4 i5 i6 i7 i8 i10 i11 i12 i13 i14 i16 i17 i18 i19 i20 i21 c1 c2 c3 c4 c5 c6 c7 c8 c9 c10 c11 c12 c13 c14 c15 c16 c17 c18
  obtain ⟨z, hz⟩ : ∃ z, z = cmp3 rest sq := ⟨_, rfl⟩
  have HZ := Lib.hid hz
  by_cases hlt : rest < sq
  · have hz0 : z < 0 := by rw [hz]; exact cmp3_neg.2 hlt
    obtain ⟨k1, k2, k3, k4⟩ := HL2.out hlt
    have HK := Lib.hid k4
    clear hz hlt k1 k2 k3 k4
    go_wp2_with fail
    refine (kCmp (x := rest) (y := sq)).mono ?_
    rintro e w19 ⟨rfl, c19⟩
    rw [← HZ.out]
    go_wp2_with fail
    refine (kShlE (n := 1) rfl xD2.out).mono ?_
    rintro e w20 ⟨v23, rfl, i23, c20⟩
    go_wp2_with fail
    refine (kAddE xE1.out).mono ?_
    rintro e w21 ⟨v24, rfl, i24, c21⟩
    go_wp2_with fail
    refine (root_unit _).mono ?_
    rintro e w22 ⟨v25, rfl, i25, c22⟩
    go_wp2_with fail
    refine (kRsubE (x := E1) (y := 1) rfl).mono ?_
    rintro e w23 ⟨v26, rfl, i26, c23⟩
    go_wp2_with fail
    refine (root_unit _).mono ?_
    rintro e w24 ⟨v27, rfl, i27, c24⟩
    go_wp2_with fail
    refine (kRsubE (x := rr) (y := 1) rfl).mono ?_
    rintro e w25 ⟨v28, rfl, i28, c25⟩
    go_wp2_with fail
    refine (kRsubE (x := E1 - 1) (y := sq) rfl).mono ?_
    rintro e w26 ⟨v29, rfl, i29, c26⟩
    go_wp2
    go_ret2
    have hR := HK.out.inj (rt_sq a)
    refine ⟨_, rfl, ⟨_, _, rfl, ?_, ?_⟩, ?_⟩
    · rw [← hR.1]; exact i28.up c26
    · rw [← hR.2]; exact i29
    · repeat (first | exact Below.refl _ _ | assumption | (apply up_then' (by assumption)))
  · have hz0 : ¬ z < 0 := by rw [hz]; exact fun h => hlt (cmp3_neg.1 h)
    have HK := Lib.hid (HL1.out (by omega))
    clear hz hlt
    go_wp2_with fail
    refine (kCmp (x := rest) (y := sq)).mono ?_
    rintro e w19 ⟨rfl, c19⟩
    rw [← HZ.out]
    go_wp2_with fail
    refine (kRsubE (x := rest) (y := sq) rfl).mono ?_
    rintro e w20 ⟨v23, rfl, i23, c20⟩
    go_wp2
    go_ret2
    have hR := HK.out.inj (rt_sq a)
    refine ⟨_, rfl, ⟨_, _, rfl, ?_, ?_⟩, ?_⟩
    · rw [← hR.1]; exact (j19.up c19).up c20
    · rw [← hR.2]; exact i23
    · repeat (first | exact Below.refl _ _ | assumption | (apply up_then' (by assumption)))
end Go.Proofs.YtffkedepffjobaaDoor

namespace Go.Proofs.YtffkedepffjobaaDoor
open Go.RowKit
set_option maxRecDepth 100000

set_option maxHeartbeats 4000000 in
theorem root_SqrtTo (N : Nat) : N ≤ 100000000 → SqTo N := by
  induction N with
  | zero => intro _ w va x _ h _; omega
  | succ N ihN =>
    intro hNb w va a ha hlt hF
    have ih : SqTo N := ihN (by omega)
    clear ihN
    have HA := Lib.hid ha
    by_cases hs : a < 18446744073709551616
    · have HL := fun W (h : IsN W va a) => Lib.hid (nat_Low W va a h)
      rw [if_pos hs, decide_eq_true hs] at HL
      obtain ⟨r, hr⟩ : ∃ r, r = rt a 2 := ⟨_, rfl⟩
      obtain ⟨p, hp⟩ : ∃ p, p = r * r := ⟨_, rfl⟩
      have hsq := rt_sq a
      rw [← hr, ← hp] at hsq
      have hpa : p ≤ a := by have := hsq.1; omega
      have hr32 : r < 4294967296 := by
        rcases Nat.lt_or_ge r 4294967296 with h | h
        · exact h
        · have := Nat.mul_le_mul h h; omega
      have hpi : (r : Int) * (r : Int) = (p : Int) := by rw [hp]; simp
      obtain ⟨t, ht⟩ : ∃ t, t = a - p := ⟨_, rfl⟩
      have hti : (a : Int) - (p : Int) = (t : Int) := by omega
      have HW := Lib.hid (And.intro hr (And.intro hp ht))
      have hLs := fun W => Lib.hid (root_least a W hs)
      rw [← hr] at hLs
      clear hsq hp ht hlt hF
      go_enter Tryd.func16, Tryd.ntmps16
      go_wp2_with fail
      refine (HL w HA.out).out.mono ?_
      rintro e w1 ⟨rfl, rfl⟩
      go_wp2_with fail
      refine (hLs _).out.mono ?_
      rintro e w1 ⟨rfl, rfl⟩
      clear hr
      go_wp2_with fail
      refine (nat_Of r _ (by omega)).mono ?_
      rintro e w1 ⟨v1, rfl, i1, c1⟩
      go_wp2_with fail
      refine (nat_Of t _ (by omega)).mono ?_
      rintro e w2 ⟨v2, rfl, i2, c2⟩
      go_wp2
      go_ret2
      refine ⟨_, rfl, ⟨_, _, rfl, ?_, ?_⟩, up_then c1 c2⟩
      · rw [← HW.out.1]; exact i1.up c2
      · rw [← HW.out.1, ← HW.out.2.1, ← HW.out.2.2]; exact i2
    · have HL := fun W (h : IsN W va a) => Lib.hid (nat_Low W va a h)
      rw [if_neg hs, decide_eq_false hs] at HL
      have h64 : 64 < bl a := (lt_bl_iff (n := 64)).2 (by show 18446744073709551616 ≤ a; omega)
      obtain ⟨m, hm⟩ : ∃ m, m = (bl a + 3) / 4 := ⟨_, rfl⟩
      have hmi : ((bl a : Int) + 3) / 4 = (m : Int) := by omega
      have hc : (4 * m - bl a < 2) ∨ (2 ≤ 4 * m - bl a) := by omega
      have hba : bl a ≤ 100000000 := by omega
      have hF1 := hF.le (show 2 * m + 1 ≤ bl a by omega)
      rcases hc with hc | hc
      · have hsi : (4 * (m : Int) - (bl a : Int)) / 2 = 0 := by omega
        have HW := fun W (h : IsN W va a) => Lib.hid (root_whole N ih W va a m h (by omega) (by omega) (by omega) (by omega) (by omega) hF1)
        clear hs hm hF hF1
        go_enter Tryd.func16, Tryd.ntmps16
        go_wp2_with fail
        refine (HL w HA.out).out.mono ?_
        rintro e w1 ⟨rfl, rfl⟩
        go_wp2_with fail
        refine (kBits (x := a)).mono ?_
        rintro e w1 ⟨rfl, rfl⟩
        go_wp2_with fail
        refine (kBits (x := a)).mono ?_
        rintro e w1 ⟨rfl, rfl⟩
        go_wp2_with fail
        refine (HW _ HA.out).out.mono ?_
        rintro e w1 ⟨v, rfl, ⟨u1, u2, rfl, i1, i2⟩, c1⟩
        go_wp2
        go_ret2
        exact ⟨_, rfl, ⟨_, _, rfl, i1, i2⟩, c1⟩
      · have hsi : (4 * (m : Int) - (bl a : Int)) / 2 = 1 := by omega
        have ha0 : a ≠ 0 := by omega
        obtain ⟨a4, ha4⟩ : ∃ z, a * 2 ^ 2 = z := ⟨_, rfl⟩
        have hb4 : bl a4 = bl a + 2 := by rw [← ha4]; exact bl_shl a 2 ha0
        have HW := fun W v (h : IsN W v a4) => Lib.hid (root_whole N ih W v a4 m h (by omega) (by omega) (by omega) (by omega) (by omega) hF1)
        obtain ⟨r, hr⟩ : ∃ r, rt a4 2 / 2 ^ 1 = r := ⟨_, rfl⟩
        have hra : r = rt a 2 := by
          have := rt_shl a 2 1 (by omega)
          rw [Nat.mul_one, ha4, hr] at this
          exact this
        obtain ⟨p, hp⟩ : ∃ p, r * r = p := ⟨_, rfl⟩
        have hpa : p ≤ a := by
          have := (rt_sq a).1
          rw [← hra, hp] at this
          omega
        have hbp : bl p ≤ 100000000 := Nat.le_trans (bl_mono hpa) hba
        have hFp := hF.le (bl_mono hpa)
        have hbR : bl (rt a4 2) ≤ 200000000 := by have := bl_rt a4 2 (by omega); omega
        have hbr : bl r ≤ 200000000 := by rw [← hr]; exact Nat.le_trans (bl_div _ _) hbR
        have X4 := Lib.hid ha4
        have Xr := Lib.hid hr
        have Xp := Lib.hid hp
        have XR := Lib.hid hra
        clear hs hm hF hF1 ha4 hr hp hra hpa hb4
        go_enter Tryd.func16, Tryd.ntmps16
        go_wp2_with fail
        refine (HL w HA.out).out.mono ?_
        rintro e w1 ⟨rfl, rfl⟩
        go_wp2_with fail
        refine (kBits (x := a)).mono ?_
        rintro e w1 ⟨rfl, rfl⟩
        go_wp2_with fail
        refine (kBits (x := a)).mono ?_
        rintro e w1 ⟨rfl, rfl⟩
        go_wp2_with fail
        refine (kShlE (n := 2) rfl X4.out).mono ?_
        rintro e w1 ⟨v1, rfl, i1, c1⟩
        go_wp2_with fail
        refine (HW _ _ i1).out.mono ?_
        rintro e w2 ⟨v, rfl, ⟨u1, u2, rfl, i2, i3⟩, c2⟩
        go_wp2_with fail
        refine (kShrE (n := 1) rfl Xr.out).mono ?_
        rintro e w3 ⟨v3, rfl, i4, c3⟩
        go_wp2_with fail
        refine (kMulE Xp.out hFp).mono ?_
        rintro e w4 ⟨v4, rfl, i5, c4⟩
        go_wp2_with fail
        refine (kRsubE (x := a) (y := p) rfl).mono ?_
        rintro e w5 ⟨v5, rfl, i6, c5⟩
        go_wp2
        go_ret2
        refine ⟨_, rfl, ⟨_, _, rfl, ?_, ?_⟩, ?_⟩
        · rw [← XR.out]; exact (i4.up c4).up c5
        · rw [← XR.out, Xp.out]; exact i6
        · repeat (first | exact Below.refl _ _ | assumption | (apply up_then' (by assumption)))
theorem root_Sqrt (w : World) (va : Value) (x : Nat) (ha : IsN w va x) (hb : bl x ≤ 99999999) (hF : Ok (bl x)) : Calls Tryd.prog 16 #[va] w (AnsSq w x) := root_SqrtTo 100000000 (Nat.le_refl _) w va x ha (by omega) hF
end Go.Proofs.YtffkedepffjobaaDoor

namespace Go.Proofs.YtffkedepffjobaaDoor
open Go.RowKit
set_option maxRecDepth 100000

theorem nl_pos {x : Nat} (h : x ≠ 0) : 0 < nl x := by unfold nl; have := bl_pos h; omega
theorem newton_stop {a k x : Nat} (hk : 0 < k) (hx : 0 < x) (hr : rt a (k + 1) ≤ x) (h : x ≤ (x * k + a / x ^ k) / (k + 1)) : x = rt a (k + 1) := by
  refine (rt_eq (by omega) (IsRt.mk' ?_ fun s hs => ?_)).symm
  · rcases Nat.lt_or_ge a (x ^ (k + 1)) with g | g
    · have := newton_lt hx g; omega
    · exact g
  · exact Nat.le_trans ((rt_is (by omega)).le (by omega) hs) hr

set_option maxHeartbeats 4000000 in
theorem root_cut (w : World) (va : Value) (a k : Nat) (ha : IsN w va a) (hk : 1 ≤ k) (hk2 : k ≤ 1000000000) (hb : bl a ≤ 50000000) (hF : 2 ≤ k → k < bl a → Ok (bl a + k)) :
    Calls Tryd.prog 33 #[va, .int .i64 k] w (AnsN w (rt a k)) := by
  have HA := Lib.hid ha
  obtain ⟨A, c, rfl⟩ := ha.slice
  by_cases h1 : k = 1
  · subst h1
    rw [rt_one]
    clear hF
    go_enter Tryd.func33, Tryd.ntmps33
    go_wp2_with fail
    (try go_step3)
    go_wp2_with fail
    (try rw [Exit.noGoto_ret])
    go_ret
    exact ⟨_, rfl, HA.out, Below.refl _ _⟩
  have hk1 : ((k : Int) == 1) = false := beq_eq_false_iff_ne.mpr (by omega)
  by_cases h0 : a = 0
  · subst h0
    rw [rt_zero (by omega)]
    have hnl : nl 0 = 0 := rfl
    rw [hnl] at HA ⊢
    clear hF ha h1
    go_enter Tryd.func33, Tryd.ntmps33
    go_wp2_with fail
    (try go_step3)
    go_wp2_with fail
    (try rw [Exit.noGoto_ret])
    go_ret
    exact ⟨_, rfl, HA.out, Below.refl _ _⟩
  have hn0 : ((nl a : Int) == 0) = false := beq_eq_false_iff_ne.mpr (by have := nl_pos h0; omega)
  by_cases hbig : bl a ≤ k
  · rw [rt_big h0 hbig]
    clear hF h1 h0
    go_enter Tryd.func33, Tryd.ntmps33
    go_wp2_with fail
    (try go_step3)
    go_wp2_with (first
      | (go_at_call 38; refine (kBits (x := a)).mono ?_; rintro e w1 ⟨rfl, rfl⟩)
      | (go_at_call 45; refine (root_unit _).mono ?_; rintro e w1 ⟨v, rfl, i1, c1⟩))
    (try rw [Exit.noGoto_ret])
    go_ret
    exact ⟨_, rfl, i1, c1⟩
  have hbig' : ¬ ((bl a : Int) ≤ (k : Int)) := by omega
  by_cases h2 : k = 2
  · subst h2
    have hS := fun W (h : IsN W (.slice A (nl a) c) a) => Lib.hid (root_Sqrt W _ a h (by omega) ((hF (by omega) (by omega)).le (by omega)))
    clear hF h1 h0 hk hk2
    go_enter Tryd.func33, Tryd.ntmps33
    go_wp2_with fail
    (try go_step3)
    go_wp2_with (first
      | (go_at_call 38; refine (kBits (x := a)).mono ?_; rintro e w1 ⟨rfl, rfl⟩)
      | (go_at_call 16; refine (hS _ HA.out).out.mono ?_; rintro e w1 ⟨v, rfl, ⟨u1, u2, rfl, i1, i2⟩, c1⟩))
    (try rw [Exit.noGoto_ret])
    go_ret
    exact ⟨_, rfl, i1, c1⟩
  have hk2' : ((k : Int) == 2) = false := beq_eq_false_iff_ne.mpr (by omega)
  have hF' := hF (by omega) (by omega)
  obtain ⟨p, hp⟩ : ∃ p, p = k - 1 := ⟨_, rfl⟩
  have hpk : k = p + 1 := by omega
  have hpi : (k : Int) - 1 = (p : Int) := by omega
  obtain ⟨E, hE⟩ : ∃ E, E = (bl a + k - 1) / k := ⟨_, rfl⟩
  have hEi : ((bl a : Int) + (k : Int) - 1) / (k : Int) = (E : Int) := by
    have : ((bl a : Int) + (k : Int) - 1) = ((bl a + k - 1 : Nat) : Int) := by omega
    rw [this, hE, Int.natCast_ediv]
  have hEb : E ≤ 100000000 := by rw [hE]; exact Nat.le_trans (Nat.div_le_self _ _) (by omega)
  obtain ⟨X0, hX0⟩ : ∃ X0, 1 * 2 ^ E = X0 := ⟨_, rfl⟩
  have hr0 : rt a k ≤ X0 := by
    rw [← hX0, Nat.one_mul, hE]
    exact newton_start (by omega) (rt_is (by omega)).1
  have hX0' : X0 = 2 ^ ((bl a + k - 1) / k) := by rw [← hX0, Nat.one_mul, hE]
  have hr1 := rt_pos (k := k) (by omega) h0
  have HX0 := Lib.hid hX0
  have HX0' := Lib.hid hX0'
  have H0 := Lib.hid (And.intro hr0 (And.intro hr1 (And.intro (Nat.le_refl X0) hpk)))
  have hk0 : ¬ (k = 0) := by omega
  have hk3 : 2 < k := by omega
  have hkb : k < bl a := by omega
  clear hF h1 h2 h0 hX0 hX0' hr0 hr1 hE hp hk
  clear hpk
  go_enter Tryd.func33, Tryd.ntmps33
  go_wp2_with fail
  (try go_step3)
  go_wp2_with (first
    | (go_at_call 38; refine (kBits (x := a)).mono ?_; rintro e w1 ⟨rfl, rfl⟩)
    | (go_at_call 45; refine (root_unit _).mono ?_; rintro e w1 ⟨v, rfl, i1, c1⟩)
    | (go_at_call 40; refine (kShlE (n := E) rfl HX0.out (bx := by decide)).mono ?_; rintro e w2 ⟨v2, rfl, i2, c2⟩))
  (try go_step3)
  go_wp2_with fail
  go_loopg [7] X0 (fun x xv wr => IsN wr xv x ∧ Hid (rt a k ≤ x ∧ x ≤ X0) ∧ Below w.heap.size w wr)
  case atStart => exact ⟨i2, Lib.hid ⟨H0.out.1, Nat.le_refl _⟩, up_then c1 c2⟩
  case round =>
    clear i1 i2 c1 c2
    obtain ⟨hxv, H, hB⟩ := hrel
    have hx0 : 0 < gk := by have := H.out.1; have := H0.out.2.1; omega
    obtain ⟨pw, hpw⟩ : ∃ z, gk ^ p = z := ⟨_, rfl⟩
    obtain ⟨q, hq⟩ : ∃ z, a / pw = z := ⟨_, rfl⟩
    obtain ⟨m1, hm1⟩ : ∃ z, gk * p = z := ⟨_, rfl⟩
    obtain ⟨su, hsu⟩ : ∃ z, m1 + q = z := ⟨_, rfl⟩
    obtain ⟨nx, hnx⟩ : ∃ z, su / k = z := ⟨_, rfl⟩
    have hpk := H0.out.2.2.2
    have hpw0 : 0 < pw := by rw [← hpw]; exact Nat.pow_pos hx0
    have hxE := H.out.2
    rw [HX0'.out] at hxE
    have bpw : bl pw ≤ bl a + k := by
      have := bl_newton (a := a) (k := k) (x := gk) (by omega) hxE
      rw [show k - 1 = p by omega, hpw] at this
      exact this
    have bm1 : bl m1 ≤ bl a + k := by
      have := bl_newton2 (a := a) (k := k) (x := gk) hk3 hkb hxE
      rw [show k - 1 = p by omega, hm1] at this
      exact this
    have hFpw := hF'.le bpw
    have hFm1 := hF'.le bm1
    have bgk : bl gk ≤ 200000000 := by
      have h5 := bl_mono H.out.2
      rw [HX0'.out, bl_two_pow] at h5
      have : (bl a + k - 1) / k ≤ bl a + k - 1 := Nat.div_le_self _ _
      omega
    have bq : bl q ≤ 50000000 := by rw [← hq]; exact Nat.le_trans (bl_div _ _) hb
    have bsu : bl su ≤ 200000000 := by rw [← hsu]; have := bl_add m1 q; omega
    have bnx : bl nx ≤ 200000000 := by rw [← hnx]; exact Nat.le_trans (bl_div _ _) bsu
    have bp : bl p ≤ 1000000000 := by have := bl_le_self p; omega
    have hge : rt a k ≤ nx := by
      rw [← hnx, ← hsu, ← hm1, ← hq, ← hpw, hpk]
      exact newton_ge hx0 (rt_is (by omega)).1
    have hstop : gk ≤ nx → gk = rt a k := by
      intro h
      rw [← hnx, ← hsu, ← hm1, ← hq, ← hpw, hpk] at h
      rw [hpk]
      exact newton_stop (by omega) hx0 (by rw [← hpk]; exact H.out.1) h
    have Xpw := Lib.hid hpw
    have Xq := Lib.hid hq
    have Xm1 := Lib.hid hm1
    have Xsu := Lib.hid hsu
    have Xnx := Lib.hid hnx
    have hp64 : p < 18446744073709551616 := by omega
    have hk32 : k < 4294967296 := by omega
    have ha' : IsN wr (.slice A (nl a) c) a := HA.out.up hB
    obtain ⟨z, hz⟩ : ∃ z, z = cmp3 nx gk := ⟨_, rfl⟩
    have HZ := Lib.hid hz
    have HG := Lib.hid (And.intro hge hstop)
    clear hpw hq hm1 hsu hnx hpk hxE hge hstop
    go_wp2_with fail
    refine (kPowE (x := gk) (n := p) rfl Xpw.out hFpw).mono ?_
    rintro e w3 ⟨v3, rfl, i3, c3⟩
    go_wp2_with fail
    refine (kDivE hpw0 Xq.out rfl).mono ?_
    rintro e w4 ⟨v4, rfl, ⟨u1, u2, rfl, i4, i5⟩, c4⟩
    clear i5
    go_wp2_with fail
    refine (nat_Of p _ hp64).mono ?_
    rintro e w5 ⟨v5, rfl, i5, c5⟩
    go_wp2_with fail
    refine (kMulE Xm1.out hFm1).mono ?_
    rintro e w6 ⟨v6, rfl, i6, c6⟩
    go_wp2_with fail
    refine (kAddE Xsu.out).mono ?_
    rintro e w7 ⟨v7, rfl, i7, c7⟩
    go_wp2_with fail
    refine (div_Small _ _ su k i7 (by omega) (by omega) hk32).mono ?_
    rintro e w8 ⟨v8, rfl, ⟨u8, rfl, i8⟩, c8⟩
    rw [Xnx.out] at i8
    have hx8 : IsN w8 u7 gk := by repeat (first | assumption | (apply IsN.up' (by assumption)))
    have hc : Below wr.heap.size wr w8 := by repeat (first | exact Below.refl _ _ | assumption | (apply up_then' (by assumption)))
    clear i3 i4 i5 i6 i7 c3 c4 c5 c6 c7 c8
    by_cases hlt : nx < gk
    · have hz0 : ¬ (0 ≤ z) := by rw [hz]; have := cmp3_neg.2 hlt; omega
      clear hz
      go_wp2_with fail
      refine (kCmp (x := nx) (y := gk)).mono ?_
      rintro e w9 ⟨rfl, c9⟩
      rw [← HZ.out]
      go_wp2_with fail
      go_roundg nx
      case rel => exact ⟨i8.up c9, Lib.hid ⟨HG.out.1, by have := H.out.2; omega⟩, up_then hB (up_then hc c9)⟩
      case measure => omega
    · have hz0 : 0 ≤ z := by rw [hz]; exact cmp3_ge (by omega)
      have hE := HG.out.2 (by omega)
      have HE := Lib.hid hE
      clear hz hE
      go_wp2_with fail
      refine (kCmp (x := nx) (y := gk)).mono ?_
      rintro e w9 ⟨rfl, c9⟩
      rw [← HZ.out]
      go_wp2_with fail
      (try rw [Exit.noGoto_ret])
      go_ret
      refine ⟨_, rfl, ?_, up_then hB (up_then hc c9)⟩
      rw [← HE.out]
      exact hx8.up c9
end Go.Proofs.YtffkedepffjobaaDoor

namespace Go.Proofs.YtffkedepffjobaaDoor
open Go.RowKit
set_option maxRecDepth 100000

theorem root_RootBad (w : World) (va : Value) (k : Int) (h : k < 1 ∨ 1000000 < k) :
    Calls Tryd.prog 14 #[va, .int .i64 k] w fun e w' => e = .returned (.tuple #[.slice none 0 0, .int .i64 1]) ∧ w = w' := by
  rcases h with h | h
  · go_enter Tryd.func14, Tryd.ntmps14
    go_wp2
    go_ret2
    exact ⟨rfl, rfl⟩
  · have h1 : ¬ k < 1 := by omega
    go_enter Tryd.func14, Tryd.ntmps14
    go_wp2
    go_ret2
    exact ⟨rfl, rfl⟩
/-- A natural, and no error. -/
def AnsOK (w : World) (n : Nat) : Ending → World → Prop := Ans w fun v w' => ∃ u, v = .tuple #[u, .int .i64 0] ∧ IsN w' u n
theorem root_Root (w : World) (va : Value) (a k : Nat) (ha : IsN w va a) (hk : 1 ≤ k) (hk2 : k ≤ 1000000) (hb : bl a ≤ 50000000) (hF : 2 ≤ k → k < bl a → Ok (bl a + k)) :
    Calls Tryd.prog 14 #[va, .int .i64 k] w (AnsOK w (rt a k)) := by
  have h1 : ¬ ((k : Int) < 1) := by omega
  have h2 : ¬ ((1000000 : Int) < (k : Int)) := by omega
  have hC := Lib.hid (root_cut w va a k ha hk (by omega) hb hF)
  clear hF
  go_enter Tryd.func14, Tryd.ntmps14
  go_wp2_with (go_at_call 33; refine hC.out.mono ?_; rintro e w1 ⟨v, rfl, i1, c1⟩)
  go_ret2
  exact ⟨_, rfl, ⟨_, rfl, i1⟩, c1⟩

/-- Is a number a k-th power? -/
def isP (a : Nat) (k : Int) : Bool := if k < 1 then false else if a ≤ 1 then true else if (bl a : Int) ≤ k then false else decide (rt a k.toNat ^ k.toNat = a)
theorem cmp3_zero {x y : Nat} : cmp3 x y = 0 ↔ x = y := by
  unfold cmp3
  split
  · constructor <;> intro h <;> omega
  · split
    · constructor <;> intro h <;> omega
    · constructor <;> intro h <;> omega
theorem cmp3_pos {x y : Nat} : 0 < cmp3 x y ↔ y < x := by
  unfold cmp3
  split
  · constructor <;> intro h <;> omega
  · split
    · constructor <;> intro h <;> omega
    · constructor <;> intro h <;> omega

set_option maxHeartbeats 1000000 in
theorem root_Is (w : World) (va : Value) (a : Nat) (k : Int) (ha : IsN w va a) (hk : k ≤ 9223372036854775807) (hk0 : -9223372036854775808 ≤ k) (hb : bl a ≤ 50000000) (hF : k < bl a → Ok (bl a + k.toNat)) :
    Calls Tryd.prog 21 #[va, .int .i64 k] w fun e w' => e = .returned (.bool (isP a k)) ∧ Below w.heap.size w w' := by
  obtain ⟨b, hbe⟩ : ∃ b, b = isP a k := ⟨_, rfl⟩
  rw [← hbe]
  unfold isP at hbe
  have HA := Lib.hid ha
  by_cases h1 : k < 1
  · rw [if_pos h1] at hbe
    subst hbe
    have h2 : decide (1 ≤ k) = false := decide_eq_false (by omega)
    clear hF
    go_enter Tryd.func21, Tryd.ntmps21
    go_wp2
    go_ret
    exact ⟨by first | (simp; done) | (simp; omega), Below.refl _ _⟩
  rw [if_neg h1] at hbe
  have hk1 : 1 ≤ k := by omega
  obtain ⟨z, hz⟩ : ∃ z, z = cmp3 a 1 := ⟨_, rfl⟩
  have HZ := Lib.hid hz
  have b1 : bl 1 ≤ 1 := by decide
  by_cases h2 : a ≤ 1
  · rw [if_pos h2] at hbe
    subst hbe
    have hz0 : z ≤ 0 := by
      rw [hz]
      rcases Nat.lt_or_ge 1 a with g | g
      · omega
      · have := @cmp3_pos a 1; omega
    clear hF hz
    go_enter Tryd.func21, Tryd.ntmps21
    go_wp2_with (first
      | (go_at_call 45; refine (root_unit _).mono ?_; rintro e w1 ⟨v, rfl, i1, c1⟩)
      | (go_at_call 44; refine (kCmp (x := a) (y := 1)).mono ?_; rintro e w2 ⟨rfl, c2⟩; rw [← HZ.out]))
    go_ret
    exact ⟨by first | (simp; done) | (simp; omega), up_then c1 c2⟩
  rw [if_neg h2] at hbe
  have hz0 : ¬ z ≤ 0 := by rw [hz]; have := (@cmp3_pos a 1).2 (by omega); omega
  by_cases h3 : (bl a : Int) ≤ k
  · rw [if_pos h3] at hbe
    subst hbe
    clear hF hz
    go_enter Tryd.func21, Tryd.ntmps21
    go_wp2_with (first
      | (go_at_call 45; refine (root_unit _).mono ?_; rintro e w1 ⟨v, rfl, i1, c1⟩)
      | (go_at_call 44; refine (kCmp (x := a) (y := 1)).mono ?_; rintro e w2 ⟨rfl, c2⟩; rw [← HZ.out])
      | (go_at_call 38; refine (kBits (x := a)).mono ?_; rintro e w3 ⟨rfl, rfl⟩))
    go_ret
    exact ⟨rfl, up_then c1 c2⟩
  · rw [if_neg h3] at hbe
    obtain ⟨n, hn⟩ : ∃ n : Nat, k = n := ⟨k.toNat, by omega⟩
    subst hn
    rw [Int.toNat_natCast] at hbe hF
    have hF1 := hF (by omega)
    obtain ⟨r, hr⟩ : ∃ r, rt a n = r := ⟨_, rfl⟩
    obtain ⟨p, hp⟩ : ∃ p, r ^ n = p := ⟨_, rfl⟩
    rw [hr, hp] at hbe
    have hpa : p ≤ a := by rw [← hp, ← hr]; exact (rt_is (by omega)).1
    have hra : r ≤ a := by rw [← hr]; exact rt_le a n (by omega)
    have bp : bl p ≤ 50000000 := Nat.le_trans (bl_mono hpa) hb
    have br : bl r ≤ 50000000 := Nat.le_trans (bl_mono hra) hb
    have hFp := hF1.le (show bl p ≤ bl a + n by have := bl_mono hpa; omega)
    have hC := fun W (h : IsN W va a) => Lib.hid (root_cut W va a n h (by omega) (by omega) hb (fun _ _ => hF1))
    rw [hr] at hC
    obtain ⟨y, hy⟩ : ∃ z, z = cmp3 p a := ⟨_, rfl⟩
    have HY := Lib.hid hy
    have hyb : (y == 0) = b := by
      rw [hbe, hy]
      by_cases h : p = a
      · rw [cmp3_zero.2 h, decide_eq_true h]; rfl
      · rw [decide_eq_false h]; exact beq_eq_false_iff_ne.mpr (fun e => h (cmp3_zero.1 e))
    have HB := Lib.hid hyb
    have Xp := Lib.hid hp
    have hn2 : n ≤ 1000000000 := by omega
    clear hF hz hbe hr hp hpa hra hy hyb hF1
    go_enter Tryd.func21, Tryd.ntmps21
    go_wp2_with (first
      | (go_at_call 45; refine (root_unit _).mono ?_; rintro e w1 ⟨v, rfl, i1, c1⟩)
      | (go_at_call 38; refine (kBits (x := a)).mono ?_; rintro e w3 ⟨rfl, rfl⟩)
      | (go_at_call 33; refine (hC _ (by repeat (first | exact HA.out | (apply IsN.up' (by assumption))))).out.mono ?_; rintro e w3 ⟨v3, rfl, i3, c3⟩)
      | (go_at_call 48; refine (kPowE (x := r) (n := n) rfl Xp.out hFp).mono ?_; rintro e w4 ⟨v4, rfl, i4, c4⟩)
      | (go_at_call 44; first | ((with_reducible refine (kCmp (x := a) (y := 1) (ha := ha.up c1) (hb := i1)).mono ?_); rintro e w2 ⟨rfl, c2⟩; rw [← HZ.out]) | (refine (kCmp (x := p) (y := a)).mono ?_; rintro e w5 ⟨rfl, c5⟩; rw [← HY.out])))
    go_ret
    refine ⟨?_, ?_⟩
    · rw [← HB.out]; rfl
    · repeat (first | exact Below.refl _ _ | assumption | (apply up_then' (by assumption)))
end Go.Proofs.YtffkedepffjobaaDoor

