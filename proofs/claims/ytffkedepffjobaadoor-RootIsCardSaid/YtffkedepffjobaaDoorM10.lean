/- The contracts of the document's answers for layer 8, and of the law's head. By an AI agent. -/
import Derived.Test.YtffkedepffjobaaDoorM9
set_option linter.unusedVariables false
set_option linter.unusedSimpArgs false
namespace Go.Proofs.YtffkedepffjobaaDoor
open Go.RowKit
set_option maxRecDepth 100000
section
variable {w : World} {va vb : Value} {x y z : Nat}
theorem kAdd1 (hz : x + y = z) (hx : IsN w va x := by repeat (first | assumption | (apply IsN.up' (by assumption)) | (apply IsN.al') | (apply IsN.dr) | (apply IsN.drN'))) (hy : IsN w vb y := by repeat (first | assumption | (apply IsN.up' (by assumption)) | (apply IsN.al') | (apply IsN.dr) | (apply IsN.drN'))) (bx : bl x ≤ 100000000000 := by first | assumption | omega) (by_ : bl y ≤ 100000000000 := by first | assumption | omega) : Calls Tryd.prog 23 #[va, vb] w (AnsN w z) := by
  subst hz
  exact r1_Add w va vb x y hx hy bx by_
theorem kSchool3 (hz : x * y = z) (hx : IsN w va x := by repeat (first | assumption | (apply IsN.up' (by assumption)) | (apply IsN.al') | (apply IsN.dr) | (apply IsN.drN'))) (hy : IsN w vb y := by repeat (first | assumption | (apply IsN.up' (by assumption)) | (apply IsN.al') | (apply IsN.dr) | (apply IsN.drN'))) (bx : bl x ≤ 100000000000 := by first | assumption | omega) (by_ : bl y ≤ 100000000000 := by first | assumption | omega) : Calls Tryd.prog 26 #[va, vb] w (AnsN w z) := by
  subst hz
  exact r3_School w va vb x y hx hy bx by_
theorem kSub1 (hx : IsN w va x := by repeat (first | assumption | (apply IsN.up' (by assumption)) | (apply IsN.al') | (apply IsN.dr) | (apply IsN.drN'))) (hy : IsN w vb y := by repeat (first | assumption | (apply IsN.up' (by assumption)) | (apply IsN.al') | (apply IsN.dr) | (apply IsN.drN'))) (bx : bl x ≤ 100000000000 := by first | assumption | omega) (by_ : bl y ≤ 100000000000 := by first | assumption | omega) : Calls Tryd.prog 28 #[va, vb] w (AnsSub w x y) := r1_Sub w va vb x y hx hy bx by_
theorem kCmp1 (hx : IsN w va x := by repeat (first | assumption | (apply IsN.up' (by assumption)) | (apply IsN.al') | (apply IsN.dr) | (apply IsN.drN'))) (hy : IsN w vb y := by repeat (first | assumption | (apply IsN.up' (by assumption)) | (apply IsN.al') | (apply IsN.dr) | (apply IsN.drN'))) (bx : bl x ≤ 100000000000 := by first | assumption | omega) (by_ : bl y ≤ 100000000000 := by first | assumption | omega) : Calls Tryd.prog 25 #[va, vb] w fun e w' => e = .returned (.int .i64 (cmp3 x y)) ∧ w = w' := r1_Cmp w va vb x y hx hy bx by_
theorem kSame3 (hx : IsN w va x := by repeat (first | assumption | (apply IsN.up' (by assumption)) | (apply IsN.al') | (apply IsN.dr) | (apply IsN.drN'))) (hy : IsN w vb y := by repeat (first | assumption | (apply IsN.up' (by assumption)) | (apply IsN.al') | (apply IsN.dr) | (apply IsN.drN'))) (bx : bl x ≤ 100000000000 := by first | assumption | omega) (by_ : bl y ≤ 100000000000 := by first | assumption | omega) : Calls Tryd.prog 20 #[va, vb] w fun e w' => e = .returned (.bool (decide (x = y))) ∧ ∃ k, w' = w.drewN k := r3_Same w va vb x y hx hy bx by_
theorem kBits1 (hx : IsN w va x := by repeat (first | assumption | (apply IsN.up' (by assumption)) | (apply IsN.al') | (apply IsN.dr) | (apply IsN.drN'))) (bx : bl x ≤ 1000000000000 := by first | assumption | omega) : Calls Tryd.prog 30 #[va] w fun e w' => e = .returned (.int .i64 (bl x)) ∧ ∃ k, w' = w.drewN k := r1_Bits w va x hx bx
theorem kShl1 {i : Int} {n : Nat} (hi : i = (n : Nat)) (hz : x * 2 ^ n = z) (hx : IsN w va x := by repeat (first | assumption | (apply IsN.up' (by assumption)) | (apply IsN.al') | (apply IsN.dr) | (apply IsN.drN'))) (bx : bl x ≤ 100000000000 := by first | assumption | omega) (hn : n ≤ 100000000000 := by first | assumption | omega) : Calls Tryd.prog 27 #[va, .int .i64 i] w (AnsN w z) := by
  subst hi hz
  exact r1_Shl w va x n hx bx hn
theorem kShr1 {i : Int} {n : Nat} (hi : i = (n : Nat)) (hz : x / 2 ^ n = z) (hx : IsN w va x := by repeat (first | assumption | (apply IsN.up' (by assumption)) | (apply IsN.al') | (apply IsN.dr) | (apply IsN.drN'))) (bx : bl x ≤ 100000000000 := by first | assumption | omega) (hn : n ≤ 100000000000 := by first | assumption | omega) : Calls Tryd.prog 29 #[va, .int .i64 i] w (AnsN w z) := by
  subst hi hz
  exact r1_Shr w va x n hx bx hn
theorem kPow3 {n : Nat} {i : Int} (hi : i = (n : Nat)) (hz : x ^ n = z) (hx : IsN w va x := by repeat (first | assumption | (apply IsN.up' (by assumption)) | (apply IsN.al') | (apply IsN.dr) | (apply IsN.drN'))) (bx : bl x ≤ 1000000000 := by first | assumption | omega) (bz : bl z ≤ 1000000000 := by first | assumption | omega) (hn : n ≤ 1000000000 := by first | assumption | omega) : Calls Tryd.prog 31 #[va, .int .i64 i] w (AnsN w z) := by
  subst hi hz
  exact r3_Pow w va x n hx bx bz hn
end

theorem lit1 (w : World) : IsN (w.alloc (.cells #[.int .u32 1] 36)) (.slice (some ⟨w.heap.size, 0, none⟩) 1 1) 1 :=
  ⟨[1], (Own.lit w 36 .u32 [1] _ (Nat.le_refl _) (by simp [maxLen])).rd, ⟨Lim.cons (by omega) Lim.nil, .inr (by simp)⟩, rfl⟩
/-- A natural of one limb. -/
theorem IsN.limb {w : World} {A : Option Addr} {n c b : Nat} (h : IsN w (.slice A n c) b) (h1 : nl b = 1) : ∃ ad, A = some ad ∧ ∀ X, Below w.heap.size w X → X.cell? ad = some (.int .u32 (b : Nat)) := by
  obtain ⟨l, ⟨A', c', e, _, _, hr⟩, hn, hv⟩ := h
  injection e with e1 e2 e3
  subst e1
  have hl1 : l.length = 1 := by rw [hn.len, hv]; exact h1
  obtain ⟨z, rfl⟩ : ∃ z, l = [z] := List.length_eq_one_iff.1 hl1
  rw [val_one] at hv
  subst hv
  obtain ⟨ad, rfl, hs⟩ := hr (by simp)
  have hx := hs 0 (by simp)
  rw [show ad.add 0 = ad by simp [Addr.add]] at hx
  exact ⟨ad, rfl, fun X hX => (hX.cell (World.block_lt_of_cell? w _ hx)).trans hx⟩
theorem nl_two {b : Nat} (h : 2 ≤ nl b) : 4294967296 ≤ b := by
  rcases Nat.lt_or_ge b 4294967296 with g | g
  · have := (nl_le (x := b) (n := 1)).2 g
    omega
  · exact g
theorem nl_zero {b : Nat} : nl b = 0 ↔ b = 0 := by
  have := nl_le (x := b) (n := 0)
  simp at this
  omega

theorem r8_one (w : World) (va : Value) (a : Nat) (ha : IsN w va a) : Calls Tryd.prog 47 #[va] w fun e w' => e = .returned (.bool (decide (a ≤ 1))) ∧ w = w' := by
  obtain ⟨A, c, rfl⟩ := ha.slice
  have h01 : nl a = 0 ∨ nl a = 1 ∨ 2 ≤ nl a := by omega
  rcases h01 with h | h | h
  · have h0 := nl_zero.1 h
    rw [decide_eq_true (by omega)]
    rw [h]
    clear ha h h0
    go_enter Tryd.func47, Tryd.ntmps47
    go_wp2
    go_ret
    exact ⟨rfl, rfl⟩
  · obtain ⟨ad, rfl, hx⟩ := ha.limb h
    have hx := hx w (Below.refl _ _)
    have h1 : ¬ a = 0 := by intro e; rw [nl_zero.2 e] at h; cases h
    have hb : ((a : Int) == 1) = decide (a ≤ 1) := by
      by_cases g : a = 1
      · subst g; rfl
      · rw [decide_eq_false (by omega)]; exact beq_eq_false_iff_ne.mpr (by omega)
    rw [← hb]
    rw [h]
    clear ha h h1 hb
    go_enter Tryd.func47, Tryd.ntmps47
    go_wp2
    go_ret
    exact ⟨rfl, rfl⟩
  · have h0 := nl_two h
    rw [decide_eq_false (by omega)]
    have e0 : ((nl a : Int) == 0) = false := beq_eq_false_iff_ne.mpr (by omega)
    have e1 : ((nl a : Int) == 1) = false := beq_eq_false_iff_ne.mpr (by omega)
    clear ha h0
    go_enter Tryd.func47, Tryd.ntmps47
    go_wp2
    go_ret
    exact ⟨rfl, rfl⟩

theorem pow_gt {a b i k : Nat} (hb : 1 ≤ b) (hi : i ≤ k) (h : a < b ^ i) : a < b ^ k := Nat.lt_of_lt_of_le h (Nat.pow_le_pow_right hb hi)
set_option maxHeartbeats 2000000 in
theorem r8_above (w : World) (vb va : Value) (b k a : Nat) (hb : IsN w vb b) (ha : IsN w va a) (h1 : 1 ≤ b) (hk0 : 1 ≤ k) (hk : k ≤ 1000000000) (bb : bl b ≤ 1000000000) (ba : bl a ≤ 1000000000) :
    Calls Tryd.prog 53 #[vb, .int .i64 k, va] w fun e w' => e = .returned (.bool (decide (a < b ^ k))) ∧ Below w.heap.size w w' := by
  obtain ⟨A, c, rfl⟩ := hb.slice
  obtain ⟨r, hr⟩ : ∃ r, r = decide (a < b ^ k) := ⟨_, rfl⟩
  have HR := Lib.hid hr
  rw [← hr]
  clear hr
  go_enter Tryd.func53, Tryd.ntmps53
  go_wp2
  go_loopw [7, 8] (fun xv iv wr => ∃ i : Nat, i ≤ k ∧ iv = .int .i64 i ∧ IsN wr xv (b ^ i) ∧ Hid (i = 0 ∨ b ^ i ≤ a) ∧ Below w.heap.size w wr) (fun _ iv _ => k - (intOf iv).toNat)
  case atStart => exact ⟨0, Nat.zero_le _, rfl, lit1 w, Lib.hid (.inl rfl), (Below.refl _ _).alloc (Nat.le_refl _) _⟩
  case round =>
    obtain ⟨i, hi, rfl, hx, H, hB⟩ := hrel
    by_cases hlt : i < k
    · have hbx : bl (b ^ i) ≤ 1000000000 := by
        rcases H.out with rfl | h
        · rw [Nat.pow_zero]; exact Nat.le_trans (show bl 1 ≤ 1 by decide) (by omega)
        · exact Nat.le_trans (bl_mono h) ba
      obtain ⟨y, hy⟩ : ∃ y, b ^ i * b = y := ⟨_, rfl⟩
      have hby : bl y ≤ 2000000000 := by rw [← hy]; have := bl_mul (b ^ i) b; omega
      have hyk : y = b ^ (i + 1) := by rw [← hy, Nat.pow_succ]
      obtain ⟨z, hz⟩ : ∃ z, z = cmp3 y a := ⟨_, rfl⟩
      have HZ := Lib.hid hz
      have Y := Lib.hid hy
      have YK := Lib.hid hyk
      have hb' := hb.up hB
      by_cases hgt : a < y
      · have hz0 : 0 < z := by rw [hz]; exact cmp3_pos.2 hgt
        have hT : r = true := by
          rw [HR.out]
          exact decide_eq_true (pow_gt (i := i + 1) h1 hlt (by rw [← hyk]; exact hgt))
        subst hT
        clear hy hyk hz
        go_wp2_with fail
        refine (kSchool3 Y.out).mono ?_
        rintro e w1 ⟨v1, rfl, i1, c1⟩
        go_wp2_with fail
        refine (kCmp1 (x := y) (y := a)).mono ?_
        rintro e w2 ⟨rfl, rfl⟩
        rw [← HZ.out]
        go_wp2
        go_ret
        exact ⟨rfl, up_then hB c1⟩
      · have hz0 : ¬ 0 < z := by rw [hz]; exact fun g => hgt (cmp3_pos.1 g)
        by_cases hb1 : b = 1
        · have hF : r = false := by
            rw [HR.out]
            apply decide_eq_false
            rw [hb1, Nat.one_pow] at hyk
            rw [hb1, Nat.one_pow]
            omega
          subst hF
          subst hb1
          obtain ⟨ad, rfl, hcell⟩ := hb.limb (by decide)
          have hnl : nl 1 = 1 := by decide
          have KS := Lib.hid hcell
          rw [hnl] at hb hb' ⊢
          clear hy hyk hz hnl hcell
          go_wp2_with fail
          refine (kSchool3 Y.out).mono ?_
          rintro e w1 ⟨v1, rfl, i1, c1⟩
          have hx1 := KS.out w1 (up_then hB c1)
          go_wp2_with fail
          refine (kCmp1 (x := y) (y := a)).mono ?_
          rintro e w2 ⟨rfl, rfl⟩
          rw [← HZ.out]
          go_wp2
          go_ret
          exact ⟨rfl, up_then hB c1⟩
        · have NX : Hid (i + 1 = 0 ∨ b ^ (i + 1) ≤ a) := Lib.hid (.inr (by rw [← hyk]; omega))
          have e0 : ((nl b : Int) == 0) = false := beq_eq_false_iff_ne.mpr (by
            have := nl_zero (b := b); omega)
          have h12 : nl b = 1 ∨ 2 ≤ nl b := by have := nl_zero (b := b); omega
          rcases h12 with h12 | h12
          · obtain ⟨ad, rfl, hcell⟩ := hb.limb h12
            have KS := Lib.hid hcell
            have eb : ((b : Int) == 1) = false := beq_eq_false_iff_ne.mpr (by omega)
            rw [h12] at hb hb' e0 ⊢
            clear hy hyk hz hcell e0 h12
            go_wp2_with fail
            refine (kSchool3 Y.out).mono ?_
            rintro e w1 ⟨v1, rfl, i1, c1⟩
            have hx1 := KS.out w1 (up_then hB c1)
            go_wp2_with fail
            refine (kCmp1 (x := y) (y := a)).mono ?_
            rintro e w2 ⟨rfl, rfl⟩
            rw [← HZ.out]
            go_wp2
            go_roundw
            case rel => exact ⟨i + 1, by omega, by go_num, by rw [← YK.out]; exact i1, NX, up_then hB c1⟩
            case measure => simp [intOf]; omega
          · have e1 : ((nl b : Int) == 1) = false := beq_eq_false_iff_ne.mpr (by omega)
            clear hy hyk hz
            go_wp2_with fail
            refine (kSchool3 Y.out).mono ?_
            rintro e w1 ⟨v1, rfl, i1, c1⟩
            go_wp2_with fail
            refine (kCmp1 (x := y) (y := a)).mono ?_
            rintro e w2 ⟨rfl, rfl⟩
            rw [← HZ.out]
            go_wp2
            go_roundw
            case rel => exact ⟨i + 1, by omega, by go_num, by rw [← YK.out]; exact i1, NX, up_then hB c1⟩
            case measure => simp [intOf]; omega
    · obtain rfl : i = k := by omega
      have hF : r = false := by
        rw [HR.out]
        apply decide_eq_false
        rcases H.out with rfl | h
        · omega
        · omega
      subst hF
      go_wp2
      go_ret
      exact ⟨rfl, hB⟩
end Go.Proofs.YtffkedepffjobaaDoor

namespace Go.Proofs.YtffkedepffjobaaDoor
open Go.RowKit
set_option maxRecDepth 100000

/-- A root with j bits left to make. -/
def Cb (a k out j : Nat) : Prop := out ≤ rt a k ∧ rt a k < out + 2 ^ j
theorem cb_start {a k : Nat} (hk : 1 ≤ k) : Cb a k 0 (bl a / k + 1) := by
  refine ⟨Nat.zero_le _, ?_⟩
  rw [Nat.zero_add]
  rcases Nat.lt_or_ge (rt a k) (2 ^ (bl a / k + 1)) with g | g
  · exact g
  · exfalso
    have h1 : (2 ^ (bl a / k + 1)) ^ k ≤ rt a k ^ k := (Nat.pow_le_pow_iff_left (by omega)).2 g
    have h2 := (rt_is (a := a) (k := k) (by omega)).1
    rw [← Nat.pow_mul] at h1
    have h3 : bl a ≤ (bl a / k + 1) * k := by
      have := Nat.lt_mul_div_succ (bl a) (show 0 < k by omega)
      rw [Nat.mul_comm]
      omega
    have h4 : 2 ^ bl a ≤ 2 ^ ((bl a / k + 1) * k) := Nat.pow_le_pow_right (by omega) h3
    have := bl_lt (x := a)
    omega
theorem cb_yes {a k out j : Nat} (hk : 1 ≤ k) (h : Cb a k out (j + 1)) (hx : (out + 2 ^ j) ^ k ≤ a) : Cb a k (out + 2 ^ j) j := by
  refine ⟨((rt_is (by omega)).iff (by omega)).1 hx, ?_⟩
  have := h.2
  rw [Nat.pow_succ] at this
  omega
theorem cb_no {a k out j : Nat} (hk : 1 ≤ k) (h : Cb a k out (j + 1)) (hx : a < (out + 2 ^ j) ^ k) : Cb a k out j := by
  refine ⟨h.1, ?_⟩
  rcases Nat.lt_or_ge (rt a k) (out + 2 ^ j) with g | g
  · exact g
  · have h1 : (out + 2 ^ j) ^ k ≤ rt a k ^ k := (Nat.pow_le_pow_iff_left (by omega)).2 g
    have h2 := (rt_is (a := a) (k := k) (by omega)).1
    omega

set_option maxHeartbeats 2000000 in
theorem r8_cut (w : World) (va : Value) (a k : Nat) (ha : IsN w va a) (hk : 1 ≤ k) (hk2 : k ≤ 1000000000) (hb : bl a ≤ 100000000) :
    Calls Tryd.prog 34 #[va, .int .i64 k] w (AnsN w (rt a k)) := by
  obtain ⟨q, hq⟩ : ∃ q, q = bl a / k := ⟨_, rfl⟩
  have hqi : (bl a : Int) / (k : Int) = (q : Int) := by rw [hq, Int.natCast_ediv]
  have hqb : q ≤ 100000000 := by rw [hq]; exact Nat.le_trans (Nat.div_le_self _ _) hb
  have H0 := Lib.hid (cb_start (a := a) hk)
  rw [← hq] at H0
  have hk0 : ¬ (k = 0) := by omega
  have hra := bl_rt a k (by omega)
  obtain ⟨R, hR⟩ : ∃ R, R = rt a k := ⟨_, rfl⟩
  have HR := Lib.hid hR
  rw [← hR] at hra ⊢
  clear hq hR
  go_enter Tryd.func34, Tryd.ntmps34
  go_wp2_with fail
  refine (kBits1 (x := a)).mono ?_
  rintro e w1 ⟨rfl, n1, rfl⟩
  go_wp2_with fail
  have hB0 : Below w.heap.size w ((w.alloc (.cells #[] 36)).drewN n1) := up_drewN (up_alloc (Below.refl _ _) _) _
  have hE0 : IsN ((w.alloc (.cells #[] 36)).drewN n1) (.slice (some ⟨w.heap.size, 0, none⟩) 0 0) 0 := ⟨[], Rd.nil _ _ _ _ (fun e => by cases e), Nrm.nil, rfl⟩
  go_loopw [5, 6] (fun ov iv wr => ∃ (j o : Nat), j ≤ q + 1 ∧ iv = .int .i64 ((j : Int) - 1) ∧ IsN wr ov o ∧ Hid (Cb a k o j) ∧ Below w.heap.size w wr) (fun _ iv _ => (intOf iv + 1).toNat)
  case atStart => exact ⟨q + 1, 0, Nat.le_refl _, val_int (by first | omega | (rw [hqi]; omega)), hE0, H0, hB0⟩
  case round =>
    clear H0 hB0 hE0 hqi
    obtain ⟨j, o, hj, rfl, ho, H, hB⟩ := hrel
    cases j with
    | zero =>
      have hE : o = R := by
        have h1 := H.out
        have h2 := h1.1
        have h3 := h1.2
        rw [Nat.pow_zero] at h3
        have := HR.out
        omega
      have HE := Lib.hid hE
      clear hE
      go_wp2
      go_ret
      exact ⟨_, rfl, by rw [← HE.out]; exact ho, hB⟩
    | succ i =>
      have ei : ((i + 1 : Nat) : Int) - 1 = (i : Int) := by omega
      rw [ei]
      obtain ⟨p, hp⟩ : ∃ p, 1 * 2 ^ i = p := ⟨_, rfl⟩
      obtain ⟨x, hx⟩ : ∃ x, o + p = x := ⟨_, rfl⟩
      have hx1 : 1 ≤ x := by have := Nat.two_pow_pos i; omega
      have hob : bl o ≤ 100000000 := by
        have h1 := bl_mono (show o ≤ R by rw [HR.out]; exact H.out.1)
        omega
      have hpb : bl p ≤ 100000001 := by rw [← hp, Nat.one_mul, bl_two_pow]; omega
      have hxb : bl x ≤ 100000002 := by rw [← hx]; have := bl_add o p; omega
      have P := Lib.hid hp
      have X := Lib.hid hx
      have hxe : x = o + 2 ^ i := by rw [← hx, ← hp]; omega
      have b1 : bl 1 ≤ 1 := by decide
      have ha' := ha.up hB
      by_cases hgt : a < x ^ k
      · have NX := Lib.hid (cb_no hk H.out (by rw [← hxe]; exact hgt))
        have HA := fun W v u (h1 : IsN W v x) (h2 : IsN W u a) => Lib.hid (r8_above W v u x k a h1 h2 hx1 hk hk2 (by omega) (by omega))
        rw [decide_eq_true hgt] at HA
        clear hp hx hxe ei hgt
        go_wp2_with fail
        refine (kShl1 (x := 1) (n := i) rfl P.out (hx := lit1 _)).mono ?_
        rintro e w2 ⟨v2, rfl, i2, c2⟩
        go_wp2_with fail
        refine (kAdd1 (x := o) X.out).mono ?_
        rintro e w3 ⟨v3, rfl, i3, c3⟩
        have hB3 : Below wr.heap.size wr w3 := up_then (up_then (up_alloc (Below.refl _ _) _) c2) c3
        go_wp2_with fail
        refine (HA _ _ _ i3 (ha'.up hB3)).out.mono ?_
        rintro e w4 ⟨rfl, c4⟩
        have ho' := (ho.up hB3).up c4
        have hB' := up_then hB (up_then hB3 c4)
        clear i2 i3 c2 c3 c4 hB3
        go_wp2
        go_roundw
        case rel => exact ⟨i, o, by omega, rfl, ho', NX, hB'⟩
        case measure => simp [intOf]
      · have NX := Lib.hid (cb_yes hk H.out (by rw [← hxe]; omega))
        rw [← hxe] at NX
        have HA := fun W v u (h1 : IsN W v x) (h2 : IsN W u a) => Lib.hid (r8_above W v u x k a h1 h2 hx1 hk hk2 (by omega) (by omega))
        rw [decide_eq_false hgt] at HA
        clear hp hx hxe ei hgt
        go_wp2_with fail
        refine (kShl1 (x := 1) (n := i) rfl P.out (hx := lit1 _)).mono ?_
        rintro e w2 ⟨v2, rfl, i2, c2⟩
        go_wp2_with fail
        refine (kAdd1 (x := o) X.out).mono ?_
        rintro e w3 ⟨v3, rfl, i3, c3⟩
        have hB3 : Below wr.heap.size wr w3 := up_then (up_then (up_alloc (Below.refl _ _) _) c2) c3
        go_wp2_with fail
        refine (HA _ _ _ i3 (ha'.up hB3)).out.mono ?_
        rintro e w4 ⟨rfl, c4⟩
        have ho' := i3.up c4
        have hB' := up_then hB (up_then hB3 c4)
        clear i2 i3 c2 c3 c4 hB3
        go_wp2
        go_roundw
        case rel => exact ⟨i, x, by omega, rfl, ho', NX, hB'⟩
        case measure => simp [intOf]

theorem r8_RootBad (w : World) (va : Value) (k : Int) (h : k < 1 ∨ 1000000 < k) :
    Calls Tryd.prog 15 #[va, .int .i64 k] w fun e w' => e = .returned (.tuple #[.slice none 0 0, .int .i64 1]) ∧ w = w' := by
  rcases h with h | h
  · go_enter Tryd.func15, Tryd.ntmps15
    go_wp2
    go_ret2
    exact ⟨rfl, rfl⟩
  · have h1 : ¬ k < 1 := by omega
    go_enter Tryd.func15, Tryd.ntmps15
    go_wp2
    go_ret2
    exact ⟨rfl, rfl⟩
theorem r8_Root (w : World) (va : Value) (a k : Nat) (ha : IsN w va a) (hk : 1 ≤ k) (hk2 : k ≤ 1000000) (hb : bl a ≤ 100000000) :
    Calls Tryd.prog 15 #[va, .int .i64 k] w (AnsOK w (rt a k)) := by
  have h1 : ¬ ((k : Int) < 1) := by omega
  have h2 : ¬ ((1000000 : Int) < (k : Int)) := by omega
  have hC := Lib.hid (r8_cut w va a k ha hk (by omega) hb)
  go_enter Tryd.func15, Tryd.ntmps15
  go_wp2_with (go_at_call 34; refine hC.out.mono ?_; rintro e w1 ⟨v, rfl, i1, c1⟩)
  go_ret2
  exact ⟨_, rfl, ⟨_, rfl, i1⟩, c1⟩
theorem r8_Sqrt (w : World) (va : Value) (a : Nat) (ha : IsN w va a) (hb : bl a ≤ 100000000) : Calls Tryd.prog 17 #[va] w (AnsSq w a) := by
  obtain ⟨r, hr⟩ : ∃ r, r = rt a 2 := ⟨_, rfl⟩
  obtain ⟨p, hp⟩ : ∃ p, r * r = p := ⟨_, rfl⟩
  have hra : r ≤ a := by rw [hr]; exact rt_le a 2 (by omega)
  have hpa : p ≤ a := by have := (rt_sq a).1; rw [← hr, hp] at this; omega
  have br := bl_mono hra
  have bp := bl_mono hpa
  have hC := Lib.hid (r8_Root w va a 2 ha (by omega) (by omega) hb)
  unfold AnsSq
  rw [← hr, hp]
  rw [← hr] at hC
  have P := Lib.hid hp
  clear hr hp hra hpa
  go_enter Tryd.func17, Tryd.ntmps17
  go_wp2_with fail
  refine hC.out.mono ?_
  rintro e w1 ⟨v1, rfl, ⟨u1, rfl, i1⟩, c1⟩
  go_wp2_with fail
  refine (kSchool3 P.out).mono ?_
  rintro e w2 ⟨v2, rfl, i2, c2⟩
  go_wp2_with fail
  refine (kSub1 (x := a) (y := p)).mono ?_
  rintro e w3 ⟨v3, rfl, ⟨u3, rfl, i3⟩, c3⟩
  go_wp2
  go_ret2
  exact ⟨_, rfl, ⟨_, _, rfl, (i1.up c2).up c3, i3⟩, up_then c1 (up_then c2 c3)⟩

set_option maxHeartbeats 1000000 in
theorem r8_Is (w : World) (va : Value) (a : Nat) (k : Int) (ha : IsN w va a) (hk : k ≤ 9223372036854775807) (hk0 : -9223372036854775808 ≤ k) (hb : bl a ≤ 50000000) :
    Calls Tryd.prog 22 #[va, .int .i64 k] w fun e w' => e = .returned (.bool (isP a k)) ∧ Below w.heap.size w w' := by
  obtain ⟨b, hbe⟩ : ∃ b, b = isP a k := ⟨_, rfl⟩
  rw [← hbe]
  unfold isP at hbe
  have HO := Lib.hid (r8_one w va a ha)
  by_cases h1 : k < 1
  · rw [if_pos h1] at hbe
    subst hbe
    have h2 : decide (1 ≤ k) = false := decide_eq_false (by omega)
    go_enter Tryd.func22, Tryd.ntmps22
    go_wp2
    go_ret
    exact ⟨by first | (simp; done) | (simp; omega), Below.refl _ _⟩
  rw [if_neg h1] at hbe
  have hk1 : 1 ≤ k := by omega
  by_cases h2 : a ≤ 1
  · rw [if_pos h2] at hbe
    rw [decide_eq_true h2] at HO
    subst hbe
    clear h2
    go_enter Tryd.func22, Tryd.ntmps22
    go_wp2_with (go_at_call 47; refine HO.out.mono ?_; rintro e w1 ⟨rfl, rfl⟩)
    go_ret
    exact ⟨by first | (simp; done) | (simp; omega), Below.refl _ _⟩
  rw [if_neg h2] at hbe
  rw [decide_eq_false h2] at HO
  by_cases h3 : (bl a : Int) ≤ k
  · rw [if_pos h3] at hbe
    subst hbe
    clear h2
    go_enter Tryd.func22, Tryd.ntmps22
    go_wp2_with (first
      | (go_at_call 47; refine HO.out.mono ?_; rintro e w1 ⟨rfl, rfl⟩)
      | (go_at_call 30; refine (kBits1 (x := a)).mono ?_; rintro e w3 ⟨rfl, n3, rfl⟩))
    go_ret
    exact ⟨rfl, up_drewN (Below.refl _ _) _⟩
  · rw [if_neg h3] at hbe
    obtain ⟨n, hn⟩ : ∃ n : Nat, k = n := ⟨k.toNat, by omega⟩
    subst hn
    rw [Int.toNat_natCast] at hbe
    obtain ⟨r, hr⟩ : ∃ r, rt a n = r := ⟨_, rfl⟩
    obtain ⟨p, hp⟩ : ∃ p, r ^ n = p := ⟨_, rfl⟩
    rw [hr, hp] at hbe
    have hpa : p ≤ a := by rw [← hp, ← hr]; exact (rt_is (by omega)).1
    have hra : r ≤ a := by rw [← hr]; exact rt_le a n (by omega)
    have bp : bl p ≤ 50000000 := Nat.le_trans (bl_mono hpa) hb
    have br : bl r ≤ 50000000 := Nat.le_trans (bl_mono hra) hb
    have hC := fun W (h : IsN W va a) => Lib.hid (r8_cut W va a n h (by omega) (by omega) (by omega))
    rw [hr] at hC
    obtain ⟨y, hy⟩ : ∃ z, z = cmp3 p a := ⟨_, rfl⟩
    have HY := Lib.hid hy
    have hyb : (y == 0) = b := by
      rw [hbe, hy]
      by_cases h : p = a
      · rw [cmp3_zero.2 h, decide_eq_true h]; rfl
      · rw [decide_eq_false h]; exact beq_eq_false_iff_ne.mpr (fun e => h (cmp3_zero.1 e))
    have HB := Lib.hid hyb
    have Xp := Lib.hid hp
    have hn2 : n ≤ 1000000000 := by omega
    clear hbe hr hp hpa hra hy hyb h2
    go_enter Tryd.func22, Tryd.ntmps22
    go_wp2_with fail
    refine HO.out.mono ?_
    rintro e w1 ⟨rfl, rfl⟩
    go_wp2_with fail
    refine (kBits1 (x := a)).mono ?_
    rintro e w1 ⟨rfl, n1, rfl⟩
    have ha1 := ha.drN n1
    go_wp2_with fail
    refine (hC _ ha1).out.mono ?_
    rintro e w2 ⟨v2, rfl, i2, c2⟩
    go_wp2_with fail
    refine (kPow3 (x := r) (n := n) rfl Xp.out).mono ?_
    rintro e w3 ⟨v3, rfl, i3, c3⟩
    go_wp2_with fail
    refine (kCmp1 (x := p) (y := a) (hy := (ha1.up c2).up c3)).mono ?_
    rintro e w4 ⟨rfl, rfl⟩
    rw [← HY.out]
    go_wp2
    go_ret
    exact ⟨by rw [← HB.out]; rfl, (up_drewN (Below.refl _ _) n1).trans (up_then c2 c3)⟩

theorem isP_dvd {c m k : Nat} (hc : Plain c) (hm : 1 ≤ m) (hk : 1 ≤ k) : isP (c ^ m) (k : Int) = decide (k ∣ m) := by
  have h2 : 2 ≤ c ^ m := by
    have := le_pow' c m hm (by have := hc.1; omega)
    have := hc.1
    omega
  rw [isP_eq h2 (by omega), Int.toNat_natCast]
  by_cases h : k ∣ m
  · rw [decide_eq_true h, decide_eq_true ((is_pow_iff hc hm hk).2 h)]
  · rw [decide_eq_false h, decide_eq_false (fun e => h ((is_pow_iff hc hm hk).1 e))]
theorem rt_plain {c m : Nat} (hm : 1 ≤ m) : rt (c ^ m) m = c := rt_pow c m (by omega)

theorem r8_Power1 (w : World) (va : Value) (a : Nat) (ha : IsN w va a) (h : a ≤ 1) :
    Calls Tryd.prog 19 #[va] w (Ans w fun v w' => v = .tuple #[va, .int .i64 1]) := by
  have HO := Lib.hid (r8_one w va a ha)
  rw [decide_eq_true h] at HO
  clear h
  go_enter Tryd.func19, Tryd.ntmps19
  go_wp2_with (go_at_call 47; refine HO.out.mono ?_; rintro e w1 ⟨rfl, rfl⟩)
  go_ret2
  exact ⟨_, rfl, rfl, Below.refl _ _⟩
set_option maxHeartbeats 1000000 in
theorem r8_Power2 (w : World) (va : Value) (a : Nat) (ha : IsN w va a) (h : 2 ≤ a) (hb : bl a ≤ 50000000) :
    Calls Tryd.prog 19 #[va] w (AnsPw w a) := by
  obtain ⟨c, m, hc, hm, he⟩ := plain_exists a a (Nat.le_refl _) h
  have hmb : m < bl a := by have := pow_bits (m := m) hc.1; rwa [he] at this
  have HO := Lib.hid (r8_one w va a ha)
  rw [decide_eq_false (by omega)] at HO
  have HI := fun W (h : IsN W va a) (j : Nat) (hj : 1 ≤ j) (hj2 : j ≤ bl a) => Lib.hid (r8_Is W va a (j : Int) h (by omega) (by omega) hb)
  have HP := Lib.hid (And.intro hc he)
  have hbi : 1 ≤ bl a := by omega
  clear h hc he
  go_enter Tryd.func19, Tryd.ntmps19
  go_wp2_with fail
  refine HO.out.mono ?_
  rintro e w1 ⟨rfl, rfl⟩
  go_wp2_with fail
  refine (kBits1 (x := a)).mono ?_
  rintro e w1 ⟨rfl, n1, rfl⟩
  have hB0 : Below w.heap.size w (w.drewN n1) := up_drewN (Below.refl _ _) n1
  go_wp2_with fail
  go_loopw [4] (fun kv wr => ∃ j : Nat, 1 ≤ j ∧ m ≤ j ∧ j ≤ bl a ∧ kv = .int .i64 j ∧ Below w.heap.size w wr) (fun kv _ => (intOf kv).toNat)
  case atStart => exact ⟨bl a, hbi, by omega, Nat.le_refl _, rfl, hB0⟩
  case round =>
    clear hB0
    obtain ⟨j, hj1, hmj, hjb, rfl, hB⟩ := hrel
    by_cases h1 : 1 < j
    · have ha' := ha.up hB
      have HIs := HI _ ha' j hj1 hjb
      have hE := isP_dvd HP.out.1 hm hj1
      rw [HP.out.2] at hE
      rw [hE] at HIs
      by_cases hjm : j = m
      · subst hjm
        rw [decide_eq_true (Nat.dvd_refl j)] at HIs
        have HC := fun W (h : IsN W va a) => Lib.hid (r8_cut W va a j h hj1 (by omega) (by omega))
        have hr : rt a j = c := by rw [← HP.out.2]; exact rt_plain hm
        rw [hr] at HC
        clear hE hr HI
        go_wp2_with fail
        refine HIs.out.mono ?_
        rintro e w2 ⟨rfl, c2⟩
        go_wp2_with fail
        refine (HC _ (ha'.up c2)).out.mono ?_
        rintro e w3 ⟨v3, rfl, i3, c3⟩
        go_wp2
        go_ret2
        exact ⟨_, rfl, ⟨_, c, j, rfl, i3, HP.out.1, hm, HP.out.2⟩, up_then hB (up_then c2 c3)⟩
      · rw [decide_eq_false (fun hd => by have := Nat.le_of_dvd hm hd; omega)] at HIs
        clear hE HI
        go_wp2_with fail
        refine HIs.out.mono ?_
        rintro e w2 ⟨rfl, c2⟩
        go_wp2
        go_roundw
        case rel => exact ⟨j - 1, by omega, by omega, by omega, val_int (by omega), up_then hB c2⟩
        case measure => simp [intOf]; omega
    · have hm1 : m = 1 := by omega
      have hj1 : j = 1 := by omega
      subst hm1 hj1
      clear HI h1 hmj hj1
      go_wp2
      go_ret2
      have e := HP.out.2
      rw [Nat.pow_one] at e
      subst e
      exact ⟨_, rfl, ⟨_, c, 1, rfl, ha.up hB, HP.out.1, Nat.le_refl _, Nat.pow_one c⟩, hB⟩

theorem bl_pow_le {a k n : Nat} (hk : k ≠ 0) (h : bl a * k ≤ n) : bl (a ^ k) ≤ n := by
  rw [bl_le_iff]
  refine Nat.lt_of_lt_of_le ((Nat.pow_lt_pow_iff_left hk).2 (bl_lt (x := a))) ?_
  rw [← Nat.pow_mul]
  exact Nat.pow_le_pow_right (by omega) h
/-- The law's own power. -/
theorem law_power (w : World) (va : Value) (a k : Nat) (ha : IsN w va a) (hb : bl a ≤ 1000000) (hk : k ≤ 1000) (h1 : 1 ≤ k) :
    Calls Tryd.prog 24 #[va, .int .i64 k] w (Ans w fun v w' => ∃ u, v = .tuple #[u, .bool (decide (bl a * k ≤ 6400))] ∧ IsN w' u (if bl a * k ≤ 6400 then a ^ k else 0)) := by
  obtain ⟨p, hp⟩ : ∃ p, p = bl a * k := ⟨_, rfl⟩
  have hpi : (bl a : Int) * (k : Int) = (p : Int) := by rw [hp]; simp
  have hpb : p ≤ 1000000000 := by rw [hp]; exact Nat.mul_le_mul hb hk
  by_cases h : p ≤ 6400
  · have hbb : bl (a ^ k) ≤ 6400 := bl_pow_le (by omega) (by rw [← hp]; exact h)
    rw [← hp, if_pos h, decide_eq_true h]
    have hng : ¬ ((6400 : Int) < (p : Int)) := by omega
    clear hp h
    go_enter Tryd.func24, Tryd.ntmps24
    go_wp2_with fail
    refine (kBits1 (x := a)).mono ?_
    rintro e w1 ⟨rfl, n1, rfl⟩
    go_wp2_with fail
    refine (kPow3 (x := a) (n := k) rfl rfl).mono ?_
    rintro e w2 ⟨v2, rfl, i2, c2⟩
    go_wp2
    go_ret2
    exact ⟨_, rfl, ⟨_, rfl, i2⟩, (up_drewN (Below.refl _ _) n1).trans c2⟩
  · rw [← hp, if_neg h, decide_eq_false h]
    have hng : (6400 : Int) < (p : Int) := by omega
    clear hp h
    go_enter Tryd.func24, Tryd.ntmps24
    go_wp2_with fail
    refine (kBits1 (x := a)).mono ?_
    rintro e w1 ⟨rfl, n1, rfl⟩
    go_wp2
    go_ret2
    exact ⟨_, rfl, ⟨_, rfl, ⟨[], Rd.nil _ _ _ _ (fun _ => rfl), Nrm.nil, rfl⟩⟩, up_drewN (Below.refl _ _) n1⟩
end Go.Proofs.YtffkedepffjobaaDoor

namespace Go.Proofs.YtffkedepffjobaaDoor
open Go.RowKit
set_option maxRecDepth 100000

theorem litN (w : World) (n : Nat) (h : n < 4294967296) (h0 : n ≠ 0) : IsN (w.alloc (.cells #[.int .u32 (n : Nat)] 36)) (.slice (some ⟨w.heap.size, 0, none⟩) 1 1) n :=
  ⟨[n], (Own.lit w 36 .u32 [n] _ (Nat.le_refl _) (by simp [maxLen])).rd, ⟨Lim.cons h Lim.nil, .inr (by simp; omega)⟩, val_one n⟩
theorem litN2 (w : World) (n m : Nat) (h : n < 4294967296) (h1 : m < 4294967296) (h0 : m ≠ 0) : IsN (w.alloc (.cells #[.int .u32 (n : Nat), .int .u32 (m : Nat)] 36)) (.slice (some ⟨w.heap.size, 0, none⟩) 2 2) (n + 4294967296 * m) :=
  ⟨[n, m], (Own.lit w 36 .u32 [n, m] _ (Nat.le_refl _) (by simp [maxLen])).rd, ⟨Lim.cons h (Lim.cons h1 Lim.nil), .inr (by simp; omega)⟩, by simp [val]⟩
theorem litN3 (w : World) (n m q : Nat) (h : n < 4294967296) (h1 : m < 4294967296) (h2 : q < 4294967296) (h0 : q ≠ 0) : IsN (w.alloc (.cells #[.int .u32 (n : Nat), .int .u32 (m : Nat), .int .u32 (q : Nat)] 36)) (.slice (some ⟨w.heap.size, 0, none⟩) 3 3) (n + 4294967296 * (m + 4294967296 * q)) :=
  ⟨[n, m, q], (Own.lit w 36 .u32 [n, m, q] _ (Nat.le_refl _) (by simp [maxLen])).rd, ⟨Lim.cons h (Lim.cons h1 (Lim.cons h2 Lim.nil)), .inr (by simp; omega)⟩, by simp [val]⟩
theorem isN_nil (w : World) : IsN w (.slice none 0 0) 0 := ⟨[], Rd.nil _ _ _ _ (fun _ => rfl), Nrm.nil, rfl⟩
theorem kSameT {w : World} {va vb : Value} {x y : Nat} (e : x = y) (ha : IsN w va x) (hb : IsN w vb y) (bx : bl x ≤ 100000000000) : Calls Tryd.prog 20 #[va, vb] w fun e w' => e = .returned (.bool true) ∧ Below w.heap.size w w' := by
  subst e
  have := r3_Same w va vb x x ha hb bx bx
  rw [decide_eq_true rfl] at this
  exact this.mono fun e w' ⟨he, n, hn⟩ => ⟨he, hn ▸ up_drewN (Below.refl _ _) n⟩

theorem plain_two : Plain 2 := by
  refine ⟨Nat.le_refl _, fun c j hj e => ?_⟩
  rcases Nat.lt_or_ge c 2 with g | g
  · have : c = 0 ∨ c = 1 := by omega
    rcases this with rfl | rfl
    · rw [Nat.zero_pow (by omega)] at e; omega
    · rw [Nat.one_pow] at e; omega
  · have h1 : 2 ^ 2 ≤ c ^ j := Nat.le_trans (Nat.pow_le_pow_left g 2) (Nat.pow_le_pow_right (by omega) hj)
    omega
theorem plain_twelve : Plain 12 := by
  refine ⟨by omega, fun c j hj e => ?_⟩
  rcases Nat.lt_or_ge c 2 with g | g
  · have : c = 0 ∨ c = 1 := by omega
    rcases this with rfl | rfl
    · rw [Nat.zero_pow (by omega)] at e; omega
    · rw [Nat.one_pow] at e; omega
  · have hc : c < 4 := by
      rcases Nat.lt_or_ge c 4 with h | h
      · exact h
      · have h1 : 4 ^ 2 ≤ c ^ j := Nat.le_trans (Nat.pow_le_pow_left h 2) (Nat.pow_le_pow_right (by omega) hj)
        omega
    have hj4 : j < 4 := by
      rcases Nat.lt_or_ge j 4 with h | h
      · exact h
      · have h1 : 2 ^ 4 ≤ c ^ j := Nat.le_trans (Nat.pow_le_pow_left g 4) (Nat.pow_le_pow_right (by omega) h)
        omega
    have h2 : c = 2 ∨ c = 3 := by omega
    have h3 : j = 2 ∨ j = 3 := by omega
    rcases h2 with rfl | rfl <;> rcases h3 with rfl | rfl <;> omega

theorem rt_26 : rt 26 3 = 2 := rt_eq (by omega) ⟨by decide, by decide⟩
theorem rt_27 : rt 27 3 = 3 := rt_eq (by omega) ⟨by decide, by decide⟩
theorem rt_max : rt 18446744073709551615 2 = 4294967295 := rt_eq (by omega) ⟨by decide, by decide⟩
theorem rt_05 : rt 21474836480 1000000 = 1 := rt_big (by omega) (by decide)
theorem isP_64 : isP 18446744073709551616 64 = true := by
  have := isP_dvd plain_two (show 1 ≤ 64 by omega) (show 1 ≤ 64 by omega)
  rw [show (2 : Nat) ^ 64 = 18446744073709551616 by decide] at this
  exact this
theorem isP_3 : isP 18446744073709551616 3 = false := by
  have := isP_dvd plain_two (show 1 ≤ 64 by omega) (show 1 ≤ 3 by omega)
  rw [show (2 : Nat) ^ 64 = 18446744073709551616 by decide] at this
  exact this
theorem isP_0 : isP 0 9 = true := rfl
theorem isP_1 : isP 1 0 = false := rfl
theorem isP_1b : isP 1 5000000 = true := rfl
theorem isP_2 : isP 2 5000000 = false := rfl

theorem root_RootI (w : World) (va : Value) (a : Nat) (i : Int) (k : Nat) (e : i = (k : Nat)) (ha : IsN w va a) (hk : 1 ≤ k) (hk2 : k ≤ 1000000) (hb : bl a ≤ 50000000) (hF : 2 ≤ k → k < bl a → Ok (bl a + k)) :
    Calls Tryd.prog 14 #[va, .int .i64 i] w (AnsOK w (rt a k)) := by
  subst e
  exact root_Root w va a k ha hk hk2 hb hF
theorem ok_big : 2 ≤ 1000000 → 1000000 < bl 21474836480 → Ok (bl 21474836480 + 1000000) := fun _ h => absurd h (by decide)
theorem root_RootBadB (w : World) (va : Value) (k : Int) (h : k < 1 ∨ 1000000 < k) :
    Calls Tryd.prog 14 #[va, .int .i64 k] w fun e w' => e = .returned (.tuple #[.slice none 0 0, .int .i64 1]) ∧ Below w.heap.size w w' :=
  (root_RootBad w va k h).mono fun e w' ⟨he, hw⟩ => ⟨he, hw ▸ Below.refl _ _⟩
set_option maxHeartbeats 4000000 in
theorem law_head (w : World) : Calls Tryd.prog 12 #[] w fun e w' => e = .returned (.bool true) ∧ Below w.heap.size w w' := by
  have b26 : bl 26 ≤ 50000000 := by decide
  have b27 : bl 27 ≤ 50000000 := by decide
  have bmax : bl 18446744073709551615 ≤ 99999999 := by decide
  go_enter Tryd.func12, Tryd.ntmps12
  go_wp2_with fail
  refine (root_Root _ _ 26 3 (litN _ 26 (by omega) (by omega)) (by omega) (by omega) b26 (fun _ _ => .inl (by decide))).mono ?_
  rintro e w1 ⟨v1, rfl, ⟨u1, rfl, i1⟩, c1⟩
  rw [rt_26] at i1
  go_wp2_with fail
  refine (root_Sqrt _ _ 18446744073709551615 (litN2 _ 4294967295 4294967295 (by omega) (by omega) (by omega)) bmax (.inl (by decide))).mono ?_
  rintro e w2 ⟨v2, rfl, ⟨u2, u3, rfl, i2, i3⟩, c2⟩
  rw [rt_max] at i2 i3
  go_wp2_with fail
  refine (root_Power2 _ _ 64 (litN _ 64 (by omega) (by omega)) (by omega) (by decide) (.inl (by decide))).mono ?_
  rintro e w3 ⟨v3, rfl, ⟨u4, b4, k4, rfl, i4, p4, h4, e4⟩, c3⟩
  obtain ⟨rfl, rfl⟩ := p4.inj plain_two h4 (show 0 < 6 by omega) (e4.trans (by decide))
  clear p4 h4 e4
  go_wp2_with fail
  refine (root_Power2 _ _ 12 (litN _ 12 (by omega) (by omega)) (by omega) (by decide) (.inl (by decide))).mono ?_
  rintro e w4 ⟨v4, rfl, ⟨u5, b5, k5, rfl, i5, p5, h5, e5⟩, c4⟩
  obtain ⟨rfl, rfl⟩ := p5.inj plain_twelve h5 (show 0 < 1 by omega) (e5.trans (by decide))
  clear p5 h5 e5
  go_wp2_with fail
  refine (root_Power1 _ _ 0 (isN_nil _) (by omega)).mono ?_
  rintro e w5 ⟨v5, rfl, rfl, c5⟩
  go_wp2_with fail
  refine (root_Root _ _ 27 3 (litN _ 27 (by omega) (by omega)) (by omega) (by omega) b27 (fun _ _ => .inl (by decide))).mono ?_
  rintro e w6 ⟨v6, rfl, ⟨u6, rfl, i6⟩, c6⟩
  rw [rt_27] at i6
  go_wp2_with fail
  refine (root_RootBadB _ _ 0 (.inl (by omega))).mono ?_
  rintro e w6a ⟨rfl, c6a⟩
  go_wp2_with fail
  refine (root_RootBadB _ _ 1000001 (.inr (by omega))).mono ?_
  rintro e w6b ⟨rfl, c6b⟩
  go_wp2_with fail
  refine (root_RootI _ _ 21474836480 1000000 1000000 (by omega) (litN2 _ 0 5 (by omega) (by omega) (by omega)) (by omega) (by omega) (by decide) ok_big).mono ?_
  rintro e w7 ⟨v7, rfl, ⟨u7, rfl, i7⟩, c7⟩
  rw [rt_05] at i7
  go_wp2_with fail
  refine (root_Sqrt _ _ 0 (isN_nil _) (by decide) (.inl (by decide))).mono ?_
  rintro e w8 ⟨v8, rfl, ⟨u8, u9, rfl, i8, i9⟩, c8⟩
  rw [rt_zero (by omega)] at i8 i9
  obtain ⟨A8, d8, rfl⟩ := i8.slice
  obtain ⟨A9, d9, rfl⟩ := i9.slice
  have hnl : nl 0 = 0 := rfl
  have hnl2 : nl (0 - 0 * 0) = 0 := rfl
  (try rw [hnl])
  (try rw [hnl2])
  go_wp2_with fail
  refine (root_Root _ _ 0 7 (isN_nil _) (by omega) (by omega) (by decide) (fun _ h => absurd h (by decide))).mono ?_
  rintro e w9 ⟨v9, rfl, ⟨u10, rfl, i10⟩, c9⟩
  rw [rt_zero (by omega)] at i10
  obtain ⟨A10, d10, rfl⟩ := i10.slice
  (try rw [hnl])
  clear i8 i9 i10
  go_wp2_with fail
  refine (kSameT (x := 2) (y := 2) rfl (by repeat (first | assumption | (apply IsN.up' (by assumption)) | (apply IsN.al') | (apply IsN.drN'))) (litN _ 2 (by omega) (by omega)) (by decide)).mono ?_
  rintro e w10 ⟨rfl, c10⟩
  go_wp2_with fail
  refine (kSameT (x := 4294967295) (y := 4294967295) rfl (by repeat (first | assumption | (apply IsN.up' (by assumption)) | (apply IsN.al') | (apply IsN.drN'))) (litN _ 4294967295 (by omega) (by omega)) (by decide)).mono ?_
  rintro e w11 ⟨rfl, c11⟩
  go_wp2_with fail
  refine (kSameT (x := 8589934590) (y := 8589934590) rfl (by repeat (first | assumption | (apply IsN.up' (by assumption)) | (apply IsN.al') | (apply IsN.drN'))) (litN2 _ 4294967294 1 (by omega) (by omega) (by omega)) (by decide)).mono ?_
  rintro e w12 ⟨rfl, c12⟩
  go_wp2_with fail
  refine (kSameT (x := 2) (y := 2) rfl (by repeat (first | assumption | (apply IsN.up' (by assumption)) | (apply IsN.al') | (apply IsN.drN'))) (litN _ 2 (by omega) (by omega)) (by decide)).mono ?_
  rintro e w13 ⟨rfl, c13⟩
  go_wp2_with fail
  refine (kSameT (x := 12) (y := 12) rfl (by repeat (first | assumption | (apply IsN.up' (by assumption)) | (apply IsN.al') | (apply IsN.drN'))) (litN _ 12 (by omega) (by omega)) (by decide)).mono ?_
  rintro e w14 ⟨rfl, c14⟩
  go_wp2_with fail
  refine (kSameT (x := 3) (y := 3) rfl (by repeat (first | assumption | (apply IsN.up' (by assumption)) | (apply IsN.al') | (apply IsN.drN'))) (litN _ 3 (by omega) (by omega)) (by decide)).mono ?_
  rintro e w15 ⟨rfl, c15⟩
  go_wp2_with fail
  refine (kSameT (x := 1) (y := 1) rfl (by repeat (first | assumption | (apply IsN.up' (by assumption)) | (apply IsN.al') | (apply IsN.drN'))) (litN _ 1 (by omega) (by omega)) (by decide)).mono ?_
  rintro e w16 ⟨rfl, c16⟩
  go_wp2_with fail
  refine (root_Is _ _ 18446744073709551616 64 (litN3 _ 0 0 1 (by omega) (by omega) (by omega) (by omega)) (by omega) (by omega) (by decide) (fun h => .inl (by decide))).mono ?_
  rw [isP_64]
  rintro e w17 ⟨rfl, c17⟩
  go_wp2_with fail
  refine (root_Is _ _ 18446744073709551616 3 (litN3 _ 0 0 1 (by omega) (by omega) (by omega) (by omega)) (by omega) (by omega) (by decide) (fun h => .inl (by decide))).mono ?_
  rw [isP_3]
  rintro e w18 ⟨rfl, c18⟩
  go_wp2_with fail
  refine (root_Is _ _ 0 9 (isN_nil _) (by omega) (by omega) (by decide) (fun h => .inl (by decide))).mono ?_
  rw [isP_0]
  rintro e w19 ⟨rfl, c19⟩
  go_wp2_with fail
  refine (root_Is _ _ 1 0 (litN _ 1 (by omega) (by omega)) (by omega) (by omega) (by decide) (fun h => .inl (by decide))).mono ?_
  rw [isP_1]
  rintro e w20 ⟨rfl, c20⟩
  go_wp2_with fail
  refine (root_Is _ _ 1 5000000 (litN _ 1 (by omega) (by omega)) (by omega) (by omega) (by decide) (fun h => absurd h (by decide))).mono ?_
  rw [isP_1b]
  rintro e w21 ⟨rfl, c21⟩
  go_wp2_with fail
  refine (root_Is _ _ 2 5000000 (litN _ 2 (by omega) (by omega)) (by omega) (by omega) (by decide) (fun h => absurd h (by decide))).mono ?_
  rw [isP_2]
  rintro e w22 ⟨rfl, c22⟩
  go_wp2_with fail
  go_ret
  refine ⟨rfl, ?_⟩
  repeat (first | exact Below.refl _ _ | assumption | (apply up_then' (by assumption)) | (apply up_al'))
end Go.Proofs.YtffkedepffjobaaDoor

