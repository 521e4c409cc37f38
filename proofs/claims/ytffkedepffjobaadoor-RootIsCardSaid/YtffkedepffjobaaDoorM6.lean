/- Knuth's division: the contract of div.DivMod; the plain mathematics of roots. By an AI agent. -/
import Derived.Test.YtffkedepffjobaaDoorM5
set_option linter.unusedVariables false
set_option linter.unusedSimpArgs false
namespace Go.Proofs.YtffkedepffjobaaDoor
open Go.RowKit
set_option maxRecDepth 100000

/-- A guess of the first limbs, held against the whole numbers. -/
theorem knuth_guess {V D P M V3 D2 rv rd q : Nat} (hV : V = V3 * (M * P) + rv) (hrv : rv < M * P) (hD : D = D2 * M + rd) (hrd : rd < M) (hP : 0 < P)
    (hq : q ≤ D2 + 1) (hle : q * D2 ≤ V3) : (q - 1) * (P * D) ≤ V := by
  rcases Nat.eq_zero_or_pos q with rfl | h
  · simp
  · obtain ⟨p, rfl⟩ : ∃ p, q = p + 1 := ⟨q - 1, by omega⟩
    rw [Nat.add_sub_cancel]
    have h1 : D ≤ (D2 + 1) * M := by rw [Nat.add_mul]; omega
    have h2 : p * (D2 + 1) ≤ V3 := by rw [Nat.mul_add]; rw [Nat.add_mul] at hle; omega
    calc p * (P * D) ≤ p * (P * ((D2 + 1) * M)) := Nat.mul_le_mul_left _ (Nat.mul_le_mul_left _ h1)
      _ = p * (D2 + 1) * (M * P) := by ac_rfl
      _ ≤ V3 * (M * P) := Nat.mul_le_mul_right _ h2
      _ ≤ V := by omega
theorem knuth_least {V D P M V3 D2 rv rd t : Nat} (hV : V = V3 * (M * P) + rv) (hrv : rv < M * P) (hD : D = D2 * M + rd) (ht : t * (P * D) ≤ V) : t * D2 ≤ V3 := by
  have h1 : t * D2 * (M * P) ≤ t * (P * D) := by
    rw [hD]
    calc t * D2 * (M * P) = t * (P * (D2 * M)) := by ac_rfl
      _ ≤ t * (P * (D2 * M + rd)) := Nat.mul_le_mul_left _ (Nat.mul_le_mul_left _ (Nat.le_add_right _ _))
  have h2 : t * D2 * (M * P) < (V3 + 1) * (M * P) := by rw [Nat.add_mul]; omega
  have := Nat.lt_of_mul_lt_mul_right h2
  omega
/-- .. the rest is below the divisor. -/
theorem knuth_rest {V D P q : Nat} (hlt : V < D * P * 4294967296) (hq : q < 4294967296) (hl : ∀ t, t < 4294967296 → t * (P * D) ≤ V → t ≤ q) : V < (q + 1) * (P * D) := by
  rcases Nat.lt_or_ge V ((q + 1) * (P * D)) with h | h
  · exact h
  · rcases Nat.lt_or_ge (q + 1) 4294967296 with h1 | h1
    · have := hl (q + 1) h1 h
      omega
    · have e : q + 1 = 4294967296 := by omega
      rw [e] at h
      have e2 : D * P * 4294967296 = 4294967296 * (P * D) := by ac_rfl
      omega

theorem val_drop_succ (l : List Nat) (j : Nat) : val (l.drop j) = lb l j + 4294967296 * val (l.drop (j + 1)) := by
  by_cases h : j < l.length
  · rw [List.drop_eq_getElem_cons h, val_cons]
    simp [lb, h]
  · rw [List.drop_of_length_le (by omega), List.drop_of_length_le (by omega)]
    simp [lb, h, val]
theorem lb_le {l : List Nat} (h : Lim l) (r : Nat) : lb l r ≤ val l / 2 ^ (32 * r) := by
  rw [← val_drop h, val_drop_succ]
  exact Nat.le_add_right _ _
theorem lb_top {l : List Nat} (h : Lim l) {r k : Nat} (hv : val l < 2 ^ (32 * k)) (hr : k ≤ r) : lb l r = 0 := by
  have h1 := lb_le h r
  rw [Nat.div_eq_of_lt (Nat.lt_of_lt_of_le hv (Nat.pow_le_pow_right (by omega) (by omega)))] at h1
  omega
theorem val_top {l : List Nat} (h : Lim l) {k : Nat} (hz : ∀ r, k ≤ r → lb l r = 0) : val l < 2 ^ (32 * k) := by
  have h1 : val (l.drop k) = 0 := by
    have : ∀ (n : Nat) (j : Nat), l.length - j = n → k ≤ j → val (l.drop j) = 0 := by
      intro n
      induction n with
      | zero => intro j hj _; rw [List.drop_of_length_le (by omega)]; rfl
      | succ n ih =>
        intro j hj hk
        rw [val_drop_succ, hz j hk, ih (j + 1) (by omega) (by omega)]
    exact this _ k rfl (Nat.le_refl _)
  rw [val_drop h] at h1
  rcases Nat.lt_or_ge (val l) (2 ^ (32 * k)) with h2 | h2
  · exact h2
  · have := Nat.div_pos h2 (Nat.two_pow_pos _)
    omega
/-- The first three limbs. -/
theorem val_three {l : List Nat} (h : Lim l) {j : Nat} (hv : val l < 2 ^ (32 * (j + 3))) : val l / 2 ^ (32 * j) = (lb l (j + 2) * 4294967296 + lb l (j + 1)) * 4294967296 + lb l j := by
  have h3 : val (l.drop (j + 1 + 1 + 1)) = 0 := by rw [val_drop h, Nat.div_eq_of_lt hv]
  rw [← val_drop h, val_drop_succ, val_drop_succ l (j + 1), val_drop_succ l (j + 1 + 1), h3]
  show _ = (lb l (j + 1 + 1) * 4294967296 + lb l (j + 1)) * 4294967296 + lb l j
  omega
/-- The first two limbs. -/
theorem val_two {l : List Nat} (h : Lim l) {j : Nat} (hv : val l < 2 ^ (32 * (j + 2))) : val l / 2 ^ (32 * j) = lb l (j + 1) * 4294967296 + lb l j := by
  have h3 : val (l.drop (j + 1 + 1)) = 0 := by rw [val_drop h, Nat.div_eq_of_lt hv]
  rw [← val_drop h, val_drop_succ, val_drop_succ l (j + 1), h3]
  omega

/-- What holds with i limbs of the quotient left. -/
structure Kn (V0 : Nat) (Y X Q : List Nat) (N i : Nat) : Prop where
  limX : Lim X
  lenX : X.length = N
  limQ : Lim Q
  lenQ : Q.length + Y.length = N
  zero : ∀ j, j < i → lb Q j = 0
  sum : V0 = val Q * val Y + val X
  rest : val X < val Y * 2 ^ (32 * i)
theorem kn_bound {V0 : Nat} {Y X Q : List Nat} {N i : Nat} (h : Kn V0 Y X Q N (i + 1)) (hY : Lim Y) : val X < 2 ^ (32 * (i + Y.length + 1)) := by
  have h1 := val_lt hY
  refine Nat.lt_of_lt_of_le h.rest ?_
  rw [show 32 * (i + Y.length + 1) = 32 * Y.length + 32 * (i + 1) by omega, Nat.pow_add]
  exact Nat.mul_le_mul_right _ (by omega)
theorem kn_top {V0 : Nat} {Y X Q : List Nat} {N i n : Nat} (h : Kn V0 Y X Q N (i + 1)) (hY : Lim Y) (hn : Y.length = n + 2) : lb X (i + n + 2) ≤ lb Y (n + 1) := by
  have h1 := lb_le h.limX (i + n + 2)
  have h2 : val X / 2 ^ (32 * (i + n + 2)) < lb Y (n + 1) + 1 := by
    rw [Nat.div_lt_iff_lt_mul (Nat.two_pow_pos _)]
    refine Nat.lt_of_lt_of_le h.rest ?_
    have h3 : val Y / 2 ^ (32 * (n + 1)) = lb Y (n + 1) := by
      rw [← val_drop hY, val_drop_succ, List.drop_of_length_le (by omega)]
      simp [val]
    have h4 : val Y ≤ (lb Y (n + 1) + 1) * 2 ^ (32 * (n + 1)) := by
      rw [← h3]
      have := Nat.lt_mul_div_succ (val Y) (Nat.two_pow_pos (32 * (n + 1)))
      rw [Nat.mul_comm]
      exact Nat.le_of_lt this
    calc val Y * 2 ^ (32 * (i + 1)) ≤ (lb Y (n + 1) + 1) * 2 ^ (32 * (n + 1)) * 2 ^ (32 * (i + 1)) := Nat.mul_le_mul_right _ h4
      _ = (lb Y (n + 1) + 1) * 2 ^ (32 * (i + n + 2)) := by rw [Nat.mul_assoc, ← Nat.pow_add]; congr 2; omega
  omega
theorem kn_guess {V0 : Nat} {Y X Q : List Nat} {N i n q : Nat} (h : Kn V0 Y X Q N (i + 1)) (hY : Lim Y) (hn : Y.length = n + 2) (hy : 2147483648 ≤ lb Y (n + 1))
    (hg : Guessed (lb X (i + n + 2)) (lb X (i + n + 1)) (lb X (i + n)) (lb Y (n + 1)) (lb Y n) q) :
    (q - 1) * (2 ^ (32 * i) * val Y) ≤ val X ∧ val X < (q + 1) * (2 ^ (32 * i) * val Y) := by
  have hb := kn_bound h hY
  rw [hn] at hb
  have e1 := val_three h.limX (j := i + n) (by rw [show i + n + 3 = i + (n + 2) + 1 by omega]; exact hb)
  have hyb := val_lt hY
  rw [hn] at hyb
  have e2 := val_two hY (j := n) hyb
  have d1 := Nat.div_add_mod (val X) (2 ^ (32 * (i + n)))
  have d2 := Nat.div_add_mod (val Y) (2 ^ (32 * n))
  rw [e1, Nat.mul_comm] at d1
  rw [e2, Nat.mul_comm] at d2
  have m1 := Nat.mod_lt (val X) (Nat.two_pow_pos (32 * (i + n)))
  have m2 := Nat.mod_lt (val Y) (Nat.two_pow_pos (32 * n))
  have ep : 2 ^ (32 * (i + n)) = 2 ^ (32 * n) * 2 ^ (32 * i) := by rw [← Nat.pow_add]; congr 1; omega
  rw [ep] at d1 m1
  have hyn := hY.at n
  change lb Y n < _ at hyn
  have hq := hg.lt
  refine ⟨knuth_guess d1.symm m1 d2.symm m2 (Nat.two_pow_pos _) (by omega) hg.le, ?_⟩
  refine knuth_rest ?_ hq (fun t ht hle => hg.least t ht (knuth_least d1.symm m1 d2.symm hle))
  have := h.rest
  rw [pow32_succ, ← Nat.mul_assoc] at this
  exact this
theorem kn_took {V0 : Nat} {Y X X' Q : List Nat} {N i q : Nat} (h : Kn V0 Y X Q N (i + 1)) (hq : q < 4294967296) (hi : i < Q.length) (hlt : val X < (q + 1) * (2 ^ (32 * i) * val Y)) (ht : Took X Y X' q i 0) : Kn V0 Y X' (Q.set i q) N i := by
  have hv := ht.val
  rw [Nat.mul_zero, Nat.add_zero] at hv
  have e1 : 2 ^ (32 * i) * (q * val Y) = q * (2 ^ (32 * i) * val Y) := by ac_rfl
  have hs := val_set Q i q hi
  change _ + _ * lb Q i = _ at hs
  rw [h.zero i (by omega), Nat.mul_zero, Nat.add_zero] at hs
  refine ⟨ht.lim, ht.len.trans h.lenX, h.limQ.set _ _ hq, by rw [List.length_set]; exact h.lenQ, ?_, ?_, ?_⟩
  · intro j hj
    have := h.zero j (by omega)
    unfold lb at this ⊢
    rw [List.getElem?_set_ne (by omega)]
    exact this
  · rw [hs, h.sum, Nat.add_mul, ← hv]
    have e2 : 2 ^ (32 * i) * q * val Y = 2 ^ (32 * i) * (q * val Y) := by ac_rfl
    rw [e2]
    omega
  · rw [Nat.add_mul, Nat.one_mul] at hlt
    rw [Nat.mul_comm (val Y)]
    omega
theorem kn_gave {V0 : Nat} {Y X X' X'' Q : List Nat} {N i q b : Nat} (h : Kn V0 Y X Q N (i + 1)) (hY : Lim Y) (hq : q < 4294967296) (hi : i < Q.length) (hge : (q - 1) * (2 ^ (32 * i) * val Y) ≤ val X) (ht : Took X Y X' q i 1) (hg : Gave X' Y X'' i b) :
    1 ≤ q ∧ Kn V0 Y X'' (Q.set i (q - 1)) N i := by
  have hb := kn_bound h hY
  have hz : ∀ r, i + Y.length + 1 ≤ r → lb X r = 0 := fun r hr => lb_top h.limX hb hr
  have hz' : val X' < 2 ^ (32 * (i + Y.length + 1)) := val_top ht.lim (fun r hr => by rw [ht.same r (.inr (by omega))]; exact hz r hr)
  have hz'' : val X'' < 2 ^ (32 * (i + Y.length + 1)) := val_top hg.lim (fun r hr => by rw [hg.same r (.inr (by omega)), ht.same r (.inr (by omega))]; exact hz r hr)
  have hv := ht.val
  have hw := hg.val
  rw [Nat.mul_one] at hv
  have e1 : 2 ^ (32 * i) * (q * val Y) = q * (2 ^ (32 * i) * val Y) := by ac_rfl
  rw [e1] at hv
  have hq1 : 1 ≤ q := by
    rcases Nat.eq_zero_or_pos q with rfl | h0
    · exfalso
      rw [Nat.zero_mul, Nat.add_zero] at hv
      omega
    · exact h0
  obtain ⟨p, rfl⟩ : ∃ p, q = p + 1 := ⟨q - 1, by omega⟩
  rw [Nat.add_sub_cancel] at hge ⊢
  rw [Nat.add_mul, Nat.one_mul] at hv
  have hb1 : b = 1 := by
    have := hg.bor
    rcases Nat.eq_zero_or_pos b with h0 | h0
    · exfalso
      rw [h0, Nat.mul_zero, Nat.add_zero] at hw
      omega
    · omega
  rw [hb1, Nat.mul_one] at hw
  have hs := val_set Q i p hi
  change _ + _ * lb Q i = _ at hs
  rw [h.zero i (by omega), Nat.mul_zero, Nat.add_zero] at hs
  refine ⟨hq1, ⟨hg.lim, hg.len.trans (ht.len.trans h.lenX), h.limQ.set _ _ (by omega), by rw [List.length_set]; exact h.lenQ, ?_, ?_, ?_⟩⟩
  · intro j hj
    have := h.zero j (by omega)
    unfold lb at this ⊢
    rw [List.getElem?_set_ne (by omega)]
    exact this
  · rw [hs, h.sum, Nat.add_mul]
    have e2 : 2 ^ (32 * i) * p * val Y = p * (2 ^ (32 * i) * val Y) := by ac_rfl
    rw [e2]
    omega
  · rw [Nat.mul_comm (val Y)]
    omega
end Go.Proofs.YtffkedepffjobaaDoor

namespace Go.Proofs.YtffkedepffjobaaDoor
open Go.RowKit
set_option maxRecDepth 100000

/-- A quotient and a rest. -/
def AnsQR (w : World) (q r : Nat) : Ending → World → Prop := Ans w fun v w' => ∃ u1 u2, v = .tuple #[u1, u2, .int .i64 0] ∧ IsN w' u1 q ∧ IsN w' u2 r

theorem isN_small (w : World) (r : Nat) (h : r < 4294967296) (v : Value) (w1 : World) (hv : IsN w1 v (val [r])) : IsN w1 v r := by rw [val_one] at hv; exact hv

/-- Where there is nothing to divide. -/
theorem div_less (w : World) (va vb : Value) (x y : Nat) (ha : IsN w va x) (hb : IsN w vb y) (bx : bl x ≤ 10000000000) (by_ : bl y ≤ 10000000000) (hy : 0 < y) (hlt : x < y) :
    Calls Tryd.prog 50 #[va, vb] w (AnsQR w (x / y) (x % y)) := by
  rw [Nat.div_eq_of_lt hlt, Nat.mod_eq_of_lt hlt]
  have hl : ¬ (nl y = 0) := by unfold nl; have := bl_pos (show y ≠ 0 by omega); omega
  have hc : cmp3 x y = -1 := by unfold cmp3; rw [if_pos hlt]
  have HX := Lib.hid ha
  obtain ⟨A, c, rfl⟩ := ha.slice
  obtain ⟨A', c', rfl⟩ := hb.slice
  clear hy hlt
  go_enter Tryd.func50, Tryd.ntmps50
  go_wp2_with (go_at_call 44; refine (kCmp).mono ?_; rintro e w' ⟨rfl, hb⟩; rw [hc])
  go_ret3
  exact ⟨_, rfl, ⟨_, _, rfl, ⟨[], Rd.nil _ _ _ _ (fun _ => rfl), Nrm.nil, rfl⟩, HX.out.up hb⟩, hb⟩

theorem cmp3_ge {x y : Nat} (h : y ≤ x) : (0 : Int) ≤ cmp3 x y := by
  unfold cmp3
  rw [if_neg (by omega)]
  split <;> omega
/-- By one limb. -/
theorem div_one (w : World) (va vb : Value) (x y : Nat) (ha : IsN w va x) (hb : IsN w vb y) (bx : bl x ≤ 10000000000) (hy : 0 < y) (hy2 : y < 4294967296) (hge : y ≤ x) :
    Calls Tryd.prog 50 #[va, vb] w (AnsQR w (x / y) (x % y)) := by
  have hl : nl y = 1 := by
    unfold nl
    have h1 := bl_pos (show y ≠ 0 by omega)
    have h2 : bl y ≤ 32 := bl_le_iff.2 hy2
    omega
  have hc := cmp3_ge hge
  have by_ : bl y ≤ 100000000000 := by have h2 : bl y ≤ 32 := bl_le_iff.2 hy2; omega
  have HX := Lib.hid ha
  have HB := Lib.hid hb
  obtain ⟨A, c, rfl⟩ := ha.slice
  obtain ⟨lm, ⟨A', c', rfl, _, _, hr⟩, hn, he⟩ := hb
  have hl1 : lm.length = 1 := by rw [hn.len, he]; exact hl
  obtain ⟨ad, rfl, hs⟩ := hr (by omega)
  have hx := hs 0 (by omega)
  have hlm : lm[0]?.getD 0 = y := by
    obtain ⟨z, rfl⟩ : ∃ z, lm = [z] := List.length_eq_one_iff.1 hl1
    rw [val_one] at he
    simpa using he
  rw [hlm, show ad.add 0 = ad by simp [Addr.add]] at hx
  have KS : Hid (∀ X, Below w.heap.size w X → X.cell? ad = some (.int .u32 (y : Nat))) := Lib.hid fun X hX => (hX.cell (World.block_lt_of_cell? w _ hx)).trans hx
  rw [hl1] at HB ⊢
  obtain ⟨z, hz⟩ : ∃ z, z = cmp3 x y := ⟨_, rfl⟩
  have HZ := Lib.hid hz
  rw [← hz] at hc
  have HQ := Lib.hid (And.intro hy hy2)
  have hr32 : x % y < 4294967296 := by have := Nat.mod_lt x hy; omega
  clear hr hs hx hlm hn he hl hl1 hz hge hy hy2
  go_enter Tryd.func50, Tryd.ntmps50
  go_wp2_with (first
    | (go_at_call 44; refine (nat_Cmp _ _ _ x y HX.out HB.out (by omega) (by omega)).mono ?_; rintro e w' ⟨rfl, hb⟩; rw [← HZ.out]; have hx0 := KS.out w' hb)
    | (go_at_call 51; refine (div_Small _ _ x y (HX.out.up hb) (by omega) HQ.out.1 HQ.out.2).mono ?_; rintro e w' ⟨v, rfl, ⟨u, rfl, h1⟩, hb1⟩)
    | (go_at_call 54; refine (nat_Make _ _ [x % y] ((Own.lit _ 36 .u32 [x % y] _ (Nat.le_refl _) (by simp [maxLen])).rd) (Lim.cons hr32 Lim.nil) (by simp)).mono ?_; rintro e w' ⟨v2, rfl, h2, hb2⟩))
  go_ret3
  refine ⟨_, rfl, ⟨_, _, rfl, ?_, ?_⟩, ?_⟩
  · repeat (first | assumption | (apply IsN.up' (by assumption)) | (apply IsN.al'))
  · exact isN_small w _ hr32 _ _ h2
  · repeat (first | exact Below.refl _ _ | assumption | (apply up_then' (by assumption)) | (apply up_al'))
end Go.Proofs.YtffkedepffjobaaDoor

namespace Go.Proofs.YtffkedepffjobaaDoor
open Go.RowKit
set_option maxRecDepth 100000

/-- The divisor, shifted so that its first bit is 1. -/
theorem norm_top {Y : List Nat} {y n s : Nat} (hy : y ≠ 0) (hn : n = nl y) (hs : s = 32 * n - bl y) (hY : Nrm Y) (hv : val Y = y * 2 ^ s) : Y.length = n ∧ 2147483648 ≤ lb Y (n - 1) := by
  have hb := bl_pos hy
  have hl := hY.len
  rw [hv, bl_shl y s hy] at hl
  unfold nl at hn
  have h1 : Y.length = n := by omega
  refine ⟨h1, ?_⟩
  have h2 : 2 ^ (32 * n - 1) ≤ val Y := by
    rw [← lt_bl_iff, hv, bl_shl y s hy]; omega
  have h3 : val Y / 2 ^ (32 * (n - 1)) = lb Y (n - 1) := by
    rw [← val_drop hY.1, val_drop_succ, List.drop_of_length_le (by omega)]
    simp [val]
  rw [← h3, Nat.le_div_iff_mul_le (Nat.two_pow_pos _)]
  refine Nat.le_trans (Nat.le_of_eq ?_) h2
  rw [show (2147483648 : Nat) = 2 ^ 31 from rfl, ← Nat.pow_add]
  congr 1
  omega
/-- Where the division begins. -/
theorem kn_start {Y X : List Nat} {n N : Nat} (hY : Nrm Y) (hX : Lim X) (hn : Y.length = n + 1) (hy : 2147483648 ≤ lb Y n) (hN : X.length = N) (hnN : n + 1 ≤ N) (hb : val X < 2 ^ (32 * N - 1)) : Kn (val X) Y X (List.replicate (N - Y.length) 0) N (N - Y.length) := by
  refine ⟨hX, hN, Lim.rep _, by simp; omega, ?_, by simp [val_rep], ?_⟩
  · intro j _
    unfold lb
    rw [List.getElem?_replicate]
    split <;> rfl
  · have h1 : 2 ^ (32 * n) * 2147483648 ≤ val Y := by
      have h2 := lb_le hY.1 n
      have h3 := Nat.le_trans hy h2
      rw [Nat.le_div_iff_mul_le (Nat.two_pow_pos _)] at h3
      rw [Nat.mul_comm]; exact h3
    refine Nat.lt_of_lt_of_le hb ?_
    refine Nat.le_trans (Nat.le_of_eq ?_) (Nat.mul_le_mul_right _ h1)
    rw [show (2147483648 : Nat) = 2 ^ 31 from rfl, ← Nat.pow_add, ← Nat.pow_add]
    congr 1
    omega
/-- .. and ends. -/
theorem kn_end {V0 : Nat} {Y X Q : List Nat} {N : Nat} (h : Kn V0 Y X Q N 0) : val Q = V0 / val Y ∧ val X = V0 % val Y := by
  have h1 := h.rest
  rw [Nat.mul_zero, Nat.pow_zero, Nat.mul_one] at h1
  rw [h.sum, Nat.mul_comm]
  refine ⟨?_, ?_⟩
  · rw [Nat.mul_add_div (by omega), Nat.div_eq_of_lt h1, Nat.add_zero]
  · rw [Nat.mul_add_mod, Nat.mod_eq_of_lt h1]
theorem div_shifted (x y s : Nat) : x * 2 ^ s / (y * 2 ^ s) = x / y ∧ x * 2 ^ s % (y * 2 ^ s) / 2 ^ s = x % y := by
  refine ⟨Nat.mul_div_mul_right _ _ (Nat.two_pow_pos s), ?_⟩
  rw [Nat.mul_mod_mul_right, Nat.mul_div_cancel _ (Nat.two_pow_pos s)]
end Go.Proofs.YtffkedepffjobaaDoor

namespace Go.Proofs.YtffkedepffjobaaDoor
open Go.RowKit
set_option maxRecDepth 100000

/-- Where it was too much, it was something. -/
theorem kn_pos {V0 : Nat} {Y X X' Q : List Nat} {N i q : Nat} (h : Kn V0 Y X Q N (i + 1)) (hY : Lim Y) (ht : Took X Y X' q i 1) : 1 ≤ q := by
  have hb := kn_bound h hY
  have hz : ∀ r, i + Y.length + 1 ≤ r → lb X r = 0 := fun r hr => lb_top h.limX hb hr
  have hz' : val X' < 2 ^ (32 * (i + Y.length + 1)) := val_top ht.lim (fun r hr => by rw [ht.same r (.inr (by omega))]; exact hz r hr)
  have hv := ht.val
  rw [Nat.mul_one] at hv
  rcases Nat.eq_zero_or_pos q with rfl | h0
  · exfalso
    rw [Nat.zero_mul, Nat.mul_zero, Nat.add_zero] at hv
    omega
  · exact h0
theorem slice_block {gy k cy gx : Nat} (h : gy < gx) : ∀ ad n c, Value.slice (some ⟨gy, 0, none⟩) k cy = .slice (some ad) n c → ad.block ≠ gx := by
  intro ad n c e
  injection e with e1 _ _
  injection e1 with e2
  subst e2
  intro e3
  change gy = gx at e3
  omega

set_option maxHeartbeats 4000000 in
theorem div_long (w : World) (va vb : Value) (x y : Nat) (ha : IsN w va x) (hb : IsN w vb y) (bx : bl x ≤ 10000000000) (by_ : bl y ≤ 10000000000) (hy2 : 4294967296 ≤ y) (hge : y ≤ x) :
    Calls Tryd.prog 50 #[va, vb] w (AnsQR w (x / y) (x % y)) := by
  have hy0 : y ≠ 0 := by omega
  obtain ⟨n, hn⟩ : ∃ n, n = nl y := ⟨_, rfl⟩
  have hn2 : 2 ≤ n := by
    have h2 := @lt_bl_iff y 32
    have h3 : 32 < bl y := h2.2 hy2
    rw [hn]; unfold nl; omega
  have hnb : n ≤ 400000000 := by rw [hn]; unfold nl; omega
  have hxy : n ≤ nl x := by have := bl_mono hge; rw [hn]; unfold nl; omega
  obtain ⟨s, hs⟩ : ∃ s, s = 32 * n - bl y := ⟨_, rfl⟩
  have hs32 : s < 32 := by have := bl_pos hy0; rw [hs, hn]; unfold nl; omega
  have hc := cmp3_ge hge
  have HX := Lib.hid ha
  have HB := Lib.hid hb
  obtain ⟨A, c, rfl⟩ := ha.slice
  obtain ⟨lm, ⟨A', c', rfl, _, _, hr⟩, hnm, he⟩ := hb
  have hl1 : lm.length = n := by rw [hnm.len, he, hn]; rfl
  obtain ⟨ad, rfl, hsx⟩ := hr (by omega)
  obtain ⟨t, ht⟩ : ∃ t, t = lm[n - 1]?.getD 0 := ⟨_, rfl⟩
  have hx := hsx (n - 1) (by omega)
  rw [← ht] at hx
  have hbt : bl y = 32 * (n - 1) + bl t := by have := bl_last hnm (by omega); rw [he, hl1, ← ht] at this; exact this
  have ht32 : t < 4294967296 := by rw [ht]; exact hnm.1.at _
  have hst : 32 - bl t = s := by rw [hs, hbt]; omega
  have KS : Hid (∀ X, Below w.heap.size w X → X.cell? (ad.add (n - 1)) = some (.int .u32 (t : Nat))) := Lib.hid fun X hX => (hX.cell (World.block_lt_of_cell? w _ hx)).trans hx
  rw [hl1] at HB ⊢
  obtain ⟨z, hz⟩ : ∃ z, z = cmp3 x y := ⟨_, rfl⟩
  have HZ := Lib.hid hz
  rw [← hz] at hc
  have HS := Lib.hid (And.intro hn hs)
  have hlz := fun W => bits_LeadingZeros32 t W (by omega)
  rw [hst] at hlz
  have HLZ := Lib.hid hlz
  obtain ⟨m, hm⟩ : ∃ m, n = m + 2 := ⟨n - 2, by omega⟩
  subst hm
  obtain ⟨k1, hk1⟩ : ∃ r, r = m + 1 := ⟨_, rfl⟩
  rw [show m + 2 - 1 = m + 1 from rfl, ← hk1] at KS
  have HK1 := Lib.hid hk1
  have f1 : (m : Int) + 2 - 1 = (k1 : Int) := by omega
  have k1b : k1 ≤ 400000000 := by omega
  have k1l : k1 < m + 2 := by omega
  clear hk1
  clear hr hsx hx he hl1 hz hge hlz hst hbt ht hs hn hy2
  go_enter Tryd.func50, Tryd.ntmps50
  go_wp2_with (first
    | (go_at_call 44; refine (nat_Cmp _ _ _ x y HX.out HB.out (by omega) (by omega)).mono ?_; rintro e w' ⟨rfl, hb⟩; rw [← HZ.out]; have hx0 := KS.out w' hb)
    | (go_at_call 63; refine (HLZ.out _).mono ?_; rintro e w' ⟨rfl, rfl⟩)
    | fail)
  refine (nat_ShlO w' _ y s (HB.out.up hb) (by omega) (by omega)).mono ?_
  rintro e w1 ⟨vy, rfl, ⟨Y, hYo, hYn, hYv⟩, hb1⟩
  obtain ⟨hYl, hYt⟩ := norm_top hy0 HS.out.1 HS.out.2 hYn hYv
  obtain ⟨gy, cy, rfl, hgy1, hgy2, _⟩ := hYo.form (by omega)
  rw [hYl] at hYo ⊢
  have HYo := Lib.hid hYo
  have HYn := Lib.hid hYn
  have HYv := Lib.hid hYv
  have HYl := Lib.hid hYl
  have HYt := Lib.hid hYt
  clear hYo hYn hYv hYl hYt hx0
  go_wp2_with fail
  refine (nat_ShlO w1 _ x s ((HX.out.up hb).up hb1) (by omega) (by omega)).mono ?_
  rintro e w2 ⟨vx, rfl, ⟨X, hXo, hXn, hXv⟩, hb2⟩
  have hx0 : x ≠ 0 := by
    intro e
    rw [e] at hxy
    simp [nl, bl_zero] at hxy
  have hbx := bl_pos hx0
  have hXl : X.length = (bl x + s + 31) / 32 := by rw [hXn.len, hXv, bl_shl x s hx0]
  have hXl2 : nl x ≤ X.length ∧ X.length ≤ nl x + 1 := by unfold nl; omega
  have hXval : val X < 2 ^ (32 * (nl x + 1) - 1) := by
    rw [hXv, ← bl_le_iff, bl_shl x s hx0]; unfold nl; omega
  have hnx : nl x ≤ 400000000 := by unfold nl; omega
  have HXn := Lib.hid (And.intro hXn.1 (And.intro hXv (And.intro hXl2 hXval)))
  clear hXn hXv hXl hXl2 hXval hbx hx0
  go_wp2_with fail
  go_loopw [12] (fun xv wr => ∃ X' : List Nat, Own wr w1.heap.size 36 .u32 xv X' ∧ Hid (Lim X' ∧ val X' = x * 2 ^ s) ∧ nl x ≤ X'.length ∧ X'.length ≤ nl x + 1 ∧ Below w1.heap.size w1 wr) (fun xv _ => (nl x + 1) - (match xv with | .slice _ l _ => l | _ => 0))
  case atStart => exact ⟨X, hXo, Lib.hid ⟨HXn.out.1, HXn.out.2.1⟩, HXn.out.2.2.1.1, HXn.out.2.2.1.2, hb2⟩
  case round =>
    obtain ⟨X', ho, H, hl1, hl2, hB⟩ := hrel
    obtain ⟨gx, cx, rfl, hgx1, hgx2, hcx⟩ := ho.form (by omega)
    by_cases hle : X'.length ≤ nl x
    · have NX : Hid (Lim (X' ++ [0]) ∧ val (X' ++ [0]) = x * 2 ^ s) := ⟨H.out.1.snoc (by omega), by rw [val_snoc, Nat.mul_zero, Nat.add_zero]; exact H.out.2⟩
      clear hXo
      go_wp2_with (at_builtin; refine ap32 rfl _ _ rfl w1.heap.size _ X' rfl (ho.al _) ⟨wr.heap.size, 0, none⟩ 1 1 [0] rfl rfl (cell_one_new _ _ _) (by omega) (by have := hB.size; simp; omega) ?_; intro v2 w3 ho3 hg3 hb3)
      go_roundw
      case rel => exact ⟨X' ++ [0], ho3, NX, by simp; omega, by simp; omega, (hB.alloc hB.size _).trans hb3⟩
      case measure =>
        clear hg3
        obtain ⟨g3, c3, rfl, _⟩ := ho3.form (by simp)
        simp
        omega
    · obtain ⟨N, hN⟩ : ∃ N, N = X'.length := ⟨_, rfl⟩
      have hNx : N = nl x + 1 := by omega
      have hNb : N ≤ 400000001 := by omega
      obtain ⟨M, hM⟩ : ∃ M, N = M + (m + 2) := ⟨N - (m + 2), by omega⟩
      have hMi : (N : Int) - ((m : Int) + 2) = (M : Int) := by omega
      have hMb : M ≤ 400000001 := by omega
      have hgtN : ¬ (N ≤ nl x) := by omega
      clear hXo hle hl1 hl2
      rw [← hN] at ho hcx ⊢
      have HNx := Lib.hid hNx
      have HN := Lib.hid hN
      have HM := Lib.hid hM
      clear hNx hN hM
      go_wp2_with (at_make; refine mk32e rfl _ _ rfl M M (val_int (by first | omega | (rw [← hMi]; rfl))) (val_int (by first | omega | (rw [← hMi]; rfl))) (Nat.le_refl _) (by omega) w1.heap.size hB.size ?_; intro w3 hq0 hb3 hsz)
      obtain ⟨gq, hgq⟩ : ∃ gq, gq = wr.heap.size := ⟨_, rfl⟩
      rw [← hgq] at hq0 ⊢
      have hgxq : gx < gq := by omega
      have ho3 := ho.up hb3
      have HK : Hid (Kn (x * 2 ^ s) Y X' (List.replicate M 0) N M) := by
        have h1 := HNx.out
        have h2 := HM.out
        have := kn_start (n := m + 1) (N := N) HYn.out H.out.1 HYl.out HYt.out HN.out.symm (by omega) (by rw [H.out.2, ← HXn.out.2.1, h1]; exact HXn.out.2.2.2)
        rw [HYl.out, H.out.2, show N - (m + 2) = M by omega] at this
        exact this
      have hb13 : Below w1.heap.size w1 w3 := up_then hB hb3
      have hgyx : gy < gx := by omega
      clear ho hgx2 H hb3 hsz hB hMi hgtN hgq
      go_loopw [15] (fun iv wt => ∃ (i : Nat) (Z Q : List Nat), iv = .int .i64 ((i : Int) - 1) ∧ i ≤ M ∧ Own wt w1.heap.size 36 .u32 (.slice (some ⟨gx, 0, none⟩) N cx) Z ∧ Own wt w1.heap.size 36 .u32 (.slice (some ⟨gq, 0, none⟩) M M) Q ∧ Hid (Kn (x * 2 ^ s) Y Z Q N i) ∧ Below w1.heap.size w1 wt) (fun iv _ => (intOf iv + 1).toNat)
      case atStart => exact ⟨M, X', _, val_int (by omega), Nat.le_refl _, ho3, hq0, HK, hb13⟩
      case round =>
        clear ho3 hq0 HK hb13
        obtain ⟨i, Z, Q, rfl, hiM, hoZ, hoQ, HK, hB⟩ := hrel
        have hZl : N = Z.length := HK.out.lenX.symm
        have hQl : M = Q.length := by have := HK.out.lenQ; have := HYl.out; have := HM.out; omega
        have hiN : i + (m + 2) ≤ N := by have := HM.out; omega
        by_cases h0 : i = 0
        · subst h0
          have hE := kn_end HK.out
          have hD := div_shifted x y s
          rw [HYv.out, hD.1] at hE
          have HQ := Lib.hid hE.1
          have HZ := Lib.hid (show val Z / 2 ^ s = x % y by rw [hE.2]; exact hD.2)
          have hZb : bl (val Z) ≤ 100000000000 := by
            refine Nat.le_trans (bl_le_iff.2 (val_lt HK.out.limX)) ?_
            omega
          have hlQ := Lib.hid HK.out.limQ
          have hlZ := Lib.hid HK.out.limX
          have HLL := Lib.hid (And.intro hZl hQl)
          clear hE hD hiM hiN hZl hQl
          go_wp2_with fail
          refine (nat_Make wr _ Q hoQ.rd hlQ.out (by have := HLL.out; omega)).mono ?_
          rintro e wa ⟨v1, rfl, h1, hba⟩
          go_wp2_with fail
          refine (nat_Make wa _ Z (hoZ.up hba).rd hlZ.out (by have := HLL.out; omega)).mono ?_
          rintro e wb ⟨v2, rfl, h2, hbb⟩
          go_wp2_with fail
          refine (nat_Shr wb _ (val Z) s h2 hZb (by omega)).mono ?_
          rintro e wc ⟨v3, rfl, h3, hbc⟩
          go_wp2
          go_ret3
          refine ⟨_, rfl, ⟨_, _, rfl, ?_, ?_⟩, ?_⟩
          · rw [← HQ.out]; exact (h1.up hbb).up hbc
          · rw [← HZ.out]; exact h3
          · exact up_then hb (up_then hb1 (up_then hB (up_then hba (up_then hbb hbc))))
        · obtain ⟨j, rfl⟩ : ∃ j, i = j + 1 := ⟨i - 1, by omega⟩
          have ej : ((j + 1 : Nat) : Int) - 1 = (j : Int) := by omega
          rw [ej]
          obtain ⟨x2, hx2⟩ : ∃ r, r = lb Z (j + m + 2) := ⟨_, rfl⟩
          obtain ⟨x1, hx1⟩ : ∃ r, r = lb Z (j + m + 1) := ⟨_, rfl⟩
          obtain ⟨x0, hx0⟩ : ∃ r, r = lb Z (j + m) := ⟨_, rfl⟩
          obtain ⟨y1, hy1⟩ : ∃ r, r = lb Y (m + 1) := ⟨_, rfl⟩
          obtain ⟨y0, hy0⟩ : ∃ r, r = lb Y m := ⟨_, rfl⟩
          have cx2 : wr.cell? ⟨gx, j + (m + 2), none⟩ = some (.int .u32 (x2 : Nat)) := by rw [hx2]; exact hoZ.cell hZl (j + m + 2) (by omega)
          have cx1 : wr.cell? ⟨gx, j + (m + 1), none⟩ = some (.int .u32 (x1 : Nat)) := by rw [hx1]; exact hoZ.cell hZl (j + m + 1) (by omega)
          have cx0 : wr.cell? ⟨gx, j + m, none⟩ = some (.int .u32 (x0 : Nat)) := by rw [hx0]; exact hoZ.cell hZl (j + m) (by omega)
          have hyo := HYo.out.up hB
          have cy1 : wr.cell? ⟨gy, m + 1, none⟩ = some (.int .u32 (y1 : Nat)) := by rw [hy1]; exact hyo.cell HYl.out.symm (m + 1) (by have := HYl.out; omega)
          have cy0 : wr.cell? ⟨gy, m, none⟩ = some (.int .u32 (y0 : Nat)) := by rw [hy0]; exact hyo.cell HYl.out.symm m (by have := HYl.out; omega)
          have l1 : x1 < 4294967296 := by rw [hx1]; exact HK.out.limX.at _
          have l0 : x0 < 4294967296 := by rw [hx0]; exact HK.out.limX.at _
          have m1 : y1 < 4294967296 := by rw [hy1]; exact HYn.out.1.at _
          have m0 : y0 < 4294967296 := by rw [hy0]; exact HYn.out.1.at _
          have ht : x2 ≤ y1 := by rw [hx2, hy1]; exact kn_top HK.out HYn.out.1 HYl.out
          have hyt : 2147483648 ≤ y1 := by rw [hy1]; exact HYt.out
          have HG := Lib.hid (fun W => div_guess x2 x1 x0 y1 y0 W ht l1 l0 hyt m1 m0)
          have HKG := Lib.hid (fun q (hg : Guessed x2 x1 x0 y1 y0 q) => kn_guess (q := q) HK.out HYn.out.1 HYl.out HYt.out (by rw [← hx2, ← hx1, ← hx0, ← hy1, ← hy0]; exact hg))
          obtain ⟨i2, hi2⟩ : ∃ r, r = j + (m + 2) := ⟨_, rfl⟩
          obtain ⟨i1, hi1⟩ : ∃ r, r = j + (m + 1) := ⟨_, rfl⟩
          obtain ⟨i0, hi0⟩ : ∃ r, r = j + m := ⟨_, rfl⟩
          have hk1 := HK1.out
          rw [← hi2] at cx2
          rw [← hi1] at cx1
          rw [← hi0] at cx0
          rw [← hk1] at cy1
          have e2 : (j : Int) + ((m : Int) + 2) = (i2 : Int) := by omega
          have e1 : (i2 : Int) - 1 = (i1 : Int) := by omega
          have e0 : (i2 : Int) - 2 = (i0 : Int) := by omega
          have f0 : (m : Int) + 2 - 2 = (m : Int) := by omega
          have b2 : i2 < N := by omega
          have b1 : i1 < N := by omega
          have b0 : i0 < N := by omega
          have g1 : k1 < m + 2 := by omega
          have g0 : m < m + 2 := by omega
          have HI := Lib.hid (And.intro hi2 (And.intro hi1 (And.intro hi0 hk1)))
          have KC : Hid (∀ X, Below wr.heap.size wr X → X.cell? ⟨gx, i2, none⟩ = some (.int .u32 (x2 : Nat)) ∧ X.cell? ⟨gx, i1, none⟩ = some (.int .u32 (x1 : Nat)) ∧ X.cell? ⟨gx, i0, none⟩ = some (.int .u32 (x0 : Nat)) ∧ X.cell? ⟨gy, k1, none⟩ = some (.int .u32 (y1 : Nat)) ∧ X.cell? ⟨gy, m, none⟩ = some (.int .u32 (y0 : Nat))) := Lib.hid fun X hX =>
            ⟨(hX.cell (World.block_lt_of_cell? wr _ cx2)).trans cx2, (hX.cell (World.block_lt_of_cell? wr _ cx1)).trans cx1, (hX.cell (World.block_lt_of_cell? wr _ cx0)).trans cx0, (hX.cell (World.block_lt_of_cell? wr _ cy1)).trans cy1, (hX.cell (World.block_lt_of_cell? wr _ cy0)).trans cy0⟩
          clear hi2 hi1 hi0 hk1
          have HLL := Lib.hid (And.intro hZl hQl)
          have HZO := Lib.hid hoZ
          have HQO := Lib.hid hoQ
          clear hx2 hx1 hx0 hy1 hy0 l1 l0 m1 m0 ht hyt hyo hoZ hoQ ej h0 hZl hQl hiN
          have c2 : (i2 : Int) < (N : Int) := by omega
          have c1 : (i1 : Int) < (N : Int) := by omega
          have c0 : (i0 : Int) < (N : Int) := by omega
          have d1 : (k1 : Int) < (m : Int) + 2 := by omega
          have d0 : (m : Int) < (m : Int) + 2 := by omega
          have W2 : IntKind.i64.wrap (i2 : Int) = (i2 : Int) := IntWalk.i64_in _ (by omega)
          have W1 : IntKind.i64.wrap (i1 : Int) = (i1 : Int) := IntWalk.i64_in _ (by omega)
          have W0 : IntKind.i64.wrap (i0 : Int) = (i0 : Int) := IntWalk.i64_in _ (by omega)
          have V1 : IntKind.i64.wrap (k1 : Int) = (k1 : Int) := IntWalk.i64_in _ (by omega)
          have V0 : IntKind.i64.wrap (m : Int) = (m : Int) := IntWalk.i64_in _ (by omega)
          go_wp2_with fail
          go_region_held3 (fun W => W.cell? ⟨gx, i2, none⟩ = some (.int .u32 (x2 : Nat)) ∧ W.cell? ⟨gx, i1, none⟩ = some (.int .u32 (x1 : Nat)) ∧ W.cell? ⟨gx, i0, none⟩ = some (.int .u32 (x0 : Nat)) ∧ W.cell? ⟨gy, k1, none⟩ = some (.int .u32 (y1 : Nat)) ∧ W.cell? ⟨gy, m, none⟩ = some (.int .u32 (y0 : Nat)))
            (first | exact KC.out _ (Below.refl _ _).drew | exact KC.out _ (Below.refl _ _) | exact KC.out _ (up_then' hbg (Below.refl _ _).drew) | exact KC.out _ ((Below.refl _ _).drew.trans hbg))
            ((first | (go_at_call 64; refine (HG.out _).mono ?_; rintro e wg ⟨q, rfl, hg, hbg⟩) | fail))
          clear W2 W1 W0 V1 V0
          have hq32 := hg.lt
          obtain ⟨t2, ht2⟩ : ∃ r, r = i2 + 1 := ⟨_, rfl⟩
          have et2 : (i2 : Int) + 1 = (t2 : Int) := by omega
          have ht2c : t2 ≤ cx := by omega
          have hjt : j ≤ t2 := by have := HI.out; omega
          have hcj : ¬ (cx = j) := by have := HI.out; omega
          have hlen : t2 - j = Y.length + 1 := by have := HI.out; have := HYl.out; omega
          have hbw : Below wr.heap.size wr wg := (Below.refl _ _).drew.trans hbg
          have hBg : Below w1.heap.size w1 wg := up_then hB hbw
          have hZg := HZO.out.up hbw
          have hQg := HQO.out.up hbw
          have hYg := HYo.out.up hBg
          have hjY : j + Y.length + 1 ≤ N := by have := HI.out; have := HYl.out; omega
          have hT := div_take wg gx j N cx (cx - j) w1.heap.size Z Y (.slice (some ⟨gy, 0, none⟩) (m + 2) cy) q hZg HLL.out.1 hjY (by omega) HK.out.limX hYg.rd HYn.out.1 (slice_block hgyx) hq32
          rw [← hlen] at hT
          have HTT := Lib.hid hT
          have HBG := Lib.hid hBg
          have HLE := Lib.hid hlen
          have hjQ : Hid (j < Q.length) := Lib.hid (by have := HLL.out; omega)
          have hgq1 : w1.heap.size ≤ gq := by omega
          clear hT hlen hBg ht2 hYg hjY hbg hbw c2 c1 c0 d1 d0 cx2 cx1 cx0 cy1 cy0
          go_wp2_with fail
          refine HTT.out.mono ?_
          rintro e wt ⟨Z', b, rfl, hoZ', hT, hG⟩
          have hb01 : b = 0 ∨ b = 1 := by have := hT.bor; omega
          have hBt : Below w1.heap.size w1 wt := HBG.out.trans (hZg.below hG HBG.out.size)
          have hQt : Own wt w1.heap.size 36 .u32 (.slice (some ⟨gq, 0, none⟩) M M) Q := World.ownsRow.kept hQg hG (.inr (by intro e; have : gq = gx := (by injection e); omega))
          have hZl' : N = Z'.length := by rw [hT.len]; exact HLL.out.1
          have HT := Lib.hid hT
          have HG' := Lib.hid hG
          have ho1 := Lib.hid hoZ'
          have ho2 := Lib.hid hQt
          have HZl' := Lib.hid hZl'
          have HZg := Lib.hid hZg
          clear hT hG hoZ' hZl' hZg hQg HTT
          rcases hb01 with rfl | rfl
          · have hcq := hQt.cell HLL.out.2 j hjQ.out
            have hfq := hQt.froz HLL.out.2 j
            clear hQt
            go_wp2_with fail
            go_roundw
            case rel =>
              refine ⟨j, Z', Q.set j q, rfl, by omega, ?_, ?_, ?_, ?_⟩
              · exact World.ownsRow.kept ho1.out (grownBy_setC _ gq j _) (.inr (by intro e; have : gx = gq := (by injection e); omega))
              · exact ho2.out.set HLL.out.2 j q
              · exact Lib.hid (kn_took HK.out hq32 hjQ.out (HKG.out q hg).2 HT.out)
              · exact hBt.setCell (p := ⟨gq, j, none⟩) hgq1 _
            case measure => simp [intOf]
          · have hq1 := kn_pos HK.out HYn.out.1 HT.out
            obtain ⟨q', hq'⟩ : ∃ r, r = q - 1 := ⟨_, rfl⟩
            have eq' : (q : Int) - 1 = (q' : Int) := by omega
            have hq'32 : q' < 4294967296 := by omega
            have hYt := HYo.out.up hBt
            have hB' := div_back wt gx j N cx (cx - j) w1.heap.size Z' Y (.slice (some ⟨gy, 0, none⟩) (m + 2) cy) ho1.out HZl'.out (by have := HI.out; have := HYl.out; omega) (by omega) HT.out.lim hYt.rd HYn.out.1 (slice_block hgyx)
            rw [← HLE.out] at hB'
            have HBB := Lib.hid hB'
            have Hq' := Lib.hid hq'
            clear hB' hYt hQt hq'
            go_wp2_with fail
            refine HBB.out.mono ?_
            rintro e wu ⟨⟨v, rfl⟩, Z'', b, hoZ'', hGv, hG2⟩
            have hBu : Below w1.heap.size w1 wu := hBt.trans (ho1.out.below hG2 hBt.size)
            have hQu : Own wu w1.heap.size 36 .u32 (.slice (some ⟨gq, 0, none⟩) M M) Q := World.ownsRow.kept ho2.out hG2 (.inr (by intro e; have : gq = gx := (by injection e); omega))
            have HK2 := Lib.hid (kn_gave HK.out HYn.out.1 hq32 hjQ.out (HKG.out q hg).1 HT.out hGv).2
            rw [← Hq'.out] at HK2
            have ho3 := Lib.hid hoZ''
            have ho4 := Lib.hid hQu
            have hcq := hQu.cell HLL.out.2 j hjQ.out
            have hfq := hQu.froz HLL.out.2 j
            clear hQu hG2 hGv hoZ''
            go_wp2_with fail
            go_roundw
            case rel =>
              refine ⟨j, Z'', Q.set j q', rfl, by omega, ?_, ?_, HK2, ?_⟩
              · exact World.ownsRow.kept ho3.out (grownBy_setC _ gq j _) (.inr (by intro e; have : gx = gq := (by injection e); omega))
              · exact ho4.out.set HLL.out.2 j q'
              · exact hBu.setCell (p := ⟨gq, j, none⟩) hgq1 _
            case measure => simp [intOf]
end Go.Proofs.YtffkedepffjobaaDoor

namespace Go.Proofs.YtffkedepffjobaaDoor

/-! ### Roots of naturals -/

/-- r is the k-th root of a, cut. -/
def IsRt (a k r : Nat) : Prop := r ^ k ≤ a ∧ a < (r + 1) ^ k
theorem IsRt.le {a k r s : Nat} (hk : k ≠ 0) (h : IsRt a k r) (g : s ^ k ≤ a) : s ≤ r := by
  have h1 : s ^ k < (r + 1) ^ k := Nat.lt_of_le_of_lt g h.2
  have := (Nat.pow_lt_pow_iff_left hk).1 h1
  omega
theorem IsRt.iff {a k r s : Nat} (hk : k ≠ 0) (h : IsRt a k r) : s ^ k ≤ a ↔ s ≤ r :=
  ⟨h.le hk, fun g => Nat.le_trans ((Nat.pow_le_pow_iff_left hk).2 g) h.1⟩
theorem IsRt.inj {a k r s : Nat} (hk : k ≠ 0) (h : IsRt a k r) (g : IsRt a k s) : r = s :=
  Nat.le_antisymm (g.le hk h.1) (h.le hk g.1)
theorem IsRt.mk' {a k r : Nat} (h : r ^ k ≤ a) (hm : ∀ s, s ^ k ≤ a → s ≤ r) : IsRt a k r := by
  refine ⟨h, ?_⟩
  rcases Nat.lt_or_ge a ((r + 1) ^ k) with g | g
  · exact g
  · have := hm _ g; omega
def rtUp (a k : Nat) : Nat → Nat
  | 0 => 0
  | n + 1 => if (n + 1) ^ k ≤ a then n + 1 else rtUp a k n
/-- The k-th root, cut. -/
def rt (a k : Nat) : Nat := rtUp a k a
theorem rtUp_is (a k n : Nat) (hk : k ≠ 0) : (rtUp a k n) ^ k ≤ a ∧ ∀ s, s ≤ n → s ^ k ≤ a → s ≤ rtUp a k n := by
  induction n with
  | zero => exact ⟨by simp [rtUp, Nat.zero_pow (Nat.pos_of_ne_zero hk)], fun s hs _ => by omega⟩
  | succ n ih =>
    unfold rtUp
    split
    · rename_i h; exact ⟨h, fun s hs _ => hs⟩
    · rename_i h
      refine ⟨ih.1, fun s hs hle => ?_⟩
      rcases Nat.lt_or_ge n s with h1 | h1
      · have : s = n + 1 := by omega
        subst this
        exact absurd hle h
      · exact ih.2 s h1 hle
theorem rt_is {a k : Nat} (hk : k ≠ 0) : IsRt a k (rt a k) := by
  have h := rtUp_is a k a hk
  refine IsRt.mk' h.1 fun s hs => h.2 s ?_ hs
  rcases Nat.eq_zero_or_pos s with rfl | h0
  · omega
  · exact Nat.le_trans (Nat.le_trans (Nat.le_of_eq (Nat.pow_one s).symm) (Nat.pow_le_pow_right h0 (by omega))) hs
theorem rt_eq {a k r : Nat} (hk : k ≠ 0) (h : IsRt a k r) : rt a k = r := (rt_is hk).inj hk h
theorem rt_one (a : Nat) : rt a 1 = a := rt_eq (by omega) ⟨by simp, by simp⟩
theorem rt_zero {k : Nat} (hk : k ≠ 0) : rt 0 k = 0 := rt_eq hk ⟨by rw [Nat.zero_pow (by omega)]; omega, by rw [Nat.zero_add, Nat.one_pow]; omega⟩
theorem rt_big {a k : Nat} (h0 : a ≠ 0) (hk : bl a ≤ k) : rt a k = 1 := by
  have hb := bl_pos h0
  refine rt_eq (by omega) ⟨by rw [Nat.one_pow]; omega, ?_⟩
  exact bl_le_iff.1 hk
theorem rt_pow (b k : Nat) (hk : k ≠ 0) : rt (b ^ k) k = b := rt_eq hk ⟨Nat.le_refl _, (Nat.pow_lt_pow_iff_left hk).2 (by omega)⟩
theorem rt_pos {a k : Nat} (hk : k ≠ 0) (h0 : a ≠ 0) : 1 ≤ rt a k := (rt_is hk).le hk (by rw [Nat.one_pow]; omega)
theorem rt_le (a k : Nat) (hk : k ≠ 0) : rt a k ≤ a := by
  have h := (rt_is (a := a) hk).1
  rcases Nat.eq_zero_or_pos (rt a k) with h0 | h0
  · omega
  · exact Nat.le_trans (Nat.le_trans (Nat.le_of_eq (Nat.pow_one _).symm) (Nat.pow_le_pow_right h0 (by omega))) h
theorem rt_mono {a b k : Nat} (hk : k ≠ 0) (h : a ≤ b) : rt a k ≤ rt b k := (rt_is hk).le hk (Nat.le_trans (rt_is hk).1 h)
theorem rt_anti {a k m : Nat} (hk : k ≠ 0) (h : k ≤ m) : rt a m ≤ rt a k := by
  have hm : m ≠ 0 := by omega
  rcases Nat.eq_zero_or_pos (rt a m) with h0 | h0
  · omega
  · exact (rt_is hk).le hk (Nat.le_trans (Nat.pow_le_pow_right h0 h) (rt_is hm).1)
/-- The root of a root. -/
theorem rt_rt (a k m : Nat) (hk : k ≠ 0) (hm : m ≠ 0) : rt (rt a k) m = rt a (k * m) := by
  have hkm : k * m ≠ 0 := Nat.mul_ne_zero hk hm
  refine rt_eq hm (IsRt.mk' ?_ fun s hs => ?_)
  · rw [← (rt_is hk).iff hk, ← Nat.pow_mul, Nat.mul_comm m k]; exact (rt_is hkm).1
  · rw [← (rt_is hk).iff hk, ← Nat.pow_mul, Nat.mul_comm m k] at hs; exact (rt_is hkm).le hkm hs
/-- The root of what is shifted. -/
theorem rt_shl (a k n : Nat) (hk : k ≠ 0) : rt (a * 2 ^ (k * n)) k / 2 ^ n = rt a k := by
  have e : ∀ s, (s * 2 ^ n) ^ k ≤ a * 2 ^ (k * n) ↔ s ^ k ≤ a := fun s => by
    rw [Nat.mul_pow, ← Nat.pow_mul, Nat.mul_comm n k]
    exact Nat.mul_le_mul_right_iff (Nat.two_pow_pos _)
  symm
  refine rt_eq hk (IsRt.mk' ?_ fun s hs => ?_)
  · rw [← e]
    refine Nat.le_trans ?_ (rt_is hk).1
    exact (Nat.pow_le_pow_iff_left hk).2 (Nat.div_mul_le_self _ _)
  · rw [Nat.le_div_iff_mul_le (Nat.two_pow_pos _)]
    rw [← e] at hs
    exact (rt_is hk).le hk hs
theorem bl_rt (a k : Nat) (hk : k ≠ 0) : bl (rt a k) ≤ bl a := bl_mono (rt_le a k hk)

/-! ### Newton -/
theorem two_mul_le (r x : Nat) : 2 * (r * x) ≤ x * x + r * r := by
  rcases Nat.le_total r x with h | h
  · obtain ⟨d, rfl⟩ := Nat.exists_eq_add_of_le h
    have e : (r + d) * (r + d) + r * r = 2 * (r * (r + d)) + d * d := by
      simp only [Nat.mul_add, Nat.add_mul, Nat.mul_comm d r]; omega
    omega
  · obtain ⟨d, rfl⟩ := Nat.exists_eq_add_of_le h
    have e : x * x + (x + d) * (x + d) = 2 * ((x + d) * x) + d * d := by
      simp only [Nat.mul_add, Nat.add_mul, Nat.mul_comm d x]; omega
    omega
theorem young (r x k : Nat) : (k + 1) * (r * x ^ k) ≤ k * x ^ (k + 1) + r ^ (k + 1) := by
  induction k with
  | zero => simp
  | succ k ih =>
    obtain ⟨P, hP⟩ : ∃ P, P = x ^ k := ⟨_, rfl⟩
    obtain ⟨R, hR⟩ : ∃ R, R = r ^ (k + 1) := ⟨_, rfl⟩
    rw [Nat.pow_succ x (k + 1), Nat.pow_succ r (k + 1)]
    rw [Nat.pow_succ x k] at ih ⊢
    rw [← hR, ← hP] at ih ⊢
    have i1 : r * ((k + 1) * (r * P)) ≤ r * (k * (P * x) + R) := Nat.mul_le_mul_left _ ih
    have s1 : (k + 1) * P * (2 * (r * x)) ≤ (k + 1) * P * (x * x + r * r) := Nat.mul_le_mul_left _ (two_mul_le r x)
    have e1 : r * ((k + 1) * (r * P)) = k * (r * r * P) + r * r * P := by rw [Nat.add_mul, Nat.one_mul, Nat.mul_add]; congr 1 <;> ac_rfl
    have e2 : r * (k * (P * x) + R) = k * (r * x * P) + R * r := by rw [Nat.mul_add]; congr 1 <;> ac_rfl
    have e3 : (k + 1) * P * (2 * (r * x)) = 2 * (k * (r * x * P)) + 2 * (r * x * P) := by
      rw [Nat.add_mul, Nat.one_mul, Nat.add_mul]; congr 1 <;> ac_rfl
    have e4 : (k + 1) * P * (x * x + r * r) = k * (x * x * P) + x * x * P + (k * (r * r * P) + r * r * P) := by
      rw [Nat.mul_add, Nat.add_mul, Nat.one_mul, Nat.add_mul, Nat.add_mul]
      congr 1 <;> congr 1 <;> ac_rfl
    have e5 : (k + 1 + 1) * (r * (P * x)) = k * (r * x * P) + 2 * (r * x * P) := by
      rw [Nat.add_mul, Nat.add_mul, Nat.one_mul, show r * (P * x) = r * x * P by ac_rfl]; omega
    have e6 : (k + 1) * (P * x * x) = k * (x * x * P) + x * x * P := by
      rw [Nat.add_mul, Nat.one_mul, show P * x * x = x * x * P by ac_rfl]
    rw [e5, e6]
    rw [e1, e2] at i1
    rw [e3, e4] at s1
    omega
/-- One step of Newton's is not below the root. -/
theorem newton_ge {a k r x : Nat} (hx : 0 < x) (h : r ^ (k + 1) ≤ a) : r ≤ (x * k + a / x ^ k) / (k + 1) := by
  rw [Nat.le_div_iff_mul_le (by omega)]
  have hy := young r x k
  have h1 : (r * (k + 1) - x * k) * x ^ k ≤ a := by
    rw [Nat.sub_mul]
    have e1 : r * (k + 1) * x ^ k = (k + 1) * (r * x ^ k) := by ac_rfl
    have e2 : x * k * x ^ k = k * x ^ (k + 1) := by rw [Nat.pow_succ]; ac_rfl
    omega
  have h2 := (Nat.le_div_iff_mul_le (Nat.pow_pos hx)).2 h1
  omega
/-- .. and, above the root, goes down. -/
theorem newton_lt {a k x : Nat} (hx : 0 < x) (h : a < x ^ (k + 1)) : (x * k + a / x ^ k) / (k + 1) < x := by
  have h1 : a / x ^ k < x := by
    rw [Nat.div_lt_iff_lt_mul (Nat.pow_pos hx), Nat.mul_comm, ← Nat.pow_succ]; exact h
  rw [Nat.div_lt_iff_lt_mul (by omega), Nat.mul_add]
  omega
theorem newton_start {a k r : Nat} (hk : 0 < k) (h : r ^ k ≤ a) : r ≤ 2 ^ ((bl a + k - 1) / k) := by
  rcases Nat.lt_or_ge (2 ^ ((bl a + k - 1) / k)) r with g | g
  · exfalso
    have h1 : (2 ^ ((bl a + k - 1) / k)) ^ k < r ^ k := (Nat.pow_lt_pow_iff_left (by omega)).2 g
    rw [← Nat.pow_mul] at h1
    have h2 : bl a ≤ (bl a + k - 1) / k * k := by
      have := Nat.div_add_mod (bl a + k - 1) k
      have h3 := Nat.mod_lt (bl a + k - 1) hk
      rw [Nat.mul_comm]
      omega
    have h3 : 2 ^ bl a ≤ 2 ^ ((bl a + k - 1) / k * k) := Nat.pow_le_pow_right (by omega) h2
    have := bl_lt (x := a)
    omega
  · exact g
theorem bl_two_pow (n : Nat) : bl (2 ^ n) = n + 1 := by
  have := bl_shl 1 n (by omega)
  rw [Nat.one_mul] at this
  rw [this]
  have : bl 1 = 1 := rfl
  omega
theorem newton_bits {b k : Nat} (hk : 0 < k) : (b + k - 1) / k * (k - 1) + 1 ≤ b + k := by
  obtain ⟨q, hq⟩ : ∃ q, q = (b + k - 1) / k := ⟨_, rfl⟩
  have h1 : q * k ≤ b + k - 1 := by rw [hq]; exact Nat.div_mul_le_self _ _
  rw [← hq]
  obtain ⟨m, rfl⟩ : ∃ m, k = m + 1 := ⟨k - 1, by omega⟩
  rw [Nat.add_sub_cancel]
  rw [Nat.mul_add] at h1
  omega
theorem bl_newton {a k x : Nat} (hk : 0 < k) (hx : x ≤ 2 ^ ((bl a + k - 1) / k)) : bl (x ^ (k - 1)) ≤ bl a + k := by
  refine Nat.le_trans (bl_mono (Nat.pow_le_pow_left hx _)) ?_
  rw [← Nat.pow_mul, bl_two_pow]
  exact newton_bits hk
theorem bl_le_self (k : Nat) : bl k ≤ k := by
  rw [bl_le_iff]; exact Nat.lt_two_pow_self
theorem bl_newton2 {a k x : Nat} (hk : 2 < k) (hka : k < bl a) (hx : x ≤ 2 ^ ((bl a + k - 1) / k)) : bl (x * (k - 1)) ≤ bl a + k := by
  refine Nat.le_trans (bl_mul _ _) ?_
  have h1 := bl_mono hx
  rw [bl_two_pow] at h1
  have h2 := bl_le_self (k - 1)
  have h3 : (bl a + k - 1) / k ≤ bl a := by
    rw [Nat.div_le_iff_le_mul_add_pred (by omega)]
    have : bl a * 1 ≤ k * bl a := by rw [Nat.mul_comm k]; exact Nat.mul_le_mul_left _ (by omega)
    omega
  omega

/-! ### Square roots by halves -/
/-- What is told of a square root: r, and what is left. -/
def IsSq (a r rest : Nat) : Prop := a = r * r + rest ∧ rest ≤ 2 * r
theorem IsSq.rt {a r rest : Nat} (h : IsSq a r rest) : IsRt a 2 r := by
  obtain ⟨h1, h2⟩ := h
  refine ⟨by rw [Nat.pow_two]; omega, ?_⟩
  rw [Nat.pow_two, Nat.mul_add, Nat.add_mul]
  omega
theorem IsRt.sq {a r : Nat} (h : IsRt a 2 r) : IsSq a r (a - r * r) := by
  obtain ⟨h1, h2⟩ := h
  rw [Nat.pow_two] at h1 h2
  rw [Nat.mul_add, Nat.add_mul] at h2
  exact ⟨by omega, by omega⟩
theorem IsSq.inj {a r rest s t : Nat} (h : IsSq a r rest) (g : IsSq a s t) : r = s ∧ rest = t := by
  have e := h.rt.inj (by omega) g.rt
  subst e
  exact ⟨rfl, by have := h.1; have := g.1; omega⟩
theorem rt_sq (a : Nat) : IsSq a (rt a 2) (a - rt a 2 * rt a 2) := (rt_is (by omega)).sq
/-- The parts of a number of 4 m bits. -/
theorem whole_parts (a B : Nat) : a = a / (B * B) * (B * B) + (a / B - a / (B * B) * B) * B + (a - a / B * B) ∧ a / B - a / (B * B) * B < B ∧ a - a / B * B < B ∨ B = 0 := by
  rcases Nat.eq_zero_or_pos B with h | h
  · exact .inr h
  · left
    rw [← Nat.div_div_eq_div_mul]
    have d1 := Nat.div_add_mod a B
    have d2 := Nat.div_add_mod (a / B) B
    have m1 := Nat.mod_lt a h
    have m2 := Nat.mod_lt (a / B) h
    have e1 : a / B - a / B / B * B = a / B % B := by rw [Nat.mul_comm]; omega
    have e2 : a - a / B * B = a % B := by rw [Nat.mul_comm]; omega
    rw [e1, e2]
    refine ⟨?_, m2, m1⟩
    have e3 : a / B / B * (B * B) + a / B % B * B = (B * (a / B / B) + a / B % B) * B := by rw [Nat.add_mul]; congr 1; ac_rfl
    rw [e3, d2, Nat.mul_comm]
    exact d1.symm
/-- Zimmermann's step. -/
theorem whole_law {B high mid low s r q u : Nat} (hs : IsSq high s r) (hB : B ≤ 2 * s) (hmid : mid < B) (hlow : low < B) (hqu : r * B + mid = 2 * s * q + u) (hu : u < 2 * s) :
    q ≤ B ∧ (q * q ≤ u * B + low → IsSq (high * (B * B) + mid * B + low) (s * B + q) (u * B + low - q * q)) ∧
    (u * B + low < q * q → 1 ≤ s * B + q ∧ 1 ≤ u * B + low + 2 * (s * B + q) ∧ q * q ≤ u * B + low + 2 * (s * B + q) - 1 ∧ IsSq (high * (B * B) + mid * B + low) (s * B + q - 1) (u * B + low + 2 * (s * B + q) - 1 - q * q)) := by
  obtain ⟨h1, h2⟩ := hs
  have hrB : r * B ≤ 2 * s * B := Nat.mul_le_mul_right _ h2
  have hq : q ≤ B := by
    rcases Nat.lt_or_ge B q with h | h
    · exfalso
      have : 2 * s * (B + 1) ≤ 2 * s * q := Nat.mul_le_mul_left _ h
      rw [Nat.mul_add] at this
      omega
    · exact h
  have huB : u * B + B ≤ 2 * s * B := by
    have : (u + 1) * B ≤ 2 * s * B := Nat.mul_le_mul_right _ hu
    rw [Nat.add_mul] at this
    omega
  have hsum : high * (B * B) + mid * B + low = (s * B + q) * (s * B + q) - q * q + (u * B + low) ∧ q * q ≤ (s * B + q) * (s * B + q) := by
    have e1 : (s * B + q) * (s * B + q) = s * B * (s * B) + 2 * s * q * B + q * q := by
      rw [Nat.add_mul, Nat.mul_add, Nat.mul_add]
      have : s * B * q + q * (s * B) = 2 * s * q * B := by
        rw [show q * (s * B) = s * B * q by ac_rfl, show 2 * s * q * B = 2 * (s * B * q) by ac_rfl]; omega
      omega
    have e2 : high * (B * B) = s * B * (s * B) + r * B * B := by
      rw [h1, Nat.add_mul]; congr 1 <;> ac_rfl
    have e3 : (r * B + mid) * B = (2 * s * q + u) * B := by rw [hqu]
    rw [Nat.add_mul, Nat.add_mul] at e3
    rw [e1, e2]
    omega
  obtain ⟨hsum, hqq⟩ := hsum
  have hqB : q * q ≤ 2 * s * B := Nat.le_trans (Nat.mul_le_mul hq hq) (Nat.mul_le_mul_right _ hB)
  have e2 : 2 * (s * B) = 2 * s * B := by ac_rfl
  refine ⟨hq, fun h => ⟨by omega, by omega⟩, fun h => ?_⟩
  have hq1 : 1 ≤ q := by
    rcases Nat.eq_zero_or_pos q with rfl | h0
    · omega
    · exact h0
  refine ⟨by omega, by omega, by omega, ?_⟩
  obtain ⟨t, ht⟩ : ∃ t, s * B + q = t + 1 := ⟨s * B + q - 1, by omega⟩
  rw [ht] at hsum hqq ⊢
  have e3 : (t + 1) * (t + 1) = t * t + 2 * t + 1 := by rw [Nat.add_mul, Nat.mul_add]; omega
  rw [e3] at hsum hqq
  rw [Nat.add_sub_cancel]
  exact ⟨by omega, by omega⟩
/-- What was shifted by an even number of bits. -/
theorem sq_shifted {a r rest n : Nat} (h : IsSq (a * 2 ^ (2 * n)) r rest) : IsRt a 2 (r / 2 ^ n) := by
  have h1 := rt_eq (by omega) h.rt
  have := rt_shl a 2 n (by omega)
  rw [h1] at this
  rw [this]
  exact rt_is (by omega)

/-! ### Powers -/
theorem pow_mul_pow_sub' {c m j : Nat} (h : m ≤ j) : c ^ j = c ^ m * c ^ (j - m) := by rw [← Nat.pow_add]; congr 1; omega
/-- Two powers are the same: both are powers of one. -/
theorem common (n : Nat) : ∀ m j b c : Nat, m + j ≤ n → 0 < b → 0 < c → Nat.Coprime m j → b ^ m = c ^ j → ∃ y, b = y ^ j ∧ c = y ^ m := by
  induction n with
  | zero =>
    intro m j b c h _ _ hco _
    obtain rfl : m = 0 := by omega
    obtain rfl : j = 0 := by omega
    simp [Nat.Coprime] at hco
  | succ n ih =>
    intro m j b c h hb hc hco e
    rcases Nat.eq_zero_or_pos j with rfl | hj
    · have : m = 1 := by simpa [Nat.Coprime] using hco
      subst this
      simp at e
      exact ⟨c, by simp [e], by simp⟩
    · rcases Nat.eq_zero_or_pos m with rfl | hm
      · have : j = 1 := by simpa [Nat.Coprime] using hco
        subst this
        simp at e
        exact ⟨b, by simp, by simp [e]⟩
      · rcases Nat.le_total m j with hmj | hmj
        · have hd : c ^ m ∣ b ^ m := ⟨c ^ (j - m), by rw [e]; exact pow_mul_pow_sub' hmj⟩
          obtain ⟨d, rfl⟩ := (Nat.pow_dvd_pow_iff (by omega)).1 hd
          have hd0 : 0 < d := Nat.pos_of_mul_pos_left hb
          rw [Nat.mul_pow, pow_mul_pow_sub' hmj] at e
          have e' := Nat.eq_of_mul_eq_mul_left (Nat.pow_pos hc) e
          obtain ⟨y, h1, h2⟩ := ih m (j - m) d c (by omega) hd0 hc (by
            unfold Nat.Coprime at hco ⊢
            rw [Nat.gcd_sub_self_right hmj]; exact hco) e'
          refine ⟨y, ?_, h2⟩
          rw [pow_mul_pow_sub' hmj, ← h2, ← h1]
        · have hd : b ^ j ∣ c ^ j := ⟨b ^ (m - j), by rw [← e]; exact pow_mul_pow_sub' hmj⟩
          obtain ⟨d, rfl⟩ := (Nat.pow_dvd_pow_iff (by omega)).1 hd
          have hd0 : 0 < d := Nat.pos_of_mul_pos_left hc
          rw [Nat.mul_pow, pow_mul_pow_sub' hmj] at e
          have e' := Nat.eq_of_mul_eq_mul_left (Nat.pow_pos hb) e
          obtain ⟨y, h1, h2⟩ := ih (m - j) j b d (by omega) hb hd0 (by
            unfold Nat.Coprime at hco ⊢
            rw [Nat.gcd_sub_self_left hmj]; exact hco) e'
          refine ⟨y, h1, ?_⟩
          rw [pow_mul_pow_sub' hmj, ← h1, ← h2]
/-- No power of anything. -/
def Plain (b : Nat) : Prop := 2 ≤ b ∧ ∀ c j, 2 ≤ j → c ^ j ≠ b
theorem Plain.dvd {b m c j : Nat} (h : Plain b) (hm : 0 < m) (hj : 0 < j) (e : b ^ m = c ^ j) : j ∣ m ∧ c = b ^ (m / j) := by
  have hc : 0 < c := by
    rcases Nat.eq_zero_or_pos c with rfl | h0
    · rw [Nat.zero_pow hj] at e
      have : 0 < b ^ m := Nat.pow_pos (by have := h.1; omega)
      omega
    · exact h0
  have hg : 0 < Nat.gcd m j := Nat.gcd_pos_of_pos_left _ hm
  obtain ⟨m', hm'⟩ := Nat.gcd_dvd_left m j
  obtain ⟨j', hj'⟩ := Nat.gcd_dvd_right m j
  have hco : Nat.Coprime m' j' := by
    have := Nat.coprime_div_gcd_div_gcd hg
    have q1 : m / Nat.gcd m j = m' := by
      conv => lhs; lhs; rw [hm']
      exact Nat.mul_div_cancel_left _ hg
    have q2 : j / Nat.gcd m j = j' := by
      conv => lhs; lhs; rw [hj']
      exact Nat.mul_div_cancel_left _ hg
    rwa [q1, q2] at this
  have e' : b ^ m' = c ^ j' := by
    have e2 : (b ^ m') ^ Nat.gcd m j = (c ^ j') ^ Nat.gcd m j := by
      rw [← Nat.pow_mul, ← Nat.pow_mul, Nat.mul_comm m', Nat.mul_comm j', ← hm', ← hj']; exact e
    exact (Nat.pow_left_inj (by omega)).1 e2
  obtain ⟨y, h1, h2⟩ := common _ m' j' b c (Nat.le_refl _) (by have := h.1; omega) hc hco e'
  have hj1 : j' = 1 := by
    have hj0 : j' ≠ 0 := by intro e0; rw [e0, Nat.mul_zero] at hj'; omega
    rcases Nat.lt_or_ge j' 2 with g | g
    · omega
    · exact absurd h1.symm (h.2 y j' g)
  rw [hj1, Nat.mul_one] at hj'
  rw [hj1, Nat.pow_one] at h1
  refine ⟨by rw [hj']; exact Nat.gcd_dvd_left _ _, ?_⟩
  rw [h2, h1]
  congr 1
  have : m / j = m' := by
    conv => lhs; lhs; rw [hm', ← hj']
    exact Nat.mul_div_cancel_left _ hj
  exact this.symm
theorem Plain.inj {b c m j : Nat} (h : Plain b) (g : Plain c) (hm : 0 < m) (hj : 0 < j) (e : b ^ m = c ^ j) : b = c ∧ m = j := by
  obtain ⟨h1, h2⟩ := h.dvd hm hj e
  obtain ⟨g1, g2⟩ := g.dvd hj hm e.symm
  have e1 : m = j := Nat.dvd_antisymm g1 h1
  subst e1
  rw [Nat.div_self hm, Nat.pow_one] at h2
  exact ⟨h2.symm, rfl⟩
/-- Is a number a k-th power? -/
theorem is_pow_iff {b m k : Nat} (h : Plain b) (hm : 0 < m) (hk : 0 < k) : (rt (b ^ m) k) ^ k = b ^ m ↔ k ∣ m := by
  constructor
  · intro e; exact (h.dvd hm hk e.symm).1
  · rintro ⟨q, rfl⟩
    rw [Nat.mul_comm, Nat.pow_mul, rt_pow _ _ (by omega)]
/-- Every natural above 1 is a power of a plain one. -/
theorem plain_exists (n : Nat) : ∀ a, a ≤ n → 2 ≤ a → ∃ b m, Plain b ∧ 0 < m ∧ b ^ m = a := by
  induction n with
  | zero => intro a h1 h2; omega
  | succ n ih =>
    intro a h1 h2
    by_cases h : ∃ c j, 2 ≤ j ∧ c ^ j = a
    · obtain ⟨c, j, hj, rfl⟩ := h
      have hc : 2 ≤ c := by
        rcases Nat.lt_or_ge c 2 with g | g
        · have : c = 0 ∨ c = 1 := by omega
          rcases this with rfl | rfl
          · rw [Nat.zero_pow (by omega)] at h2; omega
          · rw [Nat.one_pow] at h2; omega
        · exact g
      have hlt : c < c ^ j := by
        calc c = c ^ 1 := (Nat.pow_one c).symm
          _ < c ^ j := Nat.pow_lt_pow_right (by omega) (by omega)
      obtain ⟨b, m, hb, hm, rfl⟩ := ih c (by omega) hc
      exact ⟨b, m * j, hb, Nat.mul_pos hm (by omega), by rw [Nat.pow_mul]⟩
    · exact ⟨a, 1, ⟨h2, fun c j hj e => h ⟨c, j, hj, e⟩⟩, by omega, by simp⟩
theorem pow_bits {b m : Nat} (hb : 2 ≤ b) : m < bl (b ^ m) := by
  rw [lt_bl_iff]; exact Nat.pow_le_pow_left hb _
end Go.Proofs.YtffkedepffjobaaDoor

