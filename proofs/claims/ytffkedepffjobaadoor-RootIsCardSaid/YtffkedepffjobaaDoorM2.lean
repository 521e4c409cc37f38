/- The contracts of mul.Karatsuba and of Toom's helpers. By an AI agent. -/
import Derived.Test.YtffkedepffjobaaDoorM1
namespace Go.Proofs.YtffkedepffjobaaDoor
open Go.RowKit
set_option maxRecDepth 100000

theorem IsN.drN {w : World} {v n} (h : IsN w v n) (k : Nat) : IsN (w.drewN k) v n := h.up (up_drewN (Below.refl _ _) k)
theorem IsN.drN' {w : World} {v n} {k : Nat} (h : IsN w v n) : IsN (w.drewN k) v n := h.drN k
theorem IsN.up' {w w1 : World} {v n} (hb : Below w.heap.size w w1) (h : IsN w v n) : IsN w1 v n := h.up hb
theorem IsN.al' {w : World} {o : Obj} {v n} (h : IsN w v n) : IsN (w.alloc o) v n := h.al o

/-! ### The contracts, their premises found -/
section
variable {w : World} {va vb : Value} {x y : Nat}
theorem kAdd (ha : IsN w va x := by repeat (first | assumption | (apply IsN.up' (by assumption)) | (apply IsN.al') | (apply IsN.dr) | (apply IsN.drN')))
    (hb : IsN w vb y := by repeat (first | assumption | (apply IsN.up' (by assumption)) | (apply IsN.al') | (apply IsN.dr) | (apply IsN.drN')))
    (bx : bl x ≤ 100000000000 := by first | assumption | omega) (by_ : bl y ≤ 100000000000 := by first | assumption | omega) : Calls Tryd.prog 52 #[va, vb] w (AnsN w (x + y)) := nat_Add w va vb x y ha hb bx by_
theorem kLess (ha : IsN w va x := by repeat (first | assumption | (apply IsN.up' (by assumption)) | (apply IsN.al') | (apply IsN.dr) | (apply IsN.drN')))
    (hb : IsN w vb y := by repeat (first | assumption | (apply IsN.up' (by assumption)) | (apply IsN.al') | (apply IsN.dr) | (apply IsN.drN')))
    (bx : bl x ≤ 100000000000 := by first | assumption | omega) (by_ : bl y ≤ 100000000000 := by first | assumption | omega) : Calls Tryd.prog 78 #[va, vb] w (AnsN w (x - y)) := mul_less w va vb x y ha hb bx by_
theorem kSub (ha : IsN w va x := by repeat (first | assumption | (apply IsN.up' (by assumption)) | (apply IsN.al') | (apply IsN.dr) | (apply IsN.drN')))
    (hb : IsN w vb y := by repeat (first | assumption | (apply IsN.up' (by assumption)) | (apply IsN.al') | (apply IsN.dr) | (apply IsN.drN')))
    (bx : bl x ≤ 100000000000 := by first | assumption | omega) (by_ : bl y ≤ 100000000000 := by first | assumption | omega) : Calls Tryd.prog 57 #[va, vb] w (AnsSub w x y) := nat_Sub w va vb x y ha hb bx by_
theorem kSchool (ha : IsN w va x := by repeat (first | assumption | (apply IsN.up' (by assumption)) | (apply IsN.al') | (apply IsN.dr) | (apply IsN.drN')))
    (hb : IsN w vb y := by repeat (first | assumption | (apply IsN.up' (by assumption)) | (apply IsN.al') | (apply IsN.dr) | (apply IsN.drN')))
    (bx : bl x ≤ 100000000000 := by first | assumption | omega) (by_ : bl y ≤ 100000000000 := by first | assumption | omega) : Calls Tryd.prog 61 #[va, vb] w (AnsN w (x * y)) := mul_School w va vb x y ha hb bx by_
theorem kCmp (ha : IsN w va x := by repeat (first | assumption | (apply IsN.up' (by assumption)) | (apply IsN.al') | (apply IsN.dr) | (apply IsN.drN')))
    (hb : IsN w vb y := by repeat (first | assumption | (apply IsN.up' (by assumption)) | (apply IsN.al') | (apply IsN.dr) | (apply IsN.drN')))
    (bx : bl x ≤ 1000000000000 := by first | assumption | omega) (by_ : bl y ≤ 1000000000000 := by first | assumption | omega) : Calls Tryd.prog 44 #[va, vb] w fun e w' => e = .returned (.int .i64 (cmp3 x y)) ∧ Below w.heap.size w w' := nat_Cmp w va vb x y ha hb bx by_
theorem kShl {i : Int} {n : Nat} (hi : i = (n : Nat)) (ha : IsN w va x := by repeat (first | assumption | (apply IsN.up' (by assumption)) | (apply IsN.al') | (apply IsN.dr) | (apply IsN.drN')))
    (bx : bl x ≤ 100000000000 := by first | assumption | omega) (hn : n ≤ 100000000000 := by first | assumption | omega) : Calls Tryd.prog 40 #[va, .int .i64 i] w (AnsN w (x * 2 ^ n)) := by
  subst hi
  exact nat_Shl w va x n ha bx hn
theorem kShr {i : Int} {n : Nat} (hi : i = (n : Nat)) (ha : IsN w va x := by repeat (first | assumption | (apply IsN.up' (by assumption)) | (apply IsN.al') | (apply IsN.dr) | (apply IsN.drN')))
    (bx : bl x ≤ 100000000000 := by first | assumption | omega) (hn : n ≤ 100000000000 := by first | assumption | omega) : Calls Tryd.prog 41 #[va, .int .i64 i] w (AnsN w (x / 2 ^ n)) := by
  subst hi
  exact nat_Shr w va x n ha bx hn
theorem kPart {i j : Int} {f t : Nat} (hi : i = (f : Nat)) (hj : j = (t : Nat)) (hft : f ≤ t) (ha : IsN w va x := by repeat (first | assumption | (apply IsN.up' (by assumption)) | (apply IsN.al') | (apply IsN.dr) | (apply IsN.drN')))
    (bx : bl x ≤ 100000000000 := by first | assumption | omega) (ht : t ≤ 100000000000 := by first | assumption | omega) : Calls Tryd.prog 73 #[va, .int .i64 i, .int .i64 j] w (AnsN w (x / 2 ^ (32 * f) % 2 ^ (32 * (t - f)))) := by
  subst hi
  subst hj
  exact mul_part w va x f t ha bx hft ht
theorem kBits (ha : IsN w va x := by repeat (first | assumption | (apply IsN.up' (by assumption)) | (apply IsN.al') | (apply IsN.dr) | (apply IsN.drN')))
    (bx : bl x ≤ 1000000000000 := by first | assumption | omega) : Calls Tryd.prog 38 #[va] w fun e w' => e = .returned (.int .i64 (bl x)) ∧ w = w' := nat_Bits w va x ha bx
theorem kLow (ha : IsN w va x := by repeat (first | assumption | (apply IsN.up' (by assumption)) | (apply IsN.al') | (apply IsN.dr) | (apply IsN.drN'))) :
    Calls Tryd.prog 35 #[va] w fun e w' => e = .returned (.tuple #[.int .u64 ((if x < 18446744073709551616 then x else 0 : Nat) : Int), .bool (decide (x < 18446744073709551616))]) ∧ w = w' := nat_Low w va x ha
end

/-- How many limbs. -/
def nl (x : Nat) : Nat := (bl x + 31) / 32
theorem IsN.slice {w : World} {v : Value} {x : Nat} (h : IsN w v x) : ∃ A c, v = .slice A (nl x) c := by
  obtain ⟨l, ⟨A, c, rfl, _⟩, hn, rfl⟩ := h
  exact ⟨A, c, by rw [hn.len]; rfl⟩
theorem nl_le {x n : Nat} : nl x ≤ n ↔ x < 2 ^ (32 * n) := by
  rw [← bl_le_iff]; unfold nl; omega

/-- Three halves. -/
theorem kar_math (x y B : Nat) (_hB : 0 < B) : x % B * (y % B) + ((x % B + x / B) * (y % B + y / B) - (x % B * (y % B) + x / B * (y / B))) * B + x / B * (y / B) * (B * B) = x * y := by
  have hx := Nat.mod_add_div x B
  have hy := Nat.mod_add_div y B
  generalize x % B = x0 at *
  generalize x / B = x1 at *
  generalize y % B = y0 at *
  generalize y / B = y1 at *
  have e : (x0 + x1) * (y0 + y1) - (x0 * y0 + x1 * y1) = x0 * y1 + x1 * y0 := by
    rw [Nat.add_mul, Nat.mul_add, Nat.mul_add]; omega
  rw [e, ← hx, ← hy]
  rw [Nat.add_mul (x0 * y1), Nat.add_mul x0, Nat.mul_add x0, Nat.mul_add (B * x1)]
  have e1 : x1 * y1 * (B * B) = B * x1 * (B * y1) := by ac_rfl
  have e2 : x0 * y1 * B = x0 * (B * y1) := by ac_rfl
  have e3 : x1 * y0 * B = B * x1 * y0 := by ac_rfl
  rw [e1, e2, e3]
  omega

theorem part_lo {w : World} {va : Value} {x k B : Nat} (ha : IsN w va x) (bx : bl x ≤ 100000000000) (hk : k ≤ 100000000000) (hB : B = 2 ^ (32 * k)) :
    Calls Tryd.prog 73 #[va, .int .i64 0, .int .i64 k] w (AnsN w (x % B)) := by
  have h := mul_part w va x 0 k ha bx (by omega) hk
  simp only [Nat.mul_zero, Nat.pow_zero, Nat.div_one, Nat.sub_zero] at h
  rw [hB]
  exact h
theorem part_hi {w : World} {va : Value} {x k n B : Nat} (ha : IsN w va x) (bx : bl x ≤ 100000000000) (hn : n ≤ 100000000000) (hk : k ≤ n) (hx : nl x ≤ n) (hB : B = 2 ^ (32 * k)) :
    Calls Tryd.prog 73 #[va, .int .i64 k, .int .i64 n] w (AnsN w (x / B)) := by
  have h := mul_part w va x k n ha bx hk hn
  have e : x / 2 ^ (32 * k) < 2 ^ (32 * (n - k)) := by
    rw [Nat.div_lt_iff_lt_mul (Nat.two_pow_pos _), ← Nat.pow_add, show 32 * (n - k) + 32 * k = 32 * n by omega]
    exact nl_le.1 hx
  rw [Nat.mod_eq_of_lt e] at h
  rw [hB]
  exact h

theorem kPartLo {w : World} {va : Value} {x k B : Nat} (hB : B = 2 ^ (32 * k)) (ha : IsN w va x := by repeat (first | assumption | (apply IsN.up' (by assumption)) | (apply IsN.al') | (apply IsN.dr) | (apply IsN.drN')))
    (bx : bl x ≤ 100000000000 := by first | assumption | omega) (hk : k ≤ 100000000000 := by first | assumption | omega) :
    Calls Tryd.prog 73 #[va, .int .i64 0, .int .i64 k] w (AnsN w (x % B)) := part_lo ha bx hk hB
theorem kPartHi {w : World} {va : Value} {x k n B : Nat} (hB : B = 2 ^ (32 * k)) (ha : IsN w va x := by repeat (first | assumption | (apply IsN.up' (by assumption)) | (apply IsN.al') | (apply IsN.dr) | (apply IsN.drN')))
    (bx : bl x ≤ 100000000000 := by first | assumption | omega) (hn : n ≤ 100000000000 := by first | assumption | omega) (hk : k ≤ n := by first | assumption | omega) (hx : nl x ≤ n := by first | assumption | omega) :
    Calls Tryd.prog 73 #[va, .int .i64 k, .int .i64 n] w (AnsN w (x / B)) := part_hi ha bx hn hk hx hB

/-- What a product of at most m limbs each tells. -/
def KarTo (m : Nat) : Prop := ∀ (w : World) (va vb : Value) (x y : Nat), IsN w va x → IsN w vb y → nl x ≤ m → nl y ≤ m → Calls Tryd.prog 60 #[va, vb] w (AnsN w (x * y))
theorem kKar {m : Nat} (hm : KarTo m) {w : World} {va vb : Value} {x y : Nat} (ha : IsN w va x := by repeat (first | assumption | (apply IsN.up' (by assumption)) | (apply IsN.al') | (apply IsN.dr) | (apply IsN.drN')))
    (hb : IsN w vb y := by repeat (first | assumption | (apply IsN.up' (by assumption)) | (apply IsN.al') | (apply IsN.dr) | (apply IsN.drN')))
    (hx : nl x ≤ m := by first | assumption | omega) (hy : nl y ≤ m := by first | assumption | omega) : Calls Tryd.prog 60 #[va, vb] w (AnsN w (x * y)) := hm w va vb x y ha hb hx hy

set_option maxHeartbeats 1000000 in
theorem mul_Karatsuba (m : Nat) (hm : m ≤ 100000000) : KarTo m := by
  induction m using Nat.strongRecOn with
  | _ m ih =>
    intro w va vb x y ha hb hx hy
    have bx : bl x ≤ 100000000000 := by unfold nl at hx; omega
    have by_ : bl y ≤ 100000000000 := by unfold nl at hy; omega
    obtain ⟨A, c, rfl⟩ := ha.slice
    obtain ⟨A', c', rfl⟩ := hb.slice
    by_cases h4 : min (nl x) (nl y) < 4
    · have h4' : min (nl x : Int) (nl y : Int) < 4 := by omega
      clear ih
      go_enter Tryd.func60, Tryd.ntmps60
      go_wp2_with (go_at_call 61; refine (kSchool).mono ?_; rintro e w' ⟨v, rfl, h, hb⟩)
      go_ret
      exact ⟨_, rfl, h, hb⟩
    · have h4' : ¬ (min (nl x : Int) (nl y : Int) < 4) := by omega
      obtain ⟨n, hn⟩ : ∃ n, n = max (nl x) (nl y) := ⟨_, rfl⟩
      obtain ⟨k, hk⟩ : ∃ k, k = (n + 1) / 2 := ⟨_, rfl⟩
      have hmx : max (nl x : Int) (nl y : Int) = (n : Int) := by omega
      have hki : ((n : Int) + 1) / 2 = (k : Int) := by omega
      have hkn : k ≤ n := by omega
      have hnx : nl x ≤ n := by omega
      have hny : nl y ≤ n := by omega
      have hnb : n ≤ 100000000 := by omega
      obtain ⟨B, hB⟩ : ∃ B, B = 2 ^ (32 * k) := ⟨_, rfl⟩
      have hBp : 0 < B := by rw [hB]; exact Nat.two_pow_pos _
      have HK := Lib.hid (ih (k + 1) (by omega) (by omega))
      have HM := Lib.hid (kar_math x y B hBp)
      have HB := Lib.hid hB
      have f1 : bl (x % B) ≤ 32 * k := bl_le_iff.2 (by rw [← hB]; exact Nat.mod_lt _ hBp)
      have f2 : bl (x / B) ≤ 32 * k := by rw [hB, bl_shr]; unfold nl at hn; omega
      have f3 : bl (y % B) ≤ 32 * k := bl_le_iff.2 (by rw [← hB]; exact Nat.mod_lt _ hBp)
      have f4 : bl (y / B) ≤ 32 * k := by rw [hB, bl_shr]; unfold nl at hn; omega
      have f5 := bl_add (x % B) (x / B)
      have f6 := bl_add (y % B) (y / B)
      have f7 := bl_mul (x % B) (y % B)
      have f8 := bl_mul (x / B) (y / B)
      have f9 := bl_mul (x % B + x / B) (y % B + y / B)
      have f10 := bl_add (x % B * (y % B)) (x / B * (y / B))
      have f11 := bl_sub ((x % B + x / B) * (y % B + y / B)) (x % B * (y % B) + x / B * (y / B))
      have f12 := bl_shl_le ((x % B + x / B) * (y % B + y / B) - (x % B * (y % B) + x / B * (y / B))) (32 * k)
      have f13 := bl_shl_le (x / B * (y / B)) (64 * k)
      have f14 := bl_add (((x % B + x / B) * (y % B + y / B) - (x % B * (y % B) + x / B * (y / B))) * 2 ^ (32 * k)) (x / B * (y / B) * 2 ^ (64 * k))
      have n1 : nl (x % B) ≤ k + 1 := by unfold nl; omega
      have n2 : nl (x / B) ≤ k + 1 := by unfold nl; omega
      have n3 : nl (y % B) ≤ k + 1 := by unfold nl; omega
      have n4 : nl (y / B) ≤ k + 1 := by unfold nl; omega
      have n5 : nl (x % B + x / B) ≤ k + 1 := by unfold nl; omega
      have n6 : nl (y % B + y / B) ≤ k + 1 := by unfold nl; omega
      clear ih hn hk hB hx hy h4
      go_enter Tryd.func60, Tryd.ntmps60
      go_wp2_with (first
        | (go_at_call 73; (first | (with_reducible refine (kPartLo HB.out).mono ?_) | (with_reducible refine (kPartHi HB.out).mono ?_)); rintro e w' ⟨v, rfl, h, hb⟩)
        | (go_at_call 60; refine (kKar HK.out).mono ?_; rintro e w' ⟨v, rfl, h, hb⟩)
        | (go_at_call 52; refine (kAdd).mono ?_; rintro e w' ⟨v, rfl, h, hb⟩)
        | (go_at_call 78; refine (kLess).mono ?_; rintro e w' ⟨v, rfl, h, hb⟩)
        | (go_at_call 40; (first | refine (kShl (n := 32 * k) (by omega)).mono ?_ | refine (kShl (n := 64 * k) (by omega)).mono ?_); rintro e w' ⟨v, rfl, h, hb⟩))
      go_ret
      refine ⟨_, rfl, ?_, ?_⟩
      · have e : 2 ^ (64 * k) = B * B := by rw [HB.out, ← Nat.pow_add]; congr 1; omega
        have e2 := HB.out
        clear HB
        subst e2
        rw [← HM.out]
        rw [e] at h
        rw [Nat.add_assoc]
        exact h
      · repeat (first | exact Below.refl _ _ | assumption | refine up_then ?_ (by assumption))

end Go.Proofs.YtffkedepffjobaaDoor

namespace Go.Proofs.YtffkedepffjobaaDoor
open Go.RowKit
set_option maxRecDepth 100000

/-- Divided by a limb from above: p limbs are left. -/
structure Dv (l out : List Nat) (m p r : Nat) : Prop where
  lim : Lim out
  len : out.length = l.length
  rest : r < m
  zero : ∀ j, j < p → lb out j = 0
  val : val out * m + 2 ^ (32 * p) * r + val (l.take p) = val l
theorem dv_start (l : List Nat) (m : Nat) (hm : 0 < m) : Dv l (List.replicate l.length 0) m l.length 0 := by
  refine ⟨Lim.rep _, by simp, hm, ?_, by simp [val_rep]⟩
  intro j _
  unfold lb
  rw [List.getElem?_replicate]
  split <;> rfl
theorem dv_step {l out : List Nat} {m p r : Nat} (h : Dv l out m (p + 1) r) (hp : p < l.length) (hl : Lim l) (hm : m ≤ 4294967296) :
    Dv l (out.set p ((r * 4294967296 + lb l p) / m)) m p ((r * 4294967296 + lb l p) % m) ∧ (r * 4294967296 + lb l p) / m < 4294967296 := by
  have h1 := hl.at p
  change lb l p < _ at h1
  have h2 := h.rest
  have hq : (r * 4294967296 + lb l p) / m < 4294967296 := by
    rw [Nat.div_lt_iff_lt_mul (by omega)]
    have : (r + 1) * 4294967296 ≤ m * 4294967296 := Nat.mul_le_mul_right _ h2
    omega
  refine ⟨⟨h.lim.set _ _ hq, by rw [List.length_set]; exact h.len, Nat.mod_lt _ (by omega), ?_, ?_⟩, hq⟩
  · intro j hj
    have := h.zero j (by omega)
    unfold lb at this ⊢
    rw [List.getElem?_set_ne (by omega)]
    exact this
  · have hs := val_set out p ((r * 4294967296 + lb l p) / m) (by rw [h.len]; omega)
    change _ + _ * lb out p = _ at hs
    rw [h.zero p (by omega), Nat.mul_zero, Nat.add_zero] at hs
    have hv := h.val
    rw [take_lb l p, pow32_succ] at hv
    rw [hs, Nat.add_mul]
    generalize 2 ^ (32 * p) = P at *
    have e : P * ((r * 4294967296 + lb l p) / m) * m + P * ((r * 4294967296 + lb l p) % m) = P * 4294967296 * r + P * lb l p := by
      rw [Nat.mul_assoc, ← Nat.mul_add, Nat.mul_comm _ m, Nat.div_add_mod, Nat.mul_add, Nat.mul_comm r, Nat.mul_assoc]
    omega
theorem dv_end {l out : List Nat} {m r : Nat} (h : Dv l out m 0 r) : Go.Proofs.YtffkedepffjobaaDoor.val out = Go.Proofs.YtffkedepffjobaaDoor.val l / m ∧ r = Go.Proofs.YtffkedepffjobaaDoor.val l % m := by
  have hv := h.val
  simp only [Nat.mul_zero, Nat.pow_zero, Nat.one_mul, List.take_zero, val_nil, Nat.add_zero] at hv
  have hr := h.rest
  rw [← hv, Nat.mul_comm, Nat.mul_add_div (by omega), Nat.div_eq_of_lt hr, Nat.mul_add_mod, Nat.mod_eq_of_lt hr]
  exact ⟨by omega, rfl⟩
theorem or_hi (r x : Nat) (hr : r < 4294967296) (hx : x < 4294967296) : bits .or .u64 ((r : Int) * 4294967296) (x : Int) = ((r * 4294967296 + x : Nat) : Int) := by
  have e : (r : Int) * 4294967296 = ((r * 4294967296 : Nat) : Int) := by omega
  rw [e, or64 _ _ (by omega) (by omega), Nat.or_comm, show r * 4294967296 = r * 2 ^ 32 from rfl, or_add _ _ _ hx, Nat.add_comm]

theorem mul_third (w : World) (va : Value) (x : Nat) (ha : IsN w va x) (bx : bl x ≤ 100000000000) :
    Calls Tryd.prog 79 #[va] w (AnsN w (x / 3)) := by
  obtain ⟨l, hR, hl, rfl⟩ := ha
  have hll : l.length ≤ 4000000000 := by have := hl.len; omega
  have HL := Lib.hid hl.1
  clear bx hl
  obtain ⟨A, c, rfl, hc1, hz1, hr1⟩ := hR
  have HR1 := Lib.hid hr1
  clear hr1 hz1
  go_enter Tryd.func79, Tryd.ntmps79
  go_wp2_with (at_make; refine mk32e rfl _ _ rfl l.length l.length (val_int (by omega)) (val_int (by omega)) (Nat.le_refl _) (by omega) w.heap.size (Nat.le_refl _) ?_; intro w1 ho hb1 hsz)
  go_loopw [4, 5] (fun rv iv wr => ∃ (p r : Nat) (out : List Nat), p ≤ l.length ∧ iv = .int .i64 ((p : Int) - 1) ∧ rv = .int .u64 r ∧ Own wr w.heap.size 36 .u32 (.slice (some ⟨w.heap.size, 0, none⟩) l.length l.length) out ∧ Hid (Dv l out 3 p r) ∧ Below w.heap.size w wr) (fun _ iv _ => (intOf iv + 1).toNat)
  case atStart => exact ⟨l.length, 0, _, Nat.le_refl _, val_int (by first | rfl | omega | (simp [IntKind.wrap, IntKind.bits, IntKind.signed]; omega)), rfl, ho, Lib.hid (dv_start l 3 (by omega)), hb1⟩
  case round =>
    clear ho hb1
    obtain ⟨p, r, out, hp, rfl, rfl, ho, HS, hB⟩ := hrel
    have hol := HS.out.len
    have hr3 := HS.out.rest
    by_cases h0 : p = 0
    · subst h0
      have HE := Lib.hid (dv_end HS.out).1
      have hlo := HS.out.lim
      go_wp2_with (go_at_call 54; refine (nat_Make _ _ _ (hol ▸ ho.rd) hlo (by omega)).mono ?_; rintro e w3 ⟨v3, rfl, h3, hb3⟩)
      go_ret
      exact ⟨_, rfl, by rw [← HE.out]; exact h3, up_then hB hb3⟩
    · obtain ⟨q, rfl⟩ : ∃ q, p = q + 1 := ⟨p - 1, by omega⟩
      obtain ⟨ad, rfl, hs⟩ := HR1.out (by omega)
      obtain ⟨y, hye⟩ : ∃ y, y = lb l q := ⟨_, rfl⟩
      have hy2 : wr.cell? (ad.add q) = some (.int .u32 (y : Nat)) := by
        rw [hye]
        have hy := hs q (by omega)
        exact (hB.cell (World.block_lt_of_cell? w _ hy)).trans hy
      have hy32 : y < 4294967296 := by rw [hye]; exact HL.out.at q
      have hof := ho.froz hol.symm q
      have ho2 := ho.cell hol.symm q (by omega)
      have hor := or_hi r y (by omega) hy32
      have NX := Lib.hid (dv_step HS.out hp HL.out (by omega))
      rw [← hye] at NX
      obtain ⟨t, ht⟩ : ∃ t, t = r * 4294967296 + y := ⟨_, rfl⟩
      rw [← ht] at hor NX
      have HO := Lib.hid (ho.set hol.symm q (t / 3))
      have ht3 : t < 12884901888 := by omega
      have hq32 : ((t : Int) / 3) % 4294967296 = ((t / 3 : Nat) : Int) := by omega
      have hm3 : (t : Int) % 3 = ((t % 3 : Nat) : Int) := by omega
      have ei : ((q + 1 : Nat) : Int) - 1 = (q : Int) := by omega
      rw [ei]
      clear hye hs ho hol ht ei h0
      go_wp2
      go_roundw
      case rel => exact ⟨q, t % 3, _, by omega, rfl, rfl, HO.out, Lib.hid NX.out.1, hB.setCell (p := ⟨w.heap.size, q, none⟩) (Nat.le_refl _) _⟩
      case measure => simp [intOf]
end Go.Proofs.YtffkedepffjobaaDoor

namespace Go.Proofs.YtffkedepffjobaaDoor
open Go.RowKit
set_option maxRecDepth 100000

theorem up_then' {w w1 w2 : World} (k : Below w1.heap.size w1 w2) (h : Below w.heap.size w w1) : Below w.heap.size w w2 := up_then h k
theorem up_al' {w w1 : World} {o : Obj} (h : Below w.heap.size w w1) : Below w.heap.size w (w1.alloc o) := up_alloc h o
theorem up_drN' {w w1 : World} {n : Nat} (h : Below w.heap.size w w1) : Below w.heap.size w (w1.drewN n) := up_drewN h n
theorem results_tmp4 {fn : Func} {t u v x : Tmp} (h : fn.results = #[.tmp t, .tmp u, .tmp v, .tmp x]) (tmps : Array Value) (P : Program) (w : World) :
    (results fn tmps).run P w = .ok (.tuple #[tmps.getD t undef, tmps.getD u undef, tmps.getD v undef, tmps.getD x undef]) w := by
  simp [results, h]
/-- An answer of two: a natural, and a mark. -/
theorem mul_apart (w : World) (va vb : Value) (x y : Nat) (ha : IsN w va x) (hb : IsN w vb y) (bx : bl x ≤ 100000000000) (by_ : bl y ≤ 100000000000) :
    Calls Tryd.prog 90 #[va, vb] w (Ans w fun v w' => ∃ u, v = .tuple #[u, .bool (decide (x < y))] ∧ IsN w' u (x - y + (y - x))) := by
  by_cases hxy : y ≤ x
  · have e1 : decide (y ≤ x) = true := decide_eq_true hxy
    have e2 : decide (x < y) = false := decide_eq_false (by omega)
    have e3 : x - y + (y - x) = x - y := by omega
    rw [e2, e3]
    clear hxy e2 e3
    go_enter Tryd.func90, Tryd.ntmps90
    go_wp2_with (go_at_call 57; refine (kSub).mono ?_; rintro e w' ⟨v, rfl, ⟨u, rfl, h⟩, hb⟩)
    go_ret2
    exact ⟨_, rfl, ⟨_, rfl, h⟩, hb⟩
  · have e1 : decide (y ≤ x) = false := decide_eq_false hxy
    have e2 : decide (x < y) = true := decide_eq_true (by omega)
    have e3 : x - y + (y - x) = y - x := by omega
    rw [e2, e3]
    clear hxy e2 e3
    go_enter Tryd.func90, Tryd.ntmps90
    go_wp2_with (first | (go_at_call 57; refine (kSub).mono ?_; rintro e w' ⟨v, rfl, ⟨u, rfl, h⟩, hb⟩) | (go_at_call 78; refine (kLess).mono ?_; rintro e w' ⟨v, rfl, h, hb⟩))
    go_ret2
    exact ⟨_, rfl, ⟨_, rfl, h⟩, by repeat (first | exact Below.refl _ _ | assumption | refine up_then ?_ (by assumption))⟩

theorem kApart {w : World} {va vb : Value} {x y : Nat} (ha : IsN w va x := by repeat (first | assumption | (apply IsN.up' (by assumption)) | (apply IsN.al') | (apply IsN.dr) | (apply IsN.drN')))
    (hb : IsN w vb y := by repeat (first | assumption | (apply IsN.up' (by assumption)) | (apply IsN.al') | (apply IsN.dr) | (apply IsN.drN')))
    (bx : bl x ≤ 100000000000 := by first | assumption | omega) (by_ : bl y ≤ 100000000000 := by first | assumption | omega) : Calls Tryd.prog 90 #[va, vb] w (Ans w fun v w' => ∃ u, v = .tuple #[u, .bool (decide (x < y))] ∧ IsN w' u (x - y + (y - x))) := mul_apart w va vb x y ha hb bx by_

theorem mul_points (w : World) (v0 v1 v2 : Value) (x y z : Nat) (h0 : IsN w v0 x) (h1 : IsN w v1 y) (h2 : IsN w v2 z) (bx : bl x ≤ 10000000000) (by_ : bl y ≤ 10000000000) (bz : bl z ≤ 10000000000) :
    Calls Tryd.prog 77 #[.agg #[v0, v1, v2]] w (Ans w fun v w' => ∃ u0 u1 u2, v = .tuple #[u0, u1, u2, .bool (decide (x + z < y))] ∧ IsN w' u0 (x + z + y) ∧ IsN w' u1 (x + z - y + (y - (x + z))) ∧ IsN w' u2 (x + (y * 2 ^ 1 + z * 2 ^ 2))) := by
  have f1 := bl_add x z
  have f2 := bl_shl_le y 1
  have f3 := bl_shl_le z 2
  have f4 := bl_add (y * 2 ^ 1) (z * 2 ^ 2)
  have KS : Hid (∀ X, Below (w.alloc (.cells #[v0, v1, v2] 86)).heap.size (w.alloc (.cells #[v0, v1, v2] 86)) X → X.cell? ⟨w.heap.size, 0, none⟩ = some v0 ∧ X.cell? ⟨w.heap.size, 1, none⟩ = some v1 ∧ X.cell? ⟨w.heap.size, 2, none⟩ = some v2) := Lib.hid fun X hX => by
    refine ⟨(hX.cell (by simp)).trans ?_, (hX.cell (by simp)).trans ?_, (hX.cell (by simp)).trans ?_⟩ <;> (unfold World.cell?; rw [heap_alloc_new]; rfl)
  have hB0 : Below w.heap.size w (w.alloc (.cells #[v0, v1, v2] 86)) := up_alloc (Below.refl _ _) _
  go_enter Tryd.func77, Tryd.ntmps77
  go_wp2_with (first
        | (go_at_call 52; refine (kAdd).mono ?_; rintro e w' ⟨v, rfl, h, hb⟩; obtain ⟨c0, c1, c2⟩ := KS.out w' (by repeat (first | exact Below.refl _ _ | assumption | (apply up_then' (by assumption)) | (apply Below.drew))))
        | (go_at_call 90; refine (kApart).mono ?_; rintro e w' ⟨v, rfl, ⟨u, rfl, h⟩, hb⟩; obtain ⟨c0, c1, c2⟩ := KS.out w' (by repeat (first | exact Below.refl _ _ | assumption | (apply up_then' (by assumption)) | (apply Below.drew)))))
  go_region_held3 (fun w' => w'.cell? ⟨w.heap.size, 0, none⟩ = some v0 ∧ w'.cell? ⟨w.heap.size, 1, none⟩ = some v1 ∧ w'.cell? ⟨w.heap.size, 2, none⟩ = some v2) (first | exact KS.out _ (by repeat (first | exact Below.refl _ _ | assumption | (apply up_then' (by assumption)) | (apply Below.drew) | (apply up_al') | (apply up_drN')))) (first
        | (go_at_call 52; refine (kAdd).mono ?_; rintro e w' ⟨v, rfl, h, hb⟩)
        | (go_at_call 40; (first | with_reducible refine (kShl (n := 1) (by omega)).mono ?_ | with_reducible refine (kShl (n := 2) (by omega)).mono ?_); rintro e w' ⟨v, rfl, h, hb⟩)
        | fail)
  go_wp2
  (try simp only [Exit.inBlock, Exit.then])
  refine bodyPost_ret (results_tmp4 rfl _ _ _) rfl ?_
  refine ⟨_, rfl, ⟨_, _, _, rfl, ?_, ?_, ?_⟩, ?_⟩
  · repeat (first | assumption | (apply IsN.up' (by assumption)) | (apply IsN.dr))
  · repeat (first | assumption | (apply IsN.up' (by assumption)) | (apply IsN.dr))
  · assumption
  · repeat (first | exact Below.refl _ _ | assumption | (apply up_then' (by assumption)) | (apply Below.drew) | (apply up_al') | (apply up_drN'))
end Go.Proofs.YtffkedepffjobaaDoor

namespace Go.Proofs.YtffkedepffjobaaDoor
open Go.RowKit
set_option maxRecDepth 100000

theorem bld_arr {P : Program} {t e : TypeId} {n : Nat} {z : Value} {s : Nat} (h1 : (P.info? t).map (fun i => i.zero) = some (some z)) (h2 : P.underlying t = some (.array n e)) (h3 : (P.info? e).map (fun i => i.size) = some s) (parts : List (Nat × Value)) :
    P.built t parts = Instr.fill (fun i => some (i * s, s)) z.cells parts := by
  obtain ⟨i, hi, hz⟩ : ∃ i, P.info? t = some i ∧ i.zero = some z := by
    cases h : P.info? t with
    | none => rw [h] at h1; cases h1
    | some i => rw [h] at h1; exact ⟨i, rfl, by simpa using h1⟩
  obtain ⟨k, hk, hs⟩ : ∃ i, P.info? e = some i ∧ i.size = s := by
    cases h : P.info? e with
    | none => rw [h] at h3; cases h3
    | some i => rw [h] at h3; exact ⟨i, rfl, by simpa using h3⟩
  unfold Program.built
  simp [hi, h2, hz, hk, hs]
theorem inf3 : (Tryd.prog.info? 86).map (fun i => i.zero) = some (some (.agg #[.slice none 0 0, .slice none 0 0, .slice none 0 0])) := by kernel_rfl
theorem infs : (Tryd.prog.info? 22).map (fun i => i.size) = some 1 := by kernel_rfl
theorem build3 (A B C : Option Addr) (l m n c d e : Nat) (w : World) : (Instr.build 86 #[(0, .slice A l c), (1, .slice B m d), (2, .slice C n e)]).run Tryd.prog w = .ok (.agg #[.slice A l c, .slice B m d, .slice C n e]) w := run_build w _ _ _ (by
  rw [bld_arr inf3 Tryd.underlying86 infs]
  rfl)
theorem IsN.setN {w : World} {p u v n} (h : IsN w v n) (hp : ∀ x : Int, w.cell? p ≠ some (.int .u32 x)) : IsN (w.setCell p u) v n := by
  obtain ⟨l, ⟨A, c, e, hc, hz, hr⟩, k⟩ := h
  refine ⟨l, ⟨A, c, e, hc, hz, fun h0 => ?_⟩, k⟩
  obtain ⟨ad, e, hr⟩ := hr h0
  refine ⟨ad, e, fun j hj => ?_⟩
  rw [World.cell?_setCell_other]
  · exact hr j hj
  · intro e
    exact hp _ (by rw [e]; exact hr j hj)
theorem cellNe (w : World) (g i j : Nat) (v : Value) (h : i ≠ j) : (w.setCell ⟨g, i, none⟩ v).cell? ⟨g, j, none⟩ = w.cell? ⟨g, j, none⟩ := by
  rw [World.cell?_setCell_other]
  intro e
  injection e with _ e2 _
  exact h e2
theorem IsN.set3 {w : World} {g : Nat} {v n a b c} (h : IsN w v n) (h0 : w.cell? ⟨g, 0, none⟩ = some (.slice none 0 0)) (h1 : w.cell? ⟨g, 1, none⟩ = some (.slice none 0 0)) (h2 : w.cell? ⟨g, 2, none⟩ = some (.slice none 0 0)) :
    IsN (((w.setCell ⟨g, 0, none⟩ a).setCell ⟨g, 1, none⟩ b).setCell ⟨g, 2, none⟩ c) v n := by
  refine ((h.setN ?_).setN ?_).setN ?_
  · intro x; rw [h0]; simp
  · intro x; rw [cellNe _ _ _ _ _ (by omega), h1]; simp
  · intro x; rw [cellNe _ _ _ _ _ (by omega), cellNe _ _ _ _ _ (by omega), h2]; simp
theorem up_set' {w w1 : World} {g j : Nat} {v : Value} (hg : w.heap.size ≤ g) (h : Below w.heap.size w w1) : Below w.heap.size w (w1.setCell ⟨g, j, none⟩ v) := h.setCell (p := ⟨g, j, none⟩) hg v
/-- Thirds of a natural. -/
def Tri (w : World) (v : Value) (a b c : Nat) : Prop := ∃ u0 u1 u2, v = .agg #[u0, u1, u2] ∧ IsN w u0 a ∧ IsN w u1 b ∧ IsN w u2 c

attribute [local go_sem] build3 in
theorem toom_cut (w : World) (va : Value) (x k n B : Nat) (hk : k = (n + 2) / 3) (hn : 7 ≤ n) (hnb : n ≤ 100000000) (hB : B = 2 ^ (32 * k)) (hx : nl x ≤ n) (ha : IsN w va x) (K M : Addr)
    (ck : w.cell? K = some (.int .i64 k)) (cn : w.cell? M = some (.int .i64 n)) :
    Calls Tryd.prog 76 #[va, .pointer (some K), .pointer (some M)] w (Ans w fun v w' => Tri w' v (x % B) (x / B % B) (x / B / B)) := by
  have bx : bl x ≤ 100000000000 := by unfold nl at hx; omega
  have HB := Lib.hid (show x / 2 ^ (32 * 0) % 2 ^ (32 * (k - 0)) = x % B ∧ x / 2 ^ (32 * k) % 2 ^ (32 * (2 * k - k)) = x / B % B ∧ x / 2 ^ (32 * (2 * k)) % 2 ^ (32 * (n - 2 * k)) = x / B / B by
    subst hB
    refine ⟨by simp, by rw [show 2 * k - k = k by omega], ?_⟩
    have e : x / 2 ^ (32 * (2 * k)) < 2 ^ (32 * (n - 2 * k)) := by
      rw [Nat.div_lt_iff_lt_mul (Nat.two_pow_pos _), ← Nat.pow_add, show 32 * (n - 2 * k) + 32 * (2 * k) = 32 * n by omega]
      exact nl_le.1 hx
    rw [Nat.mod_eq_of_lt e, Nat.div_div_eq_div_mul, ← Nat.pow_add]
    congr 2; omega)
  have HK := Lib.hid ck
  have HN := Lib.hid cn
  have hK1 := World.block_lt_of_cell? w _ ck
  have hN1 := World.block_lt_of_cell? w _ cn
  obtain ⟨W, hW⟩ : ∃ W, W = w.alloc (.cells #[.slice none 0 0, .slice none 0 0, .slice none 0 0] 86) := ⟨_, rfl⟩
  have hBW : Below w.heap.size w W := by rw [hW]; exact up_alloc (Below.refl _ _) _
  have KS : Hid (∀ X, Below W.heap.size W X → X.cell? K = some (.int .i64 k) ∧ X.cell? M = some (.int .i64 n) ∧ X.cell? ⟨w.heap.size, 0, none⟩ = some (.slice none 0 0) ∧ X.frozen? ⟨w.heap.size, 0, none⟩ = false ∧ X.cell? ⟨w.heap.size, 1, none⟩ = some (.slice none 0 0) ∧ X.frozen? ⟨w.heap.size, 1, none⟩ = false ∧ X.cell? ⟨w.heap.size, 2, none⟩ = some (.slice none 0 0) ∧ X.frozen? ⟨w.heap.size, 2, none⟩ = false) := Lib.hid fun X hX => by
    have hw : Below w.heap.size w X := up_then hBW hX
    refine ⟨(hw.cell hK1).trans ck, (hw.cell hN1).trans cn, ?_⟩
    have hh : X.heap[w.heap.size]? = some (.cells #[.slice none 0 0, .slice none 0 0, .slice none 0 0] 86) := (hX.block _ (by rw [hW]; simp)).trans (by rw [hW]; exact heap_alloc_new _ _)
    unfold World.cell? World.frozen?
    simp only []
    rw [hh]
    exact ⟨rfl, rfl, rfl, rfl, rfl, rfl⟩
  have KT : Hid (∀ X, Below w.heap.size w X → X.cell? K = some (.int .i64 k) ∧ X.cell? M = some (.int .i64 n)) := Lib.hid fun X hX => ⟨(hX.cell hK1).trans ck, (hX.cell hN1).trans cn⟩
  have hWs : W.heap.size = w.heap.size + 1 := by rw [hW]; simp
  have HW := Lib.hid hW
  have h2k : 2 * k ≤ n := by omega
  have hkn : k ≤ n := by omega
  clear hk hB hx hn ck cn hK1 hN1 hW HK HN
  go_enter Tryd.func76, Tryd.ntmps76
  go_wp2_with fail
  rw [← HW.out]
  clear HW
  go_region_held3 (fun w' => w'.cell? K = some (.int .i64 k) ∧ w'.cell? M = some (.int .i64 n)) (first | exact KT.out _ (by repeat (first | exact Below.refl _ _ | assumption | (apply up_then' (by assumption)) | (apply Below.drew) | (apply up_al') | (apply up_drN') | (apply up_set' (Nat.le_refl _)))))
    (first
        | (go_at_call 73; (first | with_reducible refine (kPart (f := 0) (t := k) (by omega) (by omega) (by omega)).mono ?_ | with_reducible refine (kPart (f := k) (t := 2 * k) (by omega) (by rw [IntWalk.i64_in _ (by omega)]; omega) (by omega)).mono ?_ | with_reducible refine (kPart (f := 2 * k) (t := n) (by rw [IntWalk.i64_in _ (by omega)]; omega) (by omega) (by omega)).mono ?_); rintro e w' ⟨v, rfl, h, hb⟩; (first | rw [HB.out.1] at h | rw [HB.out.2.1] at h | rw [HB.out.2.2] at h); obtain ⟨A, c, rfl⟩ := h.slice; obtain ⟨_, _, c0, f0, c1, f1, c2, f2⟩ := KS.out w' (by repeat (first | exact Below.refl _ _ | assumption | (apply up_then' (by assumption)) | (apply Below.drew))))
        | fail)
  go_wp2
  (try simp only [Exit.inBlock, Exit.then])
  refine bodyPost_ret (v := .agg #[_, _, _]) (by simp [results, Tryd.results76, go_sem, c0, c1, c2]; exact ⟨rfl, rfl, rfl⟩) rfl ?_
  refine ⟨_, rfl, ⟨_, _, _, rfl, ?_, ?_, ?_⟩, ?_⟩
  · refine IsN.set3 ?_ c0 c1 c2
    repeat (first | assumption | (apply IsN.up' (by assumption)))
  · refine IsN.set3 ?_ c0 c1 c2
    repeat (first | assumption | (apply IsN.up' (by assumption)))
  · refine IsN.set3 ?_ c0 c1 c2
    assumption
  · repeat (first | exact Below.refl _ _ | assumption | (apply up_then' (by assumption)) | (apply Below.drew) | (apply up_al') | (apply up_drN') | (apply up_set' (Nat.le_refl _)))
end Go.Proofs.YtffkedepffjobaaDoor

