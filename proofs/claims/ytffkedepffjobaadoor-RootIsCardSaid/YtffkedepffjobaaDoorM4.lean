/- The contracts of mul.Mul and mul.Pow (products of at most 3008 bits), and of iterators backwards. By an AI agent. -/
import Derived.Test.YtffkedepffjobaaDoorM3
import Derived.Great.BuildSlice
import Derived.Deep.RegionHeld3
set_option linter.unusedVariables false
set_option linter.unusedSimpArgs false
namespace Go.Proofs.YtffkedepffjobaaDoor
open Go.RowKit
set_option maxRecDepth 100000

/-- What Fast tells. -/
def FastTo (m : Nat) : Prop := ∀ (w : World) (va vb : Value) (x y : Nat), IsN w va x → IsN w vb y → nl x ≤ m → nl y ≤ m → Calls Tryd.prog 58 #[va, vb] w (AnsN w (x * y))
/-- Products of so many bits are made rightly. -/
def Ok (b : Nat) : Prop := b ≤ 3008 ∨ FastTo 100000000
theorem Ok.le {b c : Nat} (h : Ok b) (k : c ≤ b) : Ok c := by
  rcases h with h | h
  · exact .inl (by omega)
  · exact .inr h

theorem bld_st {P : Program} {t : TypeId} {fields : Array Field} {z : Value} {places : List (Nat × Nat)} (h1 : (P.info? t).map (fun i => i.zero) = some (some z)) (h2 : P.underlying t = some (.struct fields)) (h3 : fields.toList.mapM (fun f => (P.info? f.type).map fun i => (f.offset, i.size)) = some places) (parts : List (Nat × Value)) :
    P.built t parts = Instr.fill (places.toArray[·]?) z.cells parts := by
  obtain ⟨i, hi, hz⟩ : ∃ i, P.info? t = some i ∧ i.zero = some z := by
    cases h : P.info? t with
    | none => rw [h] at h1; cases h1
    | some i => rw [h] at h1; exact ⟨i, rfl, by simpa using h1⟩
  unfold Program.built
  simp only [hi, h2, hz, h3]
theorem infw : (Tryd.prog.info? 69).map (fun i => i.zero) = some (some (.agg #[.int .i64 0, .nilFunc])) := by kernel_rfl
theorem plw : ((Tryd.prog.underlying 69).bind fun | .struct fs => fs.toList.mapM (fun f => (Tryd.prog.info? f.type).map fun i => (f.offset, i.size)) | _ => none) = some [(0, 1), (1, 1)] := by kernel_rfl
theorem build_way (n : Int) (f : Nat) (w : World) : (Instr.build 69 #[(0, .int .i64 n), (1, .func (.func f) #[] #[])]).run Tryd.prog w = .ok (.agg #[.int .i64 n, .func (.func f) #[] #[]]) w := run_build w _ _ _ (by
  rw [bld_st infw Tryd.underlying69 plw]
  rfl)

theorem both_long {x y : Nat} (k : Nat) (hx : 32 * k < bl x) (hy : 32 * k < bl y) : 64 * k < bl (x * y) := by
  rw [lt_bl_iff] at hx hy ⊢
  rw [show 64 * k = 32 * k + 32 * k by omega, Nat.pow_add]
  exact Nat.mul_le_mul hx hy
set_option maxHeartbeats 1000000 in
attribute [local go_sem] build_way in
theorem mul_Mul (w : World) (va vb : Value) (x y : Nat) (ha : IsN w va x) (hb : IsN w vb y) (bx : bl x ≤ 1000000000) (by_ : bl y ≤ 1000000000) (hF : Ok (bl (x * y))) :
    Calls Tryd.prog 43 #[va, vb] w (AnsN w (x * y)) := by
  have hx : nl x ≤ 100000000 := by unfold nl; omega
  have hy : nl y ≤ 100000000 := by unfold nl; omega
  have HX := Lib.hid ha
  have HY := Lib.hid hb
  obtain ⟨A, c, rfl⟩ := ha.slice
  obtain ⟨A', c', rfl⟩ := hb.slice
  obtain ⟨m, hm⟩ : ∃ m, m = min (nl x) (nl y) := ⟨_, rfl⟩
  have hmi : min (nl x : Int) (nl y : Int) = (m : Int) := by omega
  have h48 : 48 ≤ m → FastTo 100000000 := by
    intro h
    rcases hF with h1 | h1
    · exfalso
      unfold nl at hm
      have h6 := both_long (x := x) (y := y) 47 (by omega) (by omega)
      omega
    · exact h1
  have KT := Lib.hid (mul_Toom 100000000 (by omega))
  have KK := Lib.hid (mul_Karatsuba 100000000 (by omega))
  have K48 := Lib.hid h48
  have hb1 : bl x ≤ 100000000000 := by omega
  have hb2 : bl y ≤ 100000000000 := by omega
  clear h48 hF bx by_ hm
  have hc : m < 8 ∨ (8 ≤ m ∧ m < 14) ∨ (14 ≤ m ∧ m < 48) ∨ 48 ≤ m := by omega
  rcases hc with h | ⟨h, h'⟩ | ⟨h, h'⟩ | h
  all_goals
    go_enter Tryd.func43, Tryd.ntmps43
    go_wp2_with fail
    refine wp_loop_rounds 4 ?_
    repeat any_goals (rw [rounds_succ]; go_wp2_with (first
      | (go_at_call 58; refine (K48.out (by omega) _ _ _ x y (by repeat (first | assumption | (apply IsN.al'))) (by repeat (first | assumption | (apply IsN.al'))) hx hy).mono ?_; rintro e w' ⟨v, rfl, h, hb⟩)
      | (go_at_call 59; refine (kToom KT.out).mono ?_; rintro e w' ⟨v, rfl, h, hb⟩)
      | (go_at_call 60; refine (kKar KK.out).mono ?_; rintro e w' ⟨v, rfl, h, hb⟩)
      | (go_at_call 61; refine (kSchool).mono ?_; rintro e w' ⟨v, rfl, h, hb⟩)))
    go_ret
    exact ⟨_, rfl, h, by repeat (first | exact Below.refl _ _ | assumption | (apply up_then' (by assumption)) | (apply up_al'))⟩

theorem and1 (n : Nat) (h : n < 4611686018427387904) : bits .and .i64 (n : Int) 1 = ((n % 2 : Nat) : Int) := by
  have := (bits_nat .i64 62 (by decide) (fun n h0 h1 => by simp [IntKind.wrap, IntKind.bits, IntKind.signed] at *; omega) n 1 (by simpa using h) (by decide)).1
  rw [Nat.and_one_is_mod] at this
  exact this
theorem pow_half (b n : Nat) : (b * b) ^ (n / 2) * b ^ (n % 2) = b ^ n := by
  rw [← Nat.pow_two, ← Nat.pow_mul, ← Nat.pow_add, Nat.div_add_mod]
theorem le_pow' (b n : Nat) (h : 1 ≤ n) (hb : 1 ≤ b) : b ≤ b ^ n := by
  conv => lhs; rw [← Nat.pow_one b]
  exact Nat.pow_le_pow_right hb h
theorem pow_out (o b n T : Nat) (h : o * b ^ n = T) (hn : 1 ≤ n) : o * b ≤ T := by
  rcases Nat.eq_zero_or_pos b with rfl | hb
  · simp
  · rw [← h]; exact Nat.mul_le_mul_left _ (le_pow' b n hn hb)
theorem pow_sq (o b n T : Nat) (h : o * b ^ n = T) (ho : 1 ≤ o) (hn : 2 ≤ n) : b * b ≤ T := by
  rcases Nat.eq_zero_or_pos b with rfl | hb
  · simp
  · rw [← h, ← Nat.pow_two]
    exact Nat.le_trans (Nat.pow_le_pow_right hb hn) (Nat.le_mul_of_pos_left _ ho)
end Go.Proofs.YtffkedepffjobaaDoor

namespace Go.Proofs.YtffkedepffjobaaDoor
open Go.RowKit
set_option maxRecDepth 100000

theorem kMul {w : World} {va vb : Value} {x y : Nat} (hF : Ok (bl (x * y))) (ha : IsN w va x := by repeat (first | assumption | (apply IsN.up' (by assumption)) | (apply IsN.al') | (apply IsN.dr) | (apply IsN.drN')))
    (hb : IsN w vb y := by repeat (first | assumption | (apply IsN.up' (by assumption)) | (apply IsN.al') | (apply IsN.dr) | (apply IsN.drN')))
    (bx : bl x ≤ 1000000000 := by first | assumption | omega) (by_ : bl y ≤ 1000000000 := by first | assumption | omega) : Calls Tryd.prog 43 #[va, vb] w (AnsN w (x * y)) := mul_Mul w va vb x y ha hb bx by_ hF

set_option maxHeartbeats 1000000 in
theorem mul_Pow (w : World) (va : Value) (x n : Nat) (ha : IsN w va x) (hb : bl (x ^ n) ≤ 1000000000) (hx : bl x ≤ 1000000000) (hn : n ≤ 1000000000) (hF : Ok (bl (x ^ n))) :
    Calls Tryd.prog 48 #[va, .int .i64 n] w (AnsN w (x ^ n)) := by
  obtain ⟨T, hT⟩ : ∃ T, T = x ^ n := ⟨_, rfl⟩
  rw [← hT] at hb hF
  rw [← hT]
  have HT := Lib.hid hT
  clear hT
  go_enter Tryd.func48, Tryd.ntmps48
  go_wp2_with fail
  go_loopw [0, 1, 5] (fun av nv ov wr => ∃ (b m o : Nat), nv = .int .i64 m ∧ m ≤ n ∧ IsN wr av b ∧ IsN wr ov o ∧ Hid (o * b ^ m = T ∧ (b = 0 ∨ 1 ≤ o)) ∧ bl b ≤ 1000000000 ∧ bl o ≤ 1000000000 ∧ Below w.heap.size w wr) (fun _ nv _ _ => (intOf nv).toNat)
  case atStart =>
    refine ⟨x, n, 1, rfl, Nat.le_refl _, ha.al _, ?_, Lib.hid ⟨?_, .inr (by omega)⟩, hx, by decide, up_alloc (Below.refl _ _) _⟩
    · exact ⟨[1], (Own.lit w 36 .u32 [1] _ (Nat.le_refl _) (by simp [maxLen])).rd, ⟨Lim.cons (by omega) Lim.nil, .inr (by simp)⟩, rfl⟩
    · rw [Nat.one_mul]; exact HT.out.symm
  case round =>
    obtain ⟨b, m, o, rfl, hm, hbv, hov, H, hbb, hob, hB⟩ := hrel
    by_cases h0 : m = 0
    · subst h0
      have e : o = T := by have := H.out.1; simpa using this
      rw [e] at hov
      go_wp2
      go_ret
      exact ⟨_, rfl, hov, hB⟩
    · have hand := and1 m (by omega)
      have hob1 : o * b ≤ T := pow_out o b m T H.out.1 (by omega)
      have hF1 := hF.le (bl_mono hob1)
      have hl1 := bl_of_le hb hob1
      have HH := Lib.hid (pow_half b m)
      by_cases h1 : m = 1
      · subst h1
        have NX : Hid (o * b * b ^ 0 = T ∧ (b = 0 ∨ 1 ≤ o * b)) := Lib.hid ⟨by have := H.out.1; simpa using this, by
          rcases Nat.eq_zero_or_pos b with h | h
          · exact .inl h
          · rcases H.out.2 with h2 | h2
            · exact .inl h2
            · exact .inr (Nat.mul_pos h2 h)⟩
        clear hob1
        go_wp2_with (go_at_call 43; refine (kMul hF1).mono ?_; rintro e w' ⟨v, rfl, h, hb⟩)
        go_roundw
        case rel => exact ⟨b, 0, o * b, rfl, by omega, hbv.up hb, h, NX, hbb, hl1, up_then hB hb⟩
        case measure => simp [intOf]
      · have hsq : b * b ≤ T := by
          rcases H.out.2 with h2 | h2
          · rw [h2]; omega
          · exact pow_sq o b m T H.out.1 h2 (by omega)
        have hF2 := hF.le (bl_mono hsq)
        have hl2 := bl_of_le hb hsq
        obtain ⟨q, hq⟩ : ∃ q, m / 2 = q := ⟨_, rfl⟩
        have hm2 : (m : Int) / 2 = (q : Int) := by omega
        have hqm : 2 * q ≤ m := by omega
        rw [hq] at HH
        clear hq
        have P2 : b * b = 0 ∨ 1 ≤ b := by
          rcases Nat.eq_zero_or_pos b with h | h
          · left; rw [h]
          · right; exact h
        by_cases hodd : m % 2 = 1
        · have NX : Hid (o * b * (b * b) ^ q = T ∧ (b * b = 0 ∨ 1 ≤ o * b)) := Lib.hid ⟨by
            have e := HH.out
            rw [hodd, Nat.pow_one] at e
            rw [Nat.mul_assoc, Nat.mul_comm b, e]; exact H.out.1, by
            rcases P2 with h | h
            · exact .inl h
            · rcases H.out.2 with h2 | h2
              · left; rw [h2]
              · exact .inr (Nat.mul_pos h2 h)⟩
          have hodd' : ((m % 2 : Nat) : Int) = 1 := by omega
          clear hob1 hsq P2
          go_wp2_with (go_at_call 43; (first | with_reducible refine (mul_Mul _ u5 u0 o b hov hbv hob hbb hF1).mono ?_ | with_reducible refine (mul_Mul _ u0 u0 b b (by first | assumption | exact hbv.up hb) (by first | assumption | exact hbv.up hb) hbb hbb hF2).mono ?_); rintro e w' ⟨v, rfl, h, hb⟩)
          go_roundw
          case rel => exact ⟨b * b, q, o * b, by first | rfl | go_num, by omega, h, by repeat (first | assumption | (apply IsN.up' (by assumption))), NX, hl2, hl1, by repeat (first | exact Below.refl _ _ | assumption | (apply up_then' (by assumption)))⟩
          case measure => simp [intOf]; omega
        · have NX : Hid (o * (b * b) ^ q = T ∧ (b * b = 0 ∨ 1 ≤ o)) := Lib.hid ⟨by
            have e := HH.out
            rw [show m % 2 = 0 by omega, Nat.pow_zero, Nat.mul_one] at e
            rw [e]; exact H.out.1, by
            rcases P2 with h | h
            · exact .inl h
            · rcases H.out.2 with h2 | h2
              · left; rw [h2]
              · exact .inr h2⟩
          have hodd' : ((m % 2 : Nat) : Int) = 0 := by omega
          clear hob1 hsq P2
          go_wp2_with (go_at_call 43; (first | with_reducible refine (mul_Mul _ u5 u0 o b hov hbv hob hbb hF1).mono ?_ | with_reducible refine (mul_Mul _ u0 u0 b b (by first | assumption | exact hbv.up hb) (by first | assumption | exact hbv.up hb) hbb hbb hF2).mono ?_); rintro e w' ⟨v, rfl, h, hb⟩)
          go_roundw
          case rel => exact ⟨b * b, q, o, by first | rfl | go_num, by omega, h, by repeat (first | assumption | (apply IsN.up' (by assumption))), NX, hl2, hob, by repeat (first | exact Below.refl _ _ | assumption | (apply up_then' (by assumption)))⟩
          case measure => simp [intOf]; omega
end Go.Proofs.YtffkedepffjobaaDoor

namespace Go.Proofs.YtffkedepffjobaaDoor
open Go.RowKit
set_option maxRecDepth 100000

theorem bits_Div32 (hi lo y : Nat) (w : World) (h : hi < y) (hl : lo < 4294967296) (hy : y < 4294967296) :
    Calls Tryd.prog 68 #[.int .u32 hi, .int .u32 lo, .int .u32 y] w fun e w' => e = .returned (.tuple #[.int .u32 ((hi * 4294967296 + lo) / y : Nat), .int .u32 ((hi * 4294967296 + lo) % y : Nat)]) ∧ ∃ n, w' = w.drewN n := by
  have hor := or_hi hi lo (by omega) hl
  obtain ⟨t, ht⟩ : ∃ t, t = hi * 4294967296 + lo := ⟨_, rfl⟩
  obtain ⟨q, hq⟩ : ∃ q, q = t / y := ⟨_, rfl⟩
  obtain ⟨r, hr⟩ : ∃ r, r = t % y := ⟨_, rfl⟩
  rw [← ht] at hor ⊢
  rw [← hq, ← hr]
  have ht64 : t < 18446744073709551616 := by omega
  have hq32 : q < 4294967296 := by
    rw [hq, Nat.div_lt_iff_lt_mul (by omega), ht]
    have : (hi + 1) * 4294967296 ≤ y * 4294967296 := Nat.mul_le_mul_right _ h
    rw [Nat.mul_comm 4294967296]
    omega
  have hr32 : r < 4294967296 := by have := Nat.mod_lt t (show 0 < y by omega); omega
  have hqi : (t : Int) / (y : Int) = (q : Int) := by rw [hq, Int.natCast_ediv]
  have hri : (t : Int) % (y : Int) = (r : Int) := by rw [hr, Int.natCast_emod]
  have hy0 : ¬ (y = 0) := by omega
  clear hq hr ht
  go_enter Tryd.func68, Tryd.ntmps68
  go_wp2_with fail
  go_quiet (fail)
  go_wp2_with fail
  go_ret2
  exact ⟨rfl, _, rfl⟩
end Go.Proofs.YtffkedepffjobaaDoor

namespace Go.Proofs.YtffkedepffjobaaDoor
open Go.RowKit
set_option maxRecDepth 100000
attribute [local go_sem] Oper.semAt_some

/-- One box more is kept. -/
def KpB (n₀ p : Nat) (X Y : World) : Prop := Below n₀ X Y ∧ Y.heap[p]? = X.heap[p]?
/-- Places of a row. -/
abbrev Ix (n : Nat) := { i : Nat // i < n }
def encB (l : List Nat) (x : Ix l.length) : Array Value := #[.int .i64 x.1, .int .u32 (lb l x.1)]
/-- All places, the last one first. -/
def downs (n : Nat) : Nat → List (Ix n)
  | 0 => []
  | k + 1 => downs n k ++ (if h : n - 1 - k < n then [⟨n - 1 - k, h⟩] else [])
theorem downs_len (n k : Nat) (h : k ≤ n) : (downs n k).length = k := by
  induction k with
  | zero => rfl
  | succ k ih => rw [downs, dif_pos (by omega), List.length_append, ih (by omega)]; rfl

set_option maxHeartbeats 1000000 in
theorem backs1 (n : Nat) (hn : 1 ≤ n) (l p n₀ : Nat) (va : Value) (la : List Nat) (bla : la.length ≤ 100000000000) (J Jx : List (Ix la.length) → World → Prop)
    (hY : ∀ pre x W, J pre W → pre.length < la.length → YieldAt Fence.wide (n - 1) Tryd.prog l (encB la x) W fun e W' =>
      (e = .returned (.bool true) ∧ J (pre ++ [x]) W' ∧ KpB n₀ p W W') ∨ (e = .returned (.bool false) ∧ Jx (pre ++ [x]) W'))
    (W : World) (hBa : W.cell? ⟨p, 0, none⟩ = some va)
    (hRa : ∀ X, Below n₀ W X → Rd X .u32 va la) (hJd : ∀ pre X, J pre X → J pre X.drew) (h0 : J [] W) :
    CallsIn Fence.wide n Tryd.prog 80 #[.func (.yield l) #[] #[], .pointer (some ⟨p, 0, none⟩)] W fun e W' => (∃ v, e = .returned v) ∧
      ((∃ ys, ys = downs la.length la.length ∧ J ys W') ∨ (∃ pre, True ∧ Jx pre W')) := by
  have HRa := Lib.hid hRa
  obtain ⟨A, c, rfl, _⟩ := hRa W (Below.refl _ _)
  clear hRa
  refine callsIn_of_wp Tryd.func80 rfl trivial ?_ rfl
  simp only [Tryd.ntmps80, List.size_toArray, List.length_cons, List.length_nil, Nat.reduceAdd, Nat.reduceSub, Array.replicate_succ, Array.replicate_zero, List.push_toArray, List.append_toArray, List.nil_append, List.cons_append]
  gi_wp2
  gi_loopw [3] (fun i wr => ∃ k : Nat, k ≤ la.length ∧ i = .int .i64 ((la.length : Int) - 1 - k) ∧ J (downs la.length k) wr ∧ KpB n₀ p W wr) (fun i _ => (intOf i + 1).toNat)
  case atStart => exact ⟨0, Nat.zero_le _, val_int (by first | rfl | omega | (simp [IntKind.wrap, IntKind.bits, IntKind.signed]; omega)), h0, Below.refl _ _, rfl⟩
  case round =>
    obtain ⟨k, hk, rfl, hJ, hB, hp0⟩ := hrel
    have e0 : wr.cell? ⟨p, 0, none⟩ = some (.slice A la.length c) := (World.cell?_of_block (a := ⟨p, 0, none⟩) hp0).trans hBa
    by_cases hlt : k < la.length
    · obtain ⟨q, hq⟩ : ∃ q, q = la.length - 1 - k := ⟨_, rfl⟩
      have hql : q < la.length := by omega
      obtain ⟨fn, tmps, assign, body, hy, hR⟩ := hY _ ⟨q, hql⟩ wr hJ (by rw [downs_len _ _ hk]; exact hlt)
      dsimp only [encB] at hy
      have hdn : downs la.length (k + 1) = downs la.length k ++ [⟨q, hql⟩] := by
        subst hq
        rw [downs, dif_pos hql]
      have hR2 := hR.mono (R' := fun e W' => ∃ b : Bool, e = .returned (.bool b) ∧ Hid ((b = true ∧ J (downs la.length (k + 1)) W' ∧ KpB n₀ p wr W') ∨ (b = false ∧ Jx (downs la.length (k + 1)) W'))) (by
        rintro e W' (⟨rfl, h1, h2⟩ | ⟨rfl, h1⟩)
        · exact ⟨true, rfl, .inl ⟨rfl, by rw [hdn]; exact h1, h2⟩⟩
        · exact ⟨false, rfl, .inr ⟨rfl, by rw [hdn]; exact h1⟩⟩)
      clear hR hdn hY
      obtain ⟨A', c', e', _, _, hrd⟩ := HRa.out wr hB
      cases e'
      obtain ⟨ad, rfl, hs⟩ := hrd (by omega)
      have hx : wr.cell? (ad.add q) = some (.int .u32 (lb la q : Nat)) := hs q hql
      have ei : (la.length : Int) - 1 - (k : Int) = (q : Int) := by omega
      rw [ei]
      have HQ : Hid (q + k + 1 = la.length) := Lib.hid (by omega)
      clear hs hrd ei hq
      gi_wp2_with (refine hR2.mono ?_; rintro e W3 ⟨b, rfl, hb⟩)
      · rename_i hbn
        rcases hb.out with ⟨rfl, h1, h2⟩ | ⟨rfl, h1⟩
        · simp at hbn
        · refine bodyPost_ret (results_none rfl _ _ _) rfl ?_
          first | exact ⟨⟨_, rfl⟩, .inr ⟨_, h1⟩⟩ | exact ⟨⟨_, rfl⟩, .inr ⟨_, trivial, h1⟩⟩
      · rename_i hbn
        rcases hb.out with ⟨rfl, h1, h2⟩ | ⟨rfl, h1⟩
        · have := HQ.out
          refine ⟨⟨k + 1, by omega, val_int (by omega), h1, hB.trans h2.1, h2.2.trans hp0⟩, ?_⟩
          simp [intOf]
        · simp at hbn
    · obtain rfl : k = la.length := by omega
      gi_wp2
      go_end0
      exact ⟨⟨_, rfl⟩, .inl ⟨_, rfl, hJ⟩⟩

theorem backward_any (A : Option Addr) (l c : Nat) (w : World) :
    Calls Tryd.prog 67 #[.slice A l c] w fun e w' => e = .returned (.func (.func 80) #[] #[.pointer (some ⟨w.heap.size, 0, none⟩)]) ∧ w' = w.alloc (.cells #[.slice A l c] 22) := by
  go_enter Tryd.func67, Tryd.ntmps67
  go_wp2
  go_ret
  exact ⟨rfl, rfl⟩

/-- The row and the rest behind so many steps, in whatever order. -/
def sm (l : List Nat) (m : Nat) (pre : List (Ix l.length)) : List Nat × Nat :=
  pre.foldl (fun s i => (s.1.set i.1 ((s.2 * 4294967296 + lb l i.1) / m), (s.2 * 4294967296 + lb l i.1) % m)) (List.replicate l.length 0, 0)
theorem sm_nil (l : List Nat) (m : Nat) : sm l m [] = (List.replicate l.length 0, 0) := rfl
theorem sm_snoc (l : List Nat) (m : Nat) (pre : List (Ix l.length)) (i : Ix l.length) :
    sm l m (pre ++ [i]) = ((sm l m pre).1.set i.1 (((sm l m pre).2 * 4294967296 + lb l i.1) / m), ((sm l m pre).2 * 4294967296 + lb l i.1) % m) := by simp [sm]
theorem sm_tame (l : List Nat) (m : Nat) (hl : Lim l) (hm : 0 < m) (hm2 : m ≤ 4294967295) (pre : List (Ix l.length)) : Lim (sm l m pre).1 ∧ (sm l m pre).1.length = l.length ∧ (sm l m pre).2 < m := by
  have : ∀ (n : Nat) (pre : List (Ix l.length)), pre.length = n → Lim (sm l m pre).1 ∧ (sm l m pre).1.length = l.length ∧ (sm l m pre).2 < m := by
    intro n
    induction n with
    | zero =>
      intro pre h
      rw [List.length_eq_zero_iff.1 h, sm_nil]
      exact ⟨Lim.rep _, by simp, hm⟩
    | succ n ih =>
      intro pre h
      rcases List.eq_nil_or_concat pre with rfl | ⟨p, i, rfl⟩
      · simp at h
      · rw [List.concat_eq_append] at h ⊢
        obtain ⟨h1, h2, h3⟩ := ih p (by simpa using h)
        rw [sm_snoc]
        have h4 := hl.at i.1
        change lb l i.1 < _ at h4
        refine ⟨h1.set _ _ ?_, by rw [List.length_set]; exact h2, Nat.mod_lt _ hm⟩
        rw [Nat.div_lt_iff_lt_mul hm]
        have : ((sm l m p).2 + 1) * 4294967296 ≤ m * 4294967296 := Nat.mul_le_mul_right _ h3
        rw [Nat.mul_comm 4294967296]
        omega
  exact this _ pre rfl
theorem sm_downs (l : List Nat) (m : Nat) (hl : Lim l) (hm : 0 < m) (hm2 : m ≤ 4294967295) (k : Nat) (hk : k ≤ l.length) : Dv l (sm l m (downs l.length k)).1 m (l.length - k) (sm l m (downs l.length k)).2 := by
  induction k with
  | zero => exact dv_start l m hm
  | succ k ih =>
    have h := ih (by omega)
    rw [downs, dif_pos (by omega), sm_snoc]
    rw [show l.length - k = l.length - (k + 1) + 1 by omega] at h
    have := (dv_step h (by omega) hl (by omega)).1
    rw [show l.length - (k + 1) = l.length - 1 - k by omega] at this ⊢
    exact this
end Go.Proofs.YtffkedepffjobaaDoor

namespace Go.Proofs.YtffkedepffjobaaDoor
open Go.RowKit
set_option maxRecDepth 100000

/-- A region in a round that draws: it ends as it should, and in no other way. -/
def OnlyN (Q : Exit → Act → World → Prop) (e : Exit) (a : Act) (w : World) : Prop := match e with
  | .normal => Q .normal a w
  | _ => False

theorem op_round {P : Program} {o : Oper} {l n : Nat} {a : Act} {w : World} {K K' : Act → World → Prop} {Q : Exit → Act → World → Prop} (hK : ∀ a w, K a w → K' a w) (hd : ∀ c, o.op ≠ .defer c) (h : o.wp P a w K Q) : o.wpIn (Fence.wide.inRound l) n P a w K' Q := by
  refine ⟨fun _ _ => trivial, ?_⟩
  rw [Oper.semAt_eq _ _ _ hd]
  unfold Oper.wp at h
  revert h
  generalize (execOp a.eval o).run P w = r
  intro h
  unfold Oper.upon at h
  unfold Oper.uponIn
  split at h
  · exact hK _ _ h
  · exact hK _ _ h
  · exact hK _ _ h
  · refine ⟨fun e => by simp [Fence.wide] at e, CallsIn.inRound l (callsIn_wide.2 (h.mono ?_))⟩
    intro e w'' he
    cases e
    · exact hK _ _ he
    · exact he
    · exact he
  · exact ⟨fun e => by simp [Fence.wide] at e, fun c cs _ => let ⟨v, w', r, s⟩ := h c cs; ⟨v, w', hK _ _ r, stepsIn_wide.2 s⟩⟩
  · exact h
  · exact h.elim

theorem wpOp_round {P : Program} {ops : Array Oper} {l n i : Nat} {a : Act} {w : World} {K K' : Act → World → Prop} {Q : Exit → Act → World → Prop} (hK : ∀ a w, K a w → K' a w) (hd : ∀ (i : Nat) (o : Oper) c, ops[i]? = some o → o.op ≠ Op.defer c) (hL : ¬ LetsOut Q)
    (h : wpOp P ops Q i K a w) : wpOpIn (Fence.wide.inRound l) n P ops Q i K' a w := by
  unfold wpOp at h
  unfold wpOpIn
  cases ho : ops[i]? with
  | none => rw [ho] at h; exact hK _ _ h
  | some o =>
    rw [ho] at h
    simp only [] at h ⊢
    by_cases hw : Region.wanted o (yielded ops a.tmps) = true
    · rw [if_pos hw] at h ⊢
      rcases h with h | h
      · exact op_round hK (fun c => hd i o c ho) h
      · exact absurd h.2 hL
    · rw [if_neg hw] at h ⊢
      exact ⟨fun _ _ => trivial, hK _ _ h⟩
theorem wpAny_round {P : Program} {md : Region.Mode} {ops : Array Oper} {l n : Nat} {Q : Exit → Act → World → Prop} (hd : ∀ (i : Nat) (o : Oper) c, ops[i]? = some o → o.op ≠ Op.defer c) (hL : ¬ LetsOut Q) :
    ∀ (fuel : Nat) (listed : Array Bool) (a : Act) (w : World), wpAny P md ops Q fuel listed a w → wpAnyIn (Fence.wide.inRound l) n P md ops Q fuel listed a w
  | 0, _, _, _, h => h
  | fuel + 1, _, _, _, h => ⟨h.1, fun i hi => wpOp_round (fun a w => wpAny_round hd hL fuel _ a w) hd hL (h.2 i hi)⟩
def noDefer (ops : Array Oper) : Bool := ops.all fun o => match o.op with
  | .defer _ => false
  | _ => true
theorem noDefer_spec {ops : Array Oper} (h : noDefer ops = true) : ∀ (i : Nat) (o : Oper) c, ops[i]? = some o → o.op ≠ Op.defer c := by
  intro i o c ho e
  unfold noDefer at h
  rw [Array.all_eq_true_iff_forall_mem] at h
  have := h o (Array.mem_of_getElem? ho)
  rw [e] at this
  cases this
theorem region_round {P : Program} {id l n : Nat} {ops : Array Oper} {Q : Exit → Act → World → Prop} {S : World → Prop} {a : Act} {w : World} (hm : P.follows .mixedOrders = true) (hd : noDefer ops = true) (hS : S w.drew)
    (h : S w.drew → wpAnyH P .any ops (OnlyN Q) S ops.size (Array.replicate ops.size false) a w.drew) : (Code.region id ops true).wpIn (Fence.wide.inRound l) n P Q a w := by
  have hL : ¬ LetsOut (OnlyN Q) := by
    rintro ⟨a, w, h⟩
    exact h
  refine wpIn_mono (wpIn_region_any (Q := OnlyN Q) hm (wpAny_round (noDefer_spec hd) hL _ _ _ _ (wpAny_of_held _ _ _ _ (h hS)))) ?_
  · intro e a w h
    cases e <;> first | exact h | exact h.elim
end Go.Proofs.YtffkedepffjobaaDoor

