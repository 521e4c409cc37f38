/- The contracts of the document's answers for layers 1 and 3. By an AI agent. -/
import Derived.Test.YtffkedepffjobaaDoorM6
namespace Go.Proofs.YtffkedepffjobaaDoor
open Go.RowKit
set_option maxRecDepth 100000

/-! ### The document's answers for layer 1: Make, Made, limb, Bits, Cmp, Same -/
theorem r1_Make (w : World) (v : Value) (l : List Nat) (h : Rd w .u32 v l) (hl : Lim l) (hb : l.length ≤ 35184372088832) :
    Calls Tryd.prog 32 #[v] w (AnsN w (val l)) := by
  have H := Lib.hid h
  have HB := Lib.hid hb
  have hc64 : l.length ≤ 9223372036854775807 := by omega
  clear hb
  obtain ⟨A, c, rfl, hc, hz, hr⟩ := h
  go_enter Tryd.func32, Tryd.ntmps32
  go_wp2
  go_loop [3] (fun n => ∃ k : Nat, k ≤ l.length ∧ n = .int .i64 k ∧ Hid (val (l.take k) = val l)) (fun n => (intOf n).toNat)
  case atStart => exact ⟨l.length, Nat.le_refl _, rfl, by rw [List.take_length]; exact Lib.hid rfl⟩
  case round =>
    obtain ⟨k, hk, rfl, hv⟩ := hrel
    have key : k = 0 ∨ (∃ m, k = m + 1 ∧ l[m]?.getD 0 = 0) ∨ (∃ m, k = m + 1 ∧ l[m]?.getD 0 ≠ 0) := by
      cases k with
      | zero => exact .inl rfl
      | succ m => by_cases h : l[m]?.getD 0 = 0
                  · exact .inr (.inl ⟨m, rfl, h⟩)
                  · exact .inr (.inr ⟨m, rfl, h⟩)
    rcases key with rfl | ⟨m, rfl, h0⟩ | ⟨m, rfl, h0⟩
    · clear hr
      have hv0 : val l = 0 := hv.out.symm
      go_wp2_with (at_builtin; refine ap32n rfl _ _ rfl w.heap.size _ _ [] [] rfl (Own.lit w _ _ [] _ (Nat.le_refl _) (by simp)) rfl ((Rd.nil _ _ _ _ hz).al _) (by simp) (by simp) ?_; intro v' w' ho hg hb)
      go_ret
      exact ⟨_, rfl, ⟨[], ho.rd, Nrm.nil, by first | rfl | exact hv0.symm⟩, ((Below.refl _ _).alloc (Nat.le_refl _) _).trans hb⟩
    · obtain ⟨ad, rfl, hs⟩ := hr (by omega)
      have hx := hs m (by omega)
      rw [h0] at hx
      clear hr hs
      go_wp2
      go_round
      case rel => exact ⟨m, by omega, by go_num, Lib.hid (val_take_zero l m _ hk h0 hv.out)⟩
      case measure => simp [intOf]
    · obtain ⟨ad, rfl, hs⟩ := hr (by omega)
      have hx := hs m (by omega)
      have H' := Lib.hid (H.out.take (m + 1) hk)
      have hne : (((l[m]?.getD 0 : Nat) : Int) == 0) = false := by simpa using h0
      clear hr hs
      go_wp2_with (at_builtin; refine ap32n rfl _ _ rfl w.heap.size _ _ [] (l.take (m + 1)) rfl (Own.lit w _ _ [] _ (Nat.le_refl _) (by simp)) rfl (H'.out.al _) (by rw [List.length_take, List.length_nil]; have := HB.out; omega) (by simp) ?_; intro v' w' ho hg hb)
      go_ret
      exact ⟨_, rfl, ⟨_, ho.rd, nrm_take l m hl hk h0, hv.out⟩, ((Below.refl _ _).alloc (Nat.le_refl _) _).trans hb⟩

theorem take_min (l : List Nat) (m : Nat) : l.take (min l.length m) = l.take m := by
  rcases Nat.le_total l.length m with h | h
  · rw [Nat.min_eq_left h, List.take_length, List.take_of_length_le h]
  · rw [Nat.min_eq_right h]
theorem r1_Made (w : World) (v : Value) (l : List Nat) (m : Nat) (h : Rd w .u32 v l) (hl : Lim l) (hb : l.length ≤ 9223372036854775807) (hm : m ≤ 1000000) :
    Calls Tryd.prog 13 #[v, .int .i64 m] w (AnsN w (val (l.take m))) := by
  obtain ⟨k, hk⟩ : ∃ k, k = min l.length m := ⟨_, rfl⟩
  have H := Lib.hid h
  have HT := Lib.hid (take_min l m)
  rw [← hk] at HT
  have hmi : min (l.length : Int) (m : Int) = (k : Int) := by omega
  have hk1 : k ≤ l.length := by omega
  obtain ⟨A, c, rfl, hc, _⟩ := h
  have HM := fun W (h : Rd W .u32 (.slice A l.length c) l) => Lib.hid (r1_Make W _ (l.take k) (h.take k hk1) (hl.take k) (by rw [List.length_take]; omega))
  clear hk
  go_enter Tryd.func13, Tryd.ntmps13
  go_wp2_with (go_at_call 32; refine (HM _ H.out).out.mono ?_; rintro e w' ⟨v', rfl, ho, hb⟩)
  go_ret
  rw [← HT.out]
  exact ⟨_, rfl, ho, hb⟩

theorem r1_limb (w : World) (v : Value) (l : List Nat) (i : Nat) (h : Rd w .u32 v l) (hL : Lim l) (hl : l.length ≤ 281474976710656) :
    Calls Tryd.prog 49 #[v, .int .i64 i] w fun e w' => e = .returned (.int .u64 (lb l i)) ∧ w = w' := by
  obtain ⟨y, hy⟩ : ∃ y, y = lb l i := ⟨_, rfl⟩
  have hy32 : y < 4294967296 := by rw [hy]; exact hL.at i
  rw [← hy]
  obtain ⟨A, c, rfl, hc, hz, hr⟩ := h
  by_cases h1 : i < l.length
  · obtain ⟨ad, rfl, hs⟩ := hr (by omega)
    have hx := hs i (by omega)
    change _ = some (Value.int .u32 (lb l i : Nat)) at hx
    rw [← hy] at hx
    have h1' : ¬ ((l.length : Int) ≤ (i : Int)) := by omega
    clear hr hs hy
    go_enter Tryd.func49, Tryd.ntmps49
    go_wp2
    go_ret
    exact ⟨rfl, rfl⟩
  · have h2 : y = 0 := by rw [hy]; unfold lb; rw [List.getElem?_eq_none (by omega)]; rfl
    subst h2
    clear hr hy
    go_enter Tryd.func49, Tryd.ntmps49
    go_wp2
    go_ret
    exact ⟨rfl, rfl⟩

theorem bl_half {u : Nat} (h : 0 < u) : bl (u / 2) + 1 = bl u := by
  have := bl_shr u 1
  rw [Nat.pow_one] at this
  have h2 := bl_pos (show u ≠ 0 by omega)
  omega
theorem r1_Bits (w : World) (v : Value) (n : Nat) (h : IsN w v n) (hb : bl n ≤ 1000000000000) :
    Calls Tryd.prog 30 #[v] w fun e w' => e = .returned (.int .i64 (bl n)) ∧ ∃ k, w' = w.drewN k := by
  obtain ⟨l, ⟨A, c, rfl, hc, hz, hr⟩, hn, rfl⟩ := h
  have hlen := hn.len
  have hle : l.length ≤ 100000000000 := by omega
  rcases Nat.eq_zero_or_pos l.length with h0 | h0
  · obtain rfl := List.eq_nil_of_length_eq_zero h0
    clear hr hz hlen
    go_enter Tryd.func30, Tryd.ntmps30
    go_wp2
    go_ret
    exact ⟨rfl, 0, rfl⟩
  · obtain ⟨ad, rfl, hs⟩ := hr h0
    obtain ⟨t, ht⟩ : ∃ t, t = l[l.length - 1]?.getD 0 := ⟨_, rfl⟩
    have hx := hs (l.length - 1) (by omega)
    have hl := hn.1.at (l.length - 1)
    rw [← ht] at hx hl
    obtain ⟨k, hk⟩ : ∃ k, l.length = k + 1 := ⟨l.length - 1, by omega⟩
    have HE := Lib.hid (bl_last hn h0)
    rw [← ht, hk, Nat.add_sub_cancel] at HE
    rw [hk, Nat.add_sub_cancel] at hx
    rw [hk]
    have hne : (((k + 1 : Nat) : Int) == 0) = false := beq_eq_false_iff_ne.mpr (by omega)
    have hk9 : k ≤ 100000000000 := by omega
    clear hr hz hlen hs hk ht h0 hle hb hc hn
    go_enter Tryd.func30, Tryd.ntmps30
    go_wp2
    go_quiet (fail)
    go_wp2
    go_loop [3, 4] (fun nv uv => ∃ j u : Nat, nv = .int .i64 j ∧ uv = .int .u32 u ∧ u < 4294967296 ∧ j ≤ 32 ∧ Hid (j + bl u = bl t)) (fun _ uv => (intOf uv).toNat)
    case atStart => exact ⟨0, t, rfl, rfl, hl, by omega, Lib.hid (by omega)⟩
    case round =>
      obtain ⟨j, u, rfl, rfl, hu, hj, H⟩ := hrel
      by_cases h0 : 0 < u
      · have hh := bl_half h0
        have hb32 : bl t ≤ 32 := (bl_le_iff (n := 32)).2 (by show _ < 4294967296; omega)
        have := H.out
        have NX : Hid (j + 1 + bl (u / 2) = bl t) := Lib.hid (by omega)
        have hj2 : j + 1 ≤ 32 := by omega
        clear hh hb32 this
        go_wp2
        go_round
        case rel => exact ⟨j + 1, u / 2, by go_num, val_int (by omega), by omega, hj2, NX⟩
        case measure => simp [intOf]; omega
      · obtain rfl : u = 0 := by omega
        have hj := H.out
        rw [bl_zero] at hj
        clear h0
        go_wp2
        go_ret
        exact ⟨ret_int (by rw [HE.out]; omega), _, rfl⟩

theorem cmp3_up {l m : List Nat} (hl : Lim l) (hm : Lim m) {k : Nat} (hd : val (l.drop (k + 1)) = val (m.drop (k + 1))) : (lb l k < lb m k → val l < val m) ∧ (lb l k = lb m k → val (l.drop k) = val (m.drop k)) := by
  have e1 := val_drop_succ l k
  have e2 := val_drop_succ m k
  refine ⟨fun h => ?_, fun h => by omega⟩
  have h1 : val l / 2 ^ (32 * k) < val m / 2 ^ (32 * k) := by
    rw [← val_drop hl, ← val_drop hm]; omega
  rcases Nat.lt_or_ge (val l) (val m) with g | g
  · exact g
  · have := Nat.div_le_div_right (c := 2 ^ (32 * k)) g
    omega
theorem r1_Cmp (w : World) (va vb : Value) (x y : Nat) (ha : IsN w va x) (hb : IsN w vb y) (bx : bl x ≤ 100000000000) (by_ : bl y ≤ 100000000000) :
    Calls Tryd.prog 25 #[va, vb] w fun e w' => e = .returned (.int .i64 (cmp3 x y)) ∧ w = w' := by
  obtain ⟨l, hR, hl, rfl⟩ := ha
  obtain ⟨m, hR', hm, rfl⟩ := hb
  have hll : l.length ≤ 10000000000 := by have := hl.len; omega
  have hml : m.length ≤ 10000000000 := by have := hm.len; omega
  have HL := Lib.hid (And.intro hl.1 hm.1)
  have HA := fun i => Lib.hid (r1_limb w va l i hR hl.1 (by omega))
  have HB := fun i => Lib.hid (r1_limb w vb m i hR' hm.1 (by omega))
  obtain ⟨A, c, rfl, _⟩ := hR
  obtain ⟨A', c', rfl, _⟩ := hR'
  obtain ⟨M, hM⟩ : ∃ M, M = max l.length m.length := ⟨_, rfl⟩
  have hMi : max (l.length : Int) (m.length : Int) = (M : Int) := by omega
  have hMb : M ≤ 10000000000 := by omega
  have h0 : Hid (val (l.drop M) = val (m.drop M)) := by rw [List.drop_of_length_le (by omega), List.drop_of_length_le (by omega)]; exact Lib.hid rfl
  clear bx by_ hl hm hM
  go_enter Tryd.func25, Tryd.ntmps25
  go_wp2
  go_loop [5] (fun i => ∃ k : Nat, k ≤ M ∧ i = .int .i64 ((k : Int) - 1) ∧ Hid (val (l.drop k) = val (m.drop k))) (fun i => (intOf i + 1).toNat)
  case atStart => exact ⟨M, Nat.le_refl _, rfl, h0⟩
  case round =>
    clear h0
    obtain ⟨k, hk, rfl, hd⟩ := hrel
    cases k with
    | zero =>
      clear HA HB
      go_wp2
      go_ret
      exact ⟨ret_int (by rw [show val l = val m from hd.out]; simp [cmp3]), rfl⟩
    | succ k =>
      have e1 : ((k + 1 : Nat) : Int) - 1 = k := by omega
      rw [e1]
      clear e1
      have C1 := Lib.hid (cmp3_up HL.out.1 HL.out.2 hd.out)
      have C2 := Lib.hid (cmp3_up HL.out.2 HL.out.1 hd.out.symm)
      have ha := HA k
      have hb := HB k
      obtain ⟨a, hae⟩ : ∃ a, a = lb l k := ⟨_, rfl⟩
      obtain ⟨b, hbe⟩ : ∃ b, b = lb m k := ⟨_, rfl⟩
      rw [← hae] at ha C1 C2
      rw [← hbe] at hb C1 C2
      clear HA HB hae hbe
      rcases Nat.lt_trichotomy a b with h | h | h
      · have HV := Lib.hid (C1.out.1 h)
        go_wp2_with (go_at_call 49; (first | (with_reducible refine ha.out.mono ?_) | (with_reducible refine hb.out.mono ?_)); rintro e w' ⟨rfl, rfl⟩)
        go_ret
        exact ⟨ret_int (by have := HV.out; simp [cmp3, this]), rfl⟩
      · have NX := Lib.hid (C1.out.2 h)
        have h1 : ¬ a < b := by omega
        have h2 : ¬ b < a := by omega
        clear h
        go_wp2_with (go_at_call 49; (first | (with_reducible refine ha.out.mono ?_) | (with_reducible refine hb.out.mono ?_)); rintro e w' ⟨rfl, rfl⟩)
        go_round
        case rel => exact ⟨k, by omega, by go_num, NX⟩
        case measure => simp [intOf]
      · have HV := Lib.hid (C2.out.1 h)
        have h1 : ¬ a < b := by omega
        go_wp2_with (go_at_call 49; (first | (with_reducible refine ha.out.mono ?_) | (with_reducible refine hb.out.mono ?_)); rintro e w' ⟨rfl, rfl⟩)
        go_ret
        exact ⟨ret_int (by have := HV.out; simp [cmp3, this]; omega), rfl⟩

theorem r3_Same (w : World) (va vb : Value) (x y : Nat) (ha : IsN w va x) (hb : IsN w vb y) (bx : bl x ≤ 100000000000) (by_ : bl y ≤ 100000000000) :
    Calls Tryd.prog 20 #[va, vb] w fun e w' => e = .returned (.bool (decide (x = y))) ∧ ∃ k, w' = w.drewN k := by
  obtain ⟨l, ⟨A, c, rfl, hc, hz, hr⟩, hl, rfl⟩ := ha
  obtain ⟨m, ⟨A', c', rfl, hc', hz', hr'⟩, hm, rfl⟩ := hb
  have hll : l.length ≤ 10000000000 := by have := hl.len; omega
  have hml : m.length ≤ 10000000000 := by have := hm.len; omega
  by_cases he : l.length = m.length
  · have hne : ((l.length : Int) != m.length) = false := bne_eq_false_iff_eq.mpr (by omega)
    have HN := Lib.hid (And.intro hl hm)
    have HE := Lib.hid he
    have hle : m.length ≤ l.length := by omega
    have hge : l.length ≤ m.length := by omega
    clear he bx by_ hz hz' hl hm
    go_enter Tryd.func20, Tryd.ntmps20
    go_wp2
    go_loopw [5] (fun i wr => ∃ k : Nat, k ≤ l.length ∧ i = .int .i64 k ∧ Hid (l.take k = m.take k) ∧ Hid (∃ n, wr = w.drewN n)) (fun i _ => l.length - (intOf i).toNat)
    case atStart => exact ⟨0, Nat.zero_le _, rfl, Lib.hid rfl, Lib.hid ⟨0, rfl⟩⟩
    case round =>
      obtain ⟨k, hk, rfl, hd, hw⟩ := hrel
      by_cases hlt : k < l.length
      · obtain ⟨ad, rfl, hs⟩ := hr (by omega)
        obtain ⟨ad', rfl, hs'⟩ := hr' (by omega)
        have hcell : ∀ p, wr.cell? p = w.cell? p := by
          obtain ⟨n, e⟩ := hw.out
          intro p; rw [e]; rfl
        have hx := (hcell _).trans (hs k hlt)
        have hy := (hcell _).trans (hs' k (by omega))
        have hlt2 : k < m.length := by omega
        clear hr hr' hs hs' hcell
        obtain ⟨a, hae⟩ : ∃ a, a = l[k]?.getD 0 := ⟨_, rfl⟩
        obtain ⟨b, hbe⟩ : ∃ b, b = m[k]?.getD 0 := ⟨_, rfl⟩
        rw [← hae] at hx
        rw [← hbe] at hy
        by_cases hab : a = b
        · have NX : Hid (l.take (k + 1) = m.take (k + 1)) := by
            refine Lib.hid ?_
            rw [List.take_succ_eq_append_getElem hlt, List.take_succ_eq_append_getElem hlt2, hd.out]
            congr 2
            simp [hlt] at hae
            simp [hlt2] at hbe
            omega
          subst hab
          clear hae hbe
          go_wp2
          go_quiet (fail)
          go_wp2
          go_roundw
          case rel =>
            obtain ⟨n, rfl⟩ := hw.out
            exact ⟨k + 1, by omega, by go_num, NX, Lib.hid ⟨_, (by rw [World.drewN_drewN])⟩⟩
          case measure => simp [intOf]; omega
        · have hneb : (((a : Nat) : Int) != (b : Nat)) = true := bne_iff_ne.mpr (by omega)
          have NE : Hid (val l ≠ val m) := Lib.hid (fun e => hab (by
            have := HN.out.1.inj HN.out.2 e
            rw [hae, hbe, this]))
          clear hae hbe
          go_wp2
          go_quiet (fail)
          go_wp2
          go_ret
          obtain ⟨n, rfl⟩ := hw.out
          exact ⟨by rw [decide_eq_false NE.out]; rfl, _, (by rw [World.drewN_drewN])⟩
      · clear hr hr'
        go_wp2
        go_ret
        have e : l = m := by
          have := hd.out
          rw [List.take_of_length_le (by omega), List.take_of_length_le (by have := HE.out; omega)] at this
          exact this
        exact ⟨by rw [decide_eq_true (by rw [e])]; rfl, hw.out⟩
  · have hne : ((l.length : Int) != m.length) = true := bne_iff_ne.mpr (by omega)
    have NE : Hid (val l ≠ val m) := Lib.hid (fun e => he (by rw [hl.inj hm e]))
    clear hr hr'
    go_enter Tryd.func20, Tryd.ntmps20
    go_wp2
    go_ret
    exact ⟨by rw [decide_eq_false NE.out]; rfl, 0, rfl⟩
end Go.Proofs.YtffkedepffjobaaDoor

namespace Go.Proofs.YtffkedepffjobaaDoor
open Go.RowKit
set_option maxRecDepth 100000

/-- A sum, k limbs of it. -/
structure Ad (l m o : List Nat) (k c : Nat) : Prop where
  lim : Lim o
  len : o.length = k
  car : c ≤ 1
  top : max l.length m.length < k → c = 0
  val : Go.Proofs.YtffkedepffjobaaDoor.val o + 2 ^ (32 * k) * c = Go.Proofs.YtffkedepffjobaaDoor.val (l.take k) + Go.Proofs.YtffkedepffjobaaDoor.val (m.take k)
theorem ad_step {l m o : List Nat} {k c n : Nat} (h : Ad l m o k c) (hl : Lim l) (hm : Lim m) (hn : n = lb l k + lb m k + c) (hk : k ≤ max l.length m.length) : Ad l m (o ++ [n % 4294967296]) (k + 1) (n / 4294967296) := by
  have h1 := hl.at k
  have h2 := hm.at k
  change lb l k < _ at h1
  change lb m k < _ at h2
  have hc := h.car
  refine ⟨h.lim.snoc (Nat.mod_lt _ (by omega)), by simp [h.len], by omega, ?_, ?_⟩
  · intro hk2
    have e1 : lb l k = 0 := by unfold lb; rw [List.getElem?_eq_none (by omega)]; rfl
    have e2 : lb m k = 0 := by unfold lb; rw [List.getElem?_eq_none (by omega)]; rfl
    rw [e1, e2] at hn
    omega
  · have hv := h.val
    rw [take_lb l k, take_lb m k, val_snoc, h.len, pow32_succ, Nat.mul_assoc]
    generalize 2 ^ (32 * k) = P at *
    have e := Nat.div_add_mod n 4294967296
    have e1 : P * (4294967296 * (n / 4294967296)) + P * (n % 4294967296) = P * lb l k + P * lb m k + P * c := by
      rw [← Nat.mul_add, e, hn, Nat.mul_add, Nat.mul_add]
    omega
theorem ad_end {l m o : List Nat} {k c : Nat} (h : Ad l m o k c) (hk : max l.length m.length < k) : Go.Proofs.YtffkedepffjobaaDoor.val o = Go.Proofs.YtffkedepffjobaaDoor.val l + Go.Proofs.YtffkedepffjobaaDoor.val m := by
  have hv := h.val
  rw [h.top hk, Nat.mul_zero, Nat.add_zero, List.take_of_length_le (by omega), List.take_of_length_le (by omega)] at hv
  exact hv

set_option maxHeartbeats 1000000 in
theorem r1_Add (w : World) (va vb : Value) (x y : Nat) (ha : IsN w va x) (hb : IsN w vb y) (bx : bl x ≤ 100000000000) (by_ : bl y ≤ 100000000000) :
    Calls Tryd.prog 23 #[va, vb] w (AnsN w (x + y)) := by
  obtain ⟨l, hR, hl, rfl⟩ := ha
  obtain ⟨m, hR', hm, rfl⟩ := hb
  have hll : l.length ≤ 10000000000 := by have := hl.len; omega
  have hml : m.length ≤ 10000000000 := by have := hm.len; omega
  have HL := Lib.hid (And.intro hl.1 hm.1)
  have HA := fun W (hB : Below w.heap.size w W) i => Lib.hid (r1_limb W va l i (hR.up hB) hl.1 (by omega))
  have HB := fun W (hB : Below w.heap.size w W) i => Lib.hid (r1_limb W vb m i (hR'.up hB) hm.1 (by omega))
  obtain ⟨A, c, rfl, _⟩ := hR
  obtain ⟨A', c', rfl, _⟩ := hR'
  clear bx by_ hl hm
  go_enter Tryd.func23, Tryd.ntmps23
  go_wp2
  go_loopw [5, 6, 7] (fun o cv i wr => ∃ (k c : Nat) (out : List Nat), k ≤ max l.length m.length + 1 ∧ i = .int .i64 k ∧ cv = .int .u64 c ∧ Own wr w.heap.size 36 .u32 o out ∧ Hid (Ad l m out k c) ∧ Below w.heap.size w wr) (fun _ _ i _ => max l.length m.length + 1 - (intOf i).toNat)
  case atStart => exact ⟨0, 0, [], by omega, rfl, rfl, Own.lit w _ _ [] _ (Nat.le_refl _) (by simp), Lib.hid ⟨Lim.nil, rfl, by omega, fun h => by omega, by simp [val]⟩, (Below.refl _ _).alloc (Nat.le_refl _) _⟩
  case round =>
    obtain ⟨k, c, out, hk, rfl, rfl, ho, H, hB⟩ := hrel
    have ha := HA wr hB k
    have hb := HB wr hB k
    obtain ⟨a, hae⟩ : ∃ a, a = lb l k := ⟨_, rfl⟩
    obtain ⟨b, hbe⟩ : ∃ b, b = lb m k := ⟨_, rfl⟩
    rw [← hae] at ha
    rw [← hbe] at hb
    have ha32 : a < 4294967296 := by rw [hae]; exact HL.out.1.at k
    have hb32 : b < 4294967296 := by rw [hbe]; exact HL.out.2.at k
    have hc1 := H.out.car
    have hol := H.out.len
    have hout : out.length ≤ 10000000001 := by omega
    by_cases hlt : k ≤ max l.length m.length
    · obtain ⟨y, hy⟩ : ∃ y, y = (a + b + c) % 4294967296 := ⟨_, rfl⟩
      obtain ⟨d, hd⟩ : ∃ y, y = (a + b + c) / 4294967296 := ⟨_, rfl⟩
      have NX := Lib.hid (ad_step H.out HL.out.1 HL.out.2 (by rw [← hae, ← hbe]) hlt)
      rw [← hy, ← hd] at NX
      have hyi : ((a : Int) + (b : Int) + (c : Int)) % 4294967296 = (y : Int) := by omega
      have hdi : ((a : Int) + (b : Int) + (c : Int)) / 4294967296 = (d : Int) := by omega
      have hy32 : y < 4294967296 := by omega
      have hcs : k ≤ l.length ∨ (¬ k ≤ l.length ∧ k ≤ m.length) := by omega
      clear hae hbe hy hd HA HB hlt hol
      rcases hcs with hc1 | ⟨hc1, hc2⟩
      all_goals
        go_wp2_with (first
          | (go_at_call 49; (first | (with_reducible refine ha.out.mono ?_) | (with_reducible refine hb.out.mono ?_)); rintro e w' ⟨rfl, rfl⟩)
          | (at_builtin; refine ap32 rfl _ _ rfl w.heap.size _ out rfl (ho.al _) ⟨wr.heap.size, 0, none⟩ 1 1 [y] rfl rfl (cell_one_new _ _ _) (by omega) (by have := hB.size; simp; omega) ?_; intro v2 w2 ho2 hg2 hb2))
        go_roundw
        case rel => exact ⟨k + 1, d, out ++ [y], by omega, by go_num, val_int (by omega), ho2, NX, (hB.alloc hB.size _).trans hb2⟩
        case measure => simp [intOf]; omega
    · have HE := Lib.hid (ad_end H.out (by omega))
      have hlo := H.out.lim
      have n1 : ¬ (k ≤ l.length) := by omega
      have n2 : ¬ (k ≤ m.length) := by omega
      clear hae hbe HA HB ha hb
      go_wp2_with (go_at_call 32; refine (r1_Make _ _ _ ho.rd hlo (by omega)).mono ?_; rintro e w3 ⟨v3, rfl, h3, hb3⟩)
      go_ret
      exact ⟨_, rfl, by rw [← HE.out]; exact h3, up_then hB hb3⟩

/-- A difference, k limbs of it. -/
structure Sb (l m o : List Nat) (k c : Nat) : Prop where
  lim : Lim o
  len : o.length = k
  car : c ≤ 1
  val : Go.Proofs.YtffkedepffjobaaDoor.val o + Go.Proofs.YtffkedepffjobaaDoor.val (m.take k) = Go.Proofs.YtffkedepffjobaaDoor.val (l.take k) + 2 ^ (32 * k) * c
theorem sb_step {l m o : List Nat} {k c n : Nat} (h : Sb l m o k c) (hl : Lim l) (hm : Lim m) (hn : n + lb m k + c = 4294967296 + lb l k) : Sb l m (o ++ [n % 4294967296]) (k + 1) (1 - n / 4294967296) ∧ n / 4294967296 ≤ 1 := by
  have h1 := hl.at k
  have h2 := hm.at k
  change lb l k < _ at h1
  change lb m k < _ at h2
  have hc := h.car
  have hn1 : n / 4294967296 ≤ 1 := by omega
  refine ⟨⟨h.lim.snoc (Nat.mod_lt _ (by omega)), by simp [h.len], by omega, ?_⟩, hn1⟩
  have hv := h.val
  rw [take_lb l k, take_lb m k, val_snoc, h.len, pow32_succ, Nat.mul_assoc]
  generalize 2 ^ (32 * k) = P at *
  have e : n % 4294967296 + lb m k + c = lb l k + 4294967296 * (1 - n / 4294967296) := by omega
  have e1 : P * (n % 4294967296) + P * lb m k + P * c = P * lb l k + P * (4294967296 * (1 - n / 4294967296)) := by
    rw [← Nat.mul_add, ← Nat.mul_add, e, Nat.mul_add]
  omega
theorem sb_end {l m o : List Nat} {c : Nat} (h : Sb l m o l.length c) (hl : Nrm l) (hm : Nrm m) (hle : Go.Proofs.YtffkedepffjobaaDoor.val m ≤ Go.Proofs.YtffkedepffjobaaDoor.val l) : Go.Proofs.YtffkedepffjobaaDoor.val o = Go.Proofs.YtffkedepffjobaaDoor.val l - Go.Proofs.YtffkedepffjobaaDoor.val m := by
  have hml : m.length ≤ l.length := by
    rcases Nat.lt_or_ge l.length m.length with g | g
    · have := val_lt_of_len hl.1 hm g; omega
    · exact g
  have hv := h.val
  rw [List.take_length, List.take_of_length_le hml] at hv
  have ho := val_lt h.lim
  rw [h.len] at ho
  have hc := h.car
  have hc' : c = 0 ∨ c = 1 := by omega
  rcases hc' with rfl | rfl
  · omega
  · rw [Nat.mul_one] at hv; omega

set_option maxHeartbeats 1000000 in
theorem r1_Sub (w : World) (va vb : Value) (x y : Nat) (ha : IsN w va x) (hb : IsN w vb y) (bx : bl x ≤ 100000000000) (by_ : bl y ≤ 100000000000) :
    Calls Tryd.prog 28 #[va, vb] w (AnsSub w x y) := by
  have HC := Lib.hid (r1_Cmp w va vb x y ha hb bx by_)
  obtain ⟨l, hR, hl, rfl⟩ := ha
  obtain ⟨m, hR', hm, rfl⟩ := hb
  have hll : l.length ≤ 10000000000 := by have := hl.len; omega
  have hml : m.length ≤ 10000000000 := by have := hm.len; omega
  have HL := Lib.hid (And.intro hl hm)
  have HA := fun W (hB : Below w.heap.size w W) i => Lib.hid (r1_limb W va l i (hR.up hB) hl.1 (by omega))
  have HB := fun W (hB : Below w.heap.size w W) i => Lib.hid (r1_limb W vb m i (hR'.up hB) hm.1 (by omega))
  obtain ⟨A, c, rfl, _⟩ := hR
  obtain ⟨A', c', rfl, _⟩ := hR'
  obtain ⟨z, hz⟩ : ∃ z, z = cmp3 (val l) (val m) := ⟨_, rfl⟩
  rw [← hz] at HC
  by_cases hlt : val l < val m
  · have hz0 : z < 0 := by rw [hz]; exact cmp3_neg.2 hlt
    have HT := Lib.hid hlt
    clear bx by_ hl hm hz hlt HA HB
    go_enter Tryd.func28, Tryd.ntmps28
    go_wp2_with (go_at_call 25; refine HC.out.mono ?_; rintro e w' ⟨rfl, rfl⟩)
    go_ret2
    have := HT.out
    exact ⟨_, rfl, ⟨_, by rw [decide_eq_false (by omega)]; rfl, by rw [Nat.sub_eq_zero_of_le (by omega)]; exact ⟨[], Rd.nil _ _ _ _ (fun _ => rfl), Nrm.nil, rfl⟩⟩, Below.refl _ _⟩
  · have hz0 : ¬ z < 0 := by rw [hz]; exact fun h => hlt (cmp3_neg.1 h)
    have HT := Lib.hid (show val m ≤ val l by omega)
    clear bx by_ hl hm hz hlt
    go_enter Tryd.func28, Tryd.ntmps28
    go_wp2_with (go_at_call 25; refine HC.out.mono ?_; rintro e w' ⟨rfl, rfl⟩)
    go_loopw [6, 7, 8] (fun o cv i wr => ∃ (k c : Nat) (out : List Nat), k ≤ l.length ∧ i = .int .i64 k ∧ cv = .int .u64 c ∧ Own wr w.heap.size 36 .u32 o out ∧ Hid (Sb l m out k c) ∧ Below w.heap.size w wr) (fun _ _ i _ => l.length - (intOf i).toNat)
    case atStart => exact ⟨0, 0, [], by omega, rfl, rfl, Own.lit w _ _ [] _ (Nat.le_refl _) (by simp), Lib.hid ⟨Lim.nil, rfl, by omega, by simp [val]⟩, (Below.refl _ _).alloc (Nat.le_refl _) _⟩
    case round =>
      obtain ⟨k, c, out, hk, rfl, rfl, ho, H, hB⟩ := hrel
      have ha := HA wr hB k
      have hb := HB wr hB k
      obtain ⟨a, hae⟩ : ∃ a, a = lb l k := ⟨_, rfl⟩
      obtain ⟨b, hbe⟩ : ∃ b, b = lb m k := ⟨_, rfl⟩
      rw [← hae] at ha
      rw [← hbe] at hb
      have ha32 : a < 4294967296 := by rw [hae]; exact HL.out.1.1.at k
      have hb32 : b < 4294967296 := by rw [hbe]; exact HL.out.2.1.at k
      have hc1 := H.out.car
      have hol := H.out.len
      have hout : out.length ≤ 10000000001 := by omega
      by_cases hlt : k < l.length
      · obtain ⟨n, hn⟩ : ∃ n, n = 4294967296 + a - b - c := ⟨_, rfl⟩
        obtain ⟨y, hy⟩ : ∃ y, y = n % 4294967296 := ⟨_, rfl⟩
        obtain ⟨d, hd⟩ : ∃ y, y = n / 4294967296 := ⟨_, rfl⟩
        have NX := Lib.hid (sb_step (n := n) H.out HL.out.1.1 HL.out.2.1 (by rw [← hae, ← hbe]; omega))
        rw [← hy, ← hd] at NX
        have hyi : ((4294967296 : Int) + (a : Int) - (b : Int) - (c : Int)) % 4294967296 = (y : Int) := by omega
        have hdi : ((4294967296 : Int) + (a : Int) - (b : Int) - (c : Int)) / 4294967296 = (d : Int) := by omega
        have hy32 : y < 4294967296 := by omega
        have hd1 := NX.out.2
        clear hae hbe hn hy hd HA HB hol
        go_wp2_with (first
          | (go_at_call 49; (first | (with_reducible refine ha.out.mono ?_) | (with_reducible refine hb.out.mono ?_)); rintro e w' ⟨rfl, rfl⟩)
          | (at_builtin; refine ap32 rfl _ _ rfl w.heap.size _ out rfl (ho.al _) ⟨wr.heap.size, 0, none⟩ 1 1 [y] rfl rfl (cell_one_new _ _ _) (by omega) (by have := hB.size; simp; omega) ?_; intro v2 w2 ho2 hg2 hb2))
        go_roundw
        case rel => exact ⟨k + 1, 1 - d, out ++ [y], by omega, by go_num, val_int (by omega), ho2, NX.out.1, (hB.alloc hB.size _).trans hb2⟩
        case measure => simp [intOf]; omega
      · obtain rfl : k = l.length := by omega
        have HE := Lib.hid (sb_end H.out HL.out.1 HL.out.2 HT.out)
        have hlo := H.out.lim
        clear hae hbe HA HB ha hb hol
        go_wp2_with (go_at_call 32; refine (r1_Make _ _ _ ho.rd hlo (by omega)).mono ?_; rintro e w3 ⟨v3, rfl, h3, hb3⟩)
        go_ret2
        exact ⟨_, rfl, ⟨_, by rw [decide_eq_true HT.out]; rfl, by rw [← HE.out]; exact h3⟩, up_then hB hb3⟩
end Go.Proofs.YtffkedepffjobaaDoor

namespace Go.Proofs.YtffkedepffjobaaDoor
open Go.RowKit
set_option maxRecDepth 100000

/-- What is shifted, k limbs of it. -/
structure Sl (l o : List Nat) (n k c : Nat) : Prop where
  lim : Lim o
  len : o.length = n / 32 + k
  car : c < 2 ^ (n % 32)
  val : Go.Proofs.YtffkedepffjobaaDoor.val o + 2 ^ (32 * o.length) * c = Go.Proofs.YtffkedepffjobaaDoor.val (l.take k) * 2 ^ n
theorem sl_step {l o : List Nat} {n k c x : Nat} (h : Sl l o n k c) (hl : Lim l) (hx : x = lb l k * 2 ^ (n % 32) + c) : Sl l (o ++ [x % 4294967296]) n (k + 1) (x / 4294967296) ∧ x < 18446744073709551616 := by
  have h1 := hl.at k
  change lb l k < _ at h1
  have hc := h.car
  have hp : 2 ^ (n % 32) ≤ 2 ^ 31 := Nat.pow_le_pow_right (by omega) (by omega)
  have hx1 : x < 4294967296 * 2 ^ (n % 32) := by
    have : (lb l k + 1) * 2 ^ (n % 32) ≤ 4294967296 * 2 ^ (n % 32) := Nat.mul_le_mul_right _ h1
    rw [Nat.add_mul] at this
    omega
  refine ⟨⟨h.lim.snoc (Nat.mod_lt _ (by omega)), by simp [h.len]; omega, ?_, ?_⟩, by omega⟩
  · rw [Nat.div_lt_iff_lt_mul (by omega), Nat.mul_comm]; exact hx1
  · have hv := h.val
    have hol := h.len
    rw [take_lb l k, val_snoc, List.length_append, List.length_singleton, pow32_succ, Nat.mul_assoc]
    have e0 : 2 ^ (32 * o.length) * 2 ^ (n % 32) = 2 ^ (32 * k) * 2 ^ n := by
      rw [pow_split n, hol, Nat.mul_add, Nat.pow_add]; ac_rfl
    have e1 : 2 ^ (32 * o.length) * (lb l k * 2 ^ (n % 32)) = 2 ^ (32 * k) * lb l k * 2 ^ n := by
      calc 2 ^ (32 * o.length) * (lb l k * 2 ^ (n % 32)) = 2 ^ (32 * o.length) * 2 ^ (n % 32) * lb l k := by ac_rfl
        _ = _ := by rw [e0]; ac_rfl
    generalize 2 ^ (32 * o.length) = P at *
    have e := Nat.div_add_mod x 4294967296
    have e2 : P * (4294967296 * (x / 4294967296)) + P * (x % 4294967296) = P * (lb l k * 2 ^ (n % 32)) + P * c := by
      rw [← Nat.mul_add, e, hx, Nat.mul_add]
    rw [Nat.add_mul]
    omega
theorem sl_end {l o : List Nat} {n c : Nat} (h : Sl l o n (l.length + 1) c) (hl : Lim l) : Go.Proofs.YtffkedepffjobaaDoor.val o = Go.Proofs.YtffkedepffjobaaDoor.val l * 2 ^ n := by
  have hv := h.val
  rw [List.take_of_length_le (by omega)] at hv
  have h1 := val_lt hl
  have h2 : Go.Proofs.YtffkedepffjobaaDoor.val l * 2 ^ n < 2 ^ (32 * o.length) := by
    rw [h.len, show 32 * (n / 32 + (l.length + 1)) = 32 * l.length + (32 * (n / 32) + 32) by omega, Nat.pow_add]
    exact Nat.mul_lt_mul_of_lt_of_le h1 (Nat.pow_le_pow_right (by omega) (by omega)) (Nat.two_pow_pos _)
  rcases Nat.eq_zero_or_pos c with rfl | h0
  · rw [Nat.mul_zero, Nat.add_zero] at hv; exact hv
  · exfalso
    have : 2 ^ (32 * o.length) * 1 ≤ 2 ^ (32 * o.length) * c := Nat.mul_le_mul_left _ h0
    omega

theorem two_pow_int (i : Nat) : (2 : Int) * ((2 ^ i : Nat) : Int) = ((2 ^ (i + 1) : Nat) : Int) := by rw [Nat.pow_succ, Nat.mul_comm]; rfl

set_option maxHeartbeats 1000000 in
theorem r1_Shl (w : World) (va : Value) (x n : Nat) (ha : IsN w va x) (bx : bl x ≤ 100000000000) (hn : n ≤ 100000000000) :
    Calls Tryd.prog 27 #[va, .int .i64 n] w (AnsN w (x * 2 ^ n)) := by
  obtain ⟨l, hR, hl, rfl⟩ := ha
  have hll : l.length ≤ 10000000000 := by have := hl.len; omega
  have HL := Lib.hid hl.1
  have HA := fun W (hB : Below w.heap.size w W) i => Lib.hid (r1_limb W va l i (hR.up hB) hl.1 (by omega))
  obtain ⟨A, c, rfl, _⟩ := hR
  obtain ⟨q, hq⟩ : ∃ q, n / 32 = q := ⟨_, rfl⟩
  obtain ⟨s, hs'⟩ : ∃ s, n % 32 = s := ⟨_, rfl⟩
  have hs32 : s < 32 := by omega
  have hqb : q ≤ 10000000000 := by omega
  have HQ := Lib.hid (And.intro hq hs')
  have iq : (n : Int) / 32 = q := by omega
  have is : (n : Int) % 32 = s := by omega
  have H0 : Hid (Sl l (List.replicate q 0) n 0 0) := Lib.hid ⟨Lim.rep _, by simp [hq], Nat.two_pow_pos _, by simp [val_rep, val]⟩
  clear bx hl hq hs'
  go_enter Tryd.func27, Tryd.ntmps27
  go_wp2
  go_loopw [5, 8] (fun o i wr => ∃ k : Nat, k ≤ q ∧ i = .int .i64 k ∧ Own wr w.heap.size 36 .u32 o (List.replicate k 0) ∧ Below w.heap.size w wr) (fun _ i _ => q - (intOf i).toNat)
  case atStart => exact ⟨0, by omega, rfl, Own.lit w _ _ [] _ (Nat.le_refl _) (by simp), (Below.refl _ _).alloc (Nat.le_refl _) _⟩
  case round =>
    obtain ⟨k, hk, rfl, ho, hB⟩ := hrel
    by_cases hlt : k < q
    · clear HA
      go_wp2_with (at_builtin; refine ap32 rfl _ _ rfl w.heap.size _ (List.replicate k 0) rfl (ho.al _) ⟨wr.heap.size, 0, none⟩ 1 1 [0] rfl rfl (cell_one_new _ _ _) (by simp; omega) (by have := hB.size; simp; omega) ?_; intro v2 w2 ho2 hg2 hb2)
      go_roundw
      case rel => exact ⟨k + 1, by omega, by go_num, by rw [List.replicate_succ']; exact ho2, (hB.alloc hB.size _).trans hb2⟩
      case measure => simp [intOf]; omega
    · obtain rfl : k = q := by omega
      clear hlt hk
      go_wp2
      go_loop [7, 9] (fun b i => ∃ j : Nat, j ≤ s ∧ i = .int .i64 j ∧ b = .int .u64 (2 ^ j : Nat)) (fun _ i => s - (intOf i).toNat)
      case atStart => exact ⟨0, by omega, rfl, rfl⟩
      case round =>
        obtain ⟨j, hj, rfl, rfl⟩ := hrel
        have hpj : 2 ^ j ≤ 2 ^ 31 := Nat.pow_le_pow_right (by omega) (by omega)
        by_cases hlt : j < s
        · obtain ⟨p, hp⟩ : ∃ p, p = 2 ^ j := ⟨_, rfl⟩
          have NX := Lib.hid (two_pow_int j)
          rw [← hp] at hpj NX ⊢
          clear HA hp
          go_wp2
          go_round
          case rel => exact ⟨j + 1, by omega, by go_num, val_int NX.out⟩
          case measure => simp [intOf]; omega
        · obtain rfl : j = s := by omega
          clear hlt hj
          obtain ⟨p, hp⟩ : ∃ p, p = 2 ^ j := ⟨_, rfl⟩
          have HP := Lib.hid hp
          rw [← hp] at hpj ⊢
          clear hp
          go_wp2
          obtain ⟨wo, rfl⟩ : ∃ wo : World, wo = wr := ⟨_, rfl⟩
          go_loopw [5, 6, 10] (fun o cv i wr => ∃ (k c : Nat) (out : List Nat), k ≤ l.length + 1 ∧ i = .int .i64 k ∧ cv = .int .u64 c ∧ Own wr w.heap.size 36 .u32 o out ∧ Hid (Sl l out n k c) ∧ Below w.heap.size w wr) (fun _ _ i _ => l.length + 1 - (intOf i).toNat)
          case atStart => exact ⟨0, 0, _, by omega, rfl, rfl, ho, H0, hB⟩
          case round =>
            clear ho hB H0
            obtain ⟨k, c, out, hk, rfl, rfl, ho, H, hB⟩ := hrel
            have ha := HA wr hB k
            obtain ⟨a, hae⟩ : ∃ a, a = lb l k := ⟨_, rfl⟩
            rw [← hae] at ha
            have ha32 : a < 4294967296 := by rw [hae]; exact HL.out.at k
            have hcr : c < 2147483648 := by
              have := H.out.car
              rw [HQ.out.2, ← HP.out] at this
              omega
            have hol : out.length ≤ 20000000001 := by have := H.out.len; rw [HQ.out.1] at this; omega
            by_cases hlt : k ≤ l.length
            · obtain ⟨z, hz⟩ : ∃ z, z = a * p := ⟨_, rfl⟩
              have hzi : (a : Int) * (p : Int) = (z : Int) := by rw [hz]; simp
              have hzb : z < 9223372036854775808 := by rw [hz]; exact Nat.lt_of_lt_of_le (Nat.mul_lt_mul_of_lt_of_le ha32 hpj (by omega)) (by omega)
              obtain ⟨y, hy⟩ : ∃ y, y = (z + c) % 4294967296 := ⟨_, rfl⟩
              obtain ⟨d, hd⟩ : ∃ y, y = (z + c) / 4294967296 := ⟨_, rfl⟩
              have NX := Lib.hid (sl_step (x := z + c) H.out HL.out (by rw [← hae, HQ.out.2, ← HP.out, hz])).1
              rw [← hy, ← hd] at NX
              have hyi : ((z : Int) + (c : Int)) % 4294967296 = (y : Int) := by omega
              have hdi : ((z : Int) + (c : Int)) / 4294967296 = (d : Int) := by omega
              have hy32 : y < 4294967296 := by omega
              clear hae hz hy hd HA
              go_wp2_with (first
                | (go_at_call 49; refine ha.out.mono ?_; rintro e w' ⟨rfl, rfl⟩)
                | (at_builtin; refine ap32 rfl _ _ rfl w.heap.size _ out rfl (ho.al _) ⟨wr.heap.size, 0, none⟩ 1 1 [y] rfl rfl (cell_one_new _ _ _) (by omega) (by have := hB.size; simp; omega) ?_; intro v2 w2 ho2 hg2 hb2))
              go_roundw
              case rel => exact ⟨k + 1, d, out ++ [y], by omega, by go_num, val_int (by omega), ho2, NX, (hB.alloc hB.size _).trans hb2⟩
              case measure => simp [intOf]; omega
            · obtain rfl : k = l.length + 1 := by omega
              have HE := Lib.hid (sl_end H.out HL.out)
              have hlo := H.out.lim
              clear hae HA ha
              go_wp2_with (go_at_call 32; refine (r1_Make _ _ _ ho.rd hlo (by omega)).mono ?_; rintro e w3 ⟨v3, rfl, h3, hb3⟩)
              go_ret
              exact ⟨_, rfl, by rw [← HE.out]; exact h3, up_then hB hb3⟩

theorem shr_limb (x y s : Nat) (hx : x < 4294967296) (hs : s < 32) : (x + 4294967296 * (y % 2 ^ s)) / 2 ^ s % 4294967296 = x / 2 ^ s + y % 2 ^ s * 2 ^ (32 - s) := by
  have e32 : 2 ^ s * 2 ^ (32 - s) = 4294967296 := by rw [← Nat.pow_add, show s + (32 - s) = 32 by omega]
  have h1 : y % 2 ^ s < 2 ^ s := Nat.mod_lt _ (Nat.two_pow_pos s)
  have h2 : (y % 2 ^ s + 1) * 2 ^ (32 - s) ≤ 2 ^ s * 2 ^ (32 - s) := Nat.mul_le_mul_right _ h1
  rw [e32, Nat.add_mul] at h2
  have h3 : x / 2 ^ s < 2 ^ (32 - s) := by rw [Nat.div_lt_iff_lt_mul (Nat.two_pow_pos s), Nat.mul_comm, e32]; exact hx
  have e : 4294967296 * (y % 2 ^ s) = 2 ^ s * (y % 2 ^ s * 2 ^ (32 - s)) := by rw [← e32]; ac_rfl
  rw [e, Nat.add_mul_div_left _ _ (Nat.two_pow_pos s), Nat.mod_eq_of_lt (by omega)]

set_option maxHeartbeats 1000000 in
theorem r1_Shr (w : World) (va : Value) (x n : Nat) (ha : IsN w va x) (bx : bl x ≤ 100000000000) (hn : n ≤ 100000000000) :
    Calls Tryd.prog 29 #[va, .int .i64 n] w (AnsN w (x / 2 ^ n)) := by
  obtain ⟨l, hR, hl, rfl⟩ := ha
  have hll : l.length ≤ 10000000000 := by have := hl.len; omega
  have HL := Lib.hid hl.1
  have HA := fun W (hB : Below w.heap.size w W) i => Lib.hid (r1_limb W va l i (hR.up hB) hl.1 (by omega))
  obtain ⟨A, c, rfl, _⟩ := hR
  obtain ⟨q, hq⟩ : ∃ q, n / 32 = q := ⟨_, rfl⟩
  obtain ⟨s, hs'⟩ : ∃ s, n % 32 = s := ⟨_, rfl⟩
  have hs32 : s < 32 := by omega
  have hqb : q ≤ 10000000000 := by omega
  have HQ := Lib.hid (And.intro hq hs')
  have iq : (n : Int) / 32 = q := by omega
  have is : (n : Int) % 32 = s := by omega
  clear bx hl hq hs'
  go_enter Tryd.func29, Tryd.ntmps29
  go_wp2
  go_loop [6, 7] (fun b i => ∃ j : Nat, j ≤ s ∧ i = .int .i64 j ∧ b = .int .u64 (2 ^ j : Nat)) (fun _ i => s - (intOf i).toNat)
  case atStart => exact ⟨0, by omega, rfl, rfl⟩
  case round =>
    obtain ⟨j, hj, rfl, rfl⟩ := hrel
    have hpj : 2 ^ j ≤ 2 ^ 31 := Nat.pow_le_pow_right (by omega) (by omega)
    have hp0 : 0 < 2 ^ j := Nat.two_pow_pos j
    by_cases hlt : j < s
    · obtain ⟨p, hp⟩ : ∃ p, p = 2 ^ j := ⟨_, rfl⟩
      have NX := Lib.hid (two_pow_int j)
      rw [← hp] at hpj NX hp0 ⊢
      clear HA hp
      go_wp2
      go_round
      case rel => exact ⟨j + 1, by omega, by go_num, val_int NX.out⟩
      case measure => simp [intOf]; omega
    · obtain rfl : j = s := by omega
      clear hlt hj
      obtain ⟨p, hp⟩ : ∃ p, p = 2 ^ j := ⟨_, rfl⟩
      have HP := Lib.hid hp
      rw [← hp] at hpj hp0 ⊢
      clear hp
      go_wp2
      go_loopw [5, 8] (fun o i wr => ∃ (k : Nat) (out : List Nat), (k ≤ l.length - q) ∧ i = .int .i64 ((q + k : Nat) : Int) ∧ Own wr w.heap.size 36 .u32 o out ∧
        Hid (Lim out ∧ out.length = k ∧ val out * 2 ^ j + lb l q % 2 ^ j = val ((l.drop q).take k) + 2 ^ (32 * k) * (lb l (q + k) % 2 ^ j)) ∧ Below w.heap.size w wr) (fun _ i _ => l.length - (intOf i).toNat)
      case atStart => exact ⟨0, [], Nat.zero_le _, rfl, Own.lit w _ _ [] _ (Nat.le_refl _) (by simp), Lib.hid ⟨Lim.nil, rfl, by simp [val]⟩, (Below.refl _ _).alloc (Nat.le_refl _) _⟩
      case round =>
        obtain ⟨k, out, hk, rfl, ho, H, hB⟩ := hrel
        have ha := HA wr hB (q + k)
        have hb := HA wr hB (q + k + 1)
        obtain ⟨a, hae⟩ : ∃ a, a = lb l (q + k) := ⟨_, rfl⟩
        obtain ⟨b, hbe⟩ : ∃ b, b = lb l (q + k + 1) := ⟨_, rfl⟩
        rw [← hae] at ha
        rw [← hbe] at hb
        have ha32 : a < 4294967296 := by rw [hae]; exact HL.out.at _
        have hb32 : b < 4294967296 := by rw [hbe]; exact HL.out.at _
        have hol : out.length ≤ 10000000000 := by have := H.out.2.1; omega
        obtain ⟨i, hi⟩ : ∃ i, i = q + k := ⟨_, rfl⟩
        by_cases hlt : q + k < l.length
        · obtain ⟨r, hr⟩ : ∃ r, r = (a + 4294967296 * (b % p)) / p % 4294967296 := ⟨_, rfl⟩
          have NX : Hid (Lim (out ++ [r]) ∧ (out ++ [r]).length = k + 1 ∧ val (out ++ [r]) * 2 ^ j + lb l q % 2 ^ j = val ((l.drop q).take (k + 1)) + 2 ^ (32 * (k + 1)) * (lb l (q + (k + 1)) % 2 ^ j)) := by
            obtain ⟨h1, h2, h3⟩ := H.out
            have e1 : ∀ j, lb (l.drop q) j = lb l (q + j) := fun j => by simp [lb]
            have hr32 : r < 4294967296 := by rw [hr]; exact Nat.mod_lt _ (by omega)
            refine ⟨h1.snoc hr32, by simp [h2], ?_⟩
            have := shr_step out (l.drop q) k j r (lb l q % 2 ^ j) hs32 (by simp; omega) h2 (by rw [e1, e1, hr, HP.out, shr_limb _ _ _ ha32 hs32, hae, hbe]; rfl) (by rw [e1]; exact h3)
            rw [e1] at this
            exact this
          obtain ⟨t, ht⟩ : ∃ t, t = b % p := ⟨_, rfl⟩
          have htp : t < p := by rw [ht]; exact Nat.mod_lt _ hp0
          have hti : (b : Int) % (p : Int) = (t : Int) := by rw [ht, Int.natCast_emod]
          obtain ⟨u, hu⟩ : ∃ u, u = (a + 4294967296 * t) / p := ⟨_, rfl⟩
          have hui : ((a : Int) + 4294967296 * (t : Int)) / (p : Int) = (u : Int) := by
            rw [hu, Int.natCast_ediv]; simp
          rw [← ht, ← hu] at hr
          have hub : u < 18446744073709551616 := by
            have : u ≤ a + 4294967296 * t := by rw [hu]; exact Nat.div_le_self _ _
            omega
          have hri : (u : Int) % 4294967296 = (r : Int) := by omega
          have hr32 : r < 4294967296 := by omega
          have hpne : ¬ (p = 0) := by omega
          have hii : ((q + k : Nat) : Int) = (i : Int) := by omega
          rw [hii]
          rw [← hi] at ha hb hlt
          rw [show ((i + 1 : Nat) : Int) = (i : Int) + 1 from rfl] at hb
          have hi10 : i ≤ 10000000000 := by omega
          have HI := Lib.hid hi
          clear hae hbe hr ht hu HA hi hii
          go_wp2_with (first
            | (go_at_call 49; (first | (with_reducible refine ha.out.mono ?_) | (with_reducible refine hb.out.mono ?_)); rintro e w' ⟨rfl, rfl⟩)
            | (at_builtin; refine ap32 rfl _ _ rfl w.heap.size _ out rfl (ho.al _) ⟨wr.heap.size, 0, none⟩ 1 1 [r] rfl rfl (cell_one_new _ _ _) (by omega) (by have := hB.size; simp; omega) ?_; intro v2 w2 ho2 hg2 hb2))
          go_roundw
          case rel => exact ⟨k + 1, out ++ [r], by have := HI.out; omega, val_int (by have := HI.out; omega), ho2, NX, (hB.alloc hB.size _).trans hb2⟩
          case measure => simp [intOf]; omega
        · obtain ⟨h1, h2, h3⟩ := H.out
          have HE : Hid (val out = val l / 2 ^ n) := by
            rcases Nat.lt_or_ge l.length q with hq | hq
            · obtain rfl : k = 0 := by omega
              obtain rfl := List.eq_nil_of_length_eq_zero h2
              refine Lib.hid ?_
              rw [Nat.div_eq_of_lt, val]
              have h := HQ.out
              exact Nat.lt_of_lt_of_le (val_lt HL.out) (Nat.pow_le_pow_right (by omega) (by omega))
            · obtain rfl : k = l.length - q := by omega
              exact Lib.hid (shr_end out l n q j HQ.out HL.out hq h3)
          have hii : ((q + k : Nat) : Int) = (i : Int) := by omega
          rw [hii]
          rw [← hi] at hlt
          clear hae hbe HA ha hb h3 hi hii h2 hk
          go_wp2_with (go_at_call 32; refine (r1_Make _ _ _ ho.rd h1 (by omega)).mono ?_; rintro e w3 ⟨v3, rfl, h3, hb3⟩)
          go_ret
          exact ⟨_, rfl, by rw [← HE.out]; exact h3, up_then hB hb3⟩
end Go.Proofs.YtffkedepffjobaaDoor

namespace Go.Proofs.YtffkedepffjobaaDoor
open Go.RowKit
set_option maxRecDepth 100000

set_option maxHeartbeats 1000000 in
theorem r3_School (w : World) (va vb : Value) (x y : Nat) (ha : IsN w va x) (hb : IsN w vb y) (bx : bl x ≤ 100000000000) (by_ : bl y ≤ 100000000000) :
    Calls Tryd.prog 26 #[va, vb] w (AnsN w (x * y)) := by
  obtain ⟨la, hR, hl, rfl⟩ := ha
  obtain ⟨lm, hR', hm, rfl⟩ := hb
  have hll : la.length ≤ 4000000000 := by have := hl.len; omega
  have hml : lm.length ≤ 4000000000 := by have := hm.len; omega
  have HL := Lib.hid (And.intro hl.1 hm.1)
  clear bx by_ hl hm
  obtain ⟨A, c, rfl, hc1, hz1, hr1⟩ := hR
  obtain ⟨A', c', rfl, hc2, hz2, hr2⟩ := hR'
  have HR1 := Lib.hid hr1
  have HR2 := Lib.hid hr2
  clear hr1 hr2 hz1 hz2
  go_enter Tryd.func26, Tryd.ntmps26
  go_wp2_with (at_make; refine mk32e rfl _ _ rfl (la.length + lm.length) (la.length + lm.length) (val_int (by omega)) (val_int (by omega)) (Nat.le_refl _) (by omega) w.heap.size (Nat.le_refl _) ?_; intro w1 ho hb1 hsz)
  have hB := hb1
  go_loopw [6] (fun i wr => ∃ (k : Nat) (out : List Nat), k ≤ la.length ∧ i = .int .i64 k ∧ Own wr w.heap.size 36 .u32 (.slice (some ⟨w.heap.size, 0, none⟩) (la.length + lm.length) (la.length + lm.length)) out ∧ Hid (Sch la lm out k 0 0) ∧ Below w.heap.size w wr) (fun i _ => la.length - (intOf i).toNat)
  case atStart => exact ⟨0, _, Nat.zero_le _, rfl, ho, sch_start la lm, hB⟩
  case round =>
    clear hB ho hb1
    obtain ⟨i, out, hi, rfl, ho, HS, hB⟩ := hrel
    by_cases hlt : i < la.length
    · have hli : i < la.length := hlt
      go_wp2
      obtain ⟨wo, rfl⟩ : ∃ wo : World, wo = wr := ⟨_, rfl⟩
      go_loopw [7, 8] (fun cv kv wr => ∃ (k c : Nat) (out : List Nat), k ≤ lm.length ∧ kv = .int .i64 k ∧ cv = .int .u64 c ∧
          Own wr w.heap.size 36 .u32 (.slice (some ⟨w.heap.size, 0, none⟩) (la.length + lm.length) (la.length + lm.length)) out ∧ Hid (Sch la lm out i k c) ∧ Below w.heap.size w wr) (fun _ kv _ => lm.length - (intOf kv).toNat)
      case atStart => exact ⟨0, 0, out, Nat.zero_le _, rfl, rfl, ho, HS, hB⟩
      case round =>
        clear hB HS ho
        obtain ⟨k, c, out, hk, rfl, rfl, ho, HS, hB⟩ := hrel
        have hol := HS.out.len
        have hcar := HS.out.car
        by_cases hltk : k < lm.length
        · obtain ⟨ad, rfl, hs⟩ := HR1.out (by omega)
          obtain ⟨ad', rfl, hs'⟩ := HR2.out (by omega)
          obtain ⟨x, hxe⟩ : ∃ x, x = lb la i := ⟨_, rfl⟩
          have hx2 : wr.cell? (ad.add i) = some (.int .u32 (x : Nat)) := by
            rw [hxe]
            have hx := hs i hlt
            exact (hB.cell (World.block_lt_of_cell? w _ hx)).trans hx
          have hx32 : x < 4294967296 := by rw [hxe]; exact HL.out.1.at i
          obtain ⟨y, hye⟩ : ∃ y, y = lb lm k := ⟨_, rfl⟩
          have hy2 : wr.cell? (ad'.add k) = some (.int .u32 (y : Nat)) := by
            rw [hye]
            have hy := hs' k hltk
            exact (hB.cell (World.block_lt_of_cell? w _ hy)).trans hy
          have hy32 : y < 4294967296 := by rw [hye]; exact HL.out.2.at k
          obtain ⟨o, hoe⟩ : ∃ o, o = lb out (i + k) := ⟨_, rfl⟩
          have ho2 : wr.cell? ⟨w.heap.size, i + k, none⟩ = some (.int .u32 (o : Nat)) := by rw [hoe]; exact ho.cell hol.symm (i + k) (by omega)
          have ho32 : o < 4294967296 := by rw [hoe]; exact HS.out.lim.at _
          have hof := ho.froz hol.symm (i + k)
          obtain ⟨p, hp⟩ : ∃ p, p = x * y := ⟨_, rfl⟩
          have hp64 : p ≤ 18446744065119617025 := by have := Nat.mul_le_mul (show x ≤ 4294967295 by omega) (show y ≤ 4294967295 by omega); omega
          have hpi : (x : Int) * (y : Int) = (p : Int) := by rw [hp]; simp
          obtain ⟨t, ht⟩ : ∃ t, t = p + o := ⟨_, rfl⟩
          obtain ⟨z, hz⟩ : ∃ z, z = t + c := ⟨_, rfl⟩
          have hti : (p : Int) + (o : Int) = (t : Int) := by omega
          have hzi : (t : Int) + (c : Int) = (z : Int) := by omega
          have hz64 : z < 18446744073709551616 := by omega
          obtain ⟨s, hse⟩ : ∃ s, s = z % 4294967296 := ⟨_, rfl⟩
          obtain ⟨c', hce⟩ : ∃ c', c' = z / 4294967296 := ⟨_, rfl⟩
          have hsi : (z : Int) % 4294967296 = (s : Int) := by omega
          have hci : (z : Int) / 4294967296 = (c' : Int) := by omega
          have NX : Hid (Sch la lm (out.set (i + k) s) i (k + 1) c') := by
            have := (sch_step HS.out hli hltk HL.out.1 HL.out.2).1
            rw [← hxe, ← hye, ← hoe, ← hp, Nat.add_comm c, ← ht, ← hz, ← hse, ← hce] at this
            exact this
          have HO := fun n => Lib.hid ((ho.drN n).set hol.symm (i + k) s)
          have wp : IntKind.u64.wrap (p : Int) = (p : Int) := by rw [wu64]; omega
          have wt : IntKind.u64.wrap (t : Int) = (t : Int) := by rw [wu64]; omega
          have wz : IntKind.u64.wrap (z : Int) = (z : Int) := by rw [wu64]; omega
          have wx : IntKind.u64.wrap (x : Int) = (x : Int) := by rw [wu64]; omega
          have wy : IntKind.u64.wrap (y : Int) = (y : Int) := by rw [wu64]; omega
          have wo' : IntKind.u64.wrap (o : Int) = (o : Int) := by rw [wu64]; omega
          have wik : IntKind.i64.wrap ((i : Int) + (k : Int)) = (i : Int) + (k : Int) := IntWalk.i64_in _ (by omega)
          have i0 : (0 : Int) ≤ (i : Int) + (k : Int) := by omega
          have i1 : (i : Int) + (k : Int) < (la.length : Int) + (lm.length : Int) := by omega
          have i2 : ((i : Int) + (k : Int)).toNat = i + k := by omega
          have i3 : (i : Int) < (la.length : Int) := by omega
          have i4 : (k : Int) < (lm.length : Int) := by omega
          have hkn : k + 1 ≤ lm.length := by omega
          clear hxe hye hoe hp hse hce ht hz hs hs' ho hol
          go_wp2
          go_quiet (fail)
          go_wp2
          go_roundw
          case rel => exact ⟨k + 1, c', _, hkn, by go_num, rfl, (HO _).out, NX, (up_drewN hB _).setCell (p := ⟨w.heap.size, i + k, none⟩) (Nat.le_refl _) _⟩
          case measure => clear wp wt wz wx wy wo' wik i2; simp [intOf]; omega
        · obtain rfl : k = lm.length := by omega
          have hof := ho.froz hol.symm (i + lm.length)
          have NX := Lib.hid (sch_row HS.out hli)
          have HO := Lib.hid (ho.set hol.symm (i + lm.length) c)
          have ho2 := ho.cell hol.symm (i + lm.length) (by omega)
          clear ho hol
          go_wp2
          go_roundw
          case rel => exact ⟨i + 1, _, by omega, by go_num, HO.out, NX, hB.setCell (p := ⟨w.heap.size, i + lm.length, none⟩) (Nat.le_refl _) _⟩
          case measure => simp [intOf]; omega
    · obtain rfl : i = la.length := by omega
      have HE := Lib.hid (sch_end HS.out)
      have hlo := HS.out.lim
      have hol := HS.out.len
      have hob : out.length ≤ 8000000000 := by omega
      clear hlt hol
      go_wp2_with (go_at_call 32; refine (r1_Make _ _ out ho.rd hlo (by omega)).mono ?_; rintro e w3 ⟨v3, rfl, h3, hb3⟩)
      go_ret
      exact ⟨_, rfl, by rw [← HE.out]; exact h3, up_then hB hb3⟩

theorem r3_Pow (w : World) (va : Value) (x n : Nat) (ha : IsN w va x) (hx : bl x ≤ 1000000000) (hb : bl (x ^ n) ≤ 1000000000) (hn : n ≤ 1000000000) :
    Calls Tryd.prog 31 #[va, .int .i64 n] w (AnsN w (x ^ n)) := by
  have hbb : ∀ k, k ≤ n → bl (x ^ k) ≤ 1000000000 := fun k hk => by
    rcases Nat.eq_zero_or_pos x with rfl | h0
    · rcases Nat.eq_zero_or_pos k with rfl | h1
      · decide
      · rw [Nat.zero_pow h1]; decide
    · exact Nat.le_trans (bl_mono (Nat.pow_le_pow_right h0 hk)) hb
  have HBB := Lib.hid hbb
  clear hb hbb
  go_enter Tryd.func31, Tryd.ntmps31
  go_wp2
  go_loopw [5, 6] (fun ov iv wr => ∃ k : Nat, k ≤ n ∧ iv = .int .i64 k ∧ IsN wr ov (x ^ k) ∧ Below w.heap.size w wr) (fun _ iv _ => n - (intOf iv).toNat)
  case atStart => exact ⟨0, Nat.zero_le _, rfl, ⟨[1], (Own.lit w 36 .u32 [1] _ (Nat.le_refl _) (by simp [maxLen])).rd, ⟨Lim.cons (by omega) Lim.nil, .inr (by simp)⟩, rfl⟩, (Below.refl _ _).alloc (Nat.le_refl _) _⟩
  case round =>
    obtain ⟨k, hk, rfl, ho, hB⟩ := hrel
    by_cases hlt : k < n
    · have hk1 := HBB.out k hk
      go_wp2_with (go_at_call 26; refine (r3_School _ _ _ _ _ ho (ha.up hB) (by omega) (by omega)).mono ?_; rintro e w3 ⟨v3, rfl, h3, hb3⟩)
      go_roundw
      case rel => exact ⟨k + 1, by omega, by go_num, by rw [Nat.pow_succ]; exact h3, up_then hB hb3⟩
      case measure => simp [intOf]; omega
    · obtain rfl : k = n := by omega
      go_wp2
      go_ret
      exact ⟨_, rfl, ho, hB⟩
end Go.Proofs.YtffkedepffjobaaDoor

