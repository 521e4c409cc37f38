import Derived.Test.YtffkedepffjobaaDoorM11
import Derived.Test.YtffkedepffjobaaDoorCards
import Derived.Test.YtffkedepffjobaaDoorTie
namespace Go.Proofs.YtffkedepffjobaaDoor
open Go.ChangeShapes Go.WideShapes Go.ChangeAt Go.RowKit
set_option maxRecDepth 100000

theorem drN_then {w w1 : World} {n : Nat} (h : Below (w.drewN n).heap.size (w.drewN n) w1) : Below w.heap.size w w1 := (up_drewN (Below.refl _ _) n).trans h
theorem pw_pow {a b m k c o : Nat} (h : PwR a b m) (ha : 2 ≤ a) (hk : 1 ≤ k) (g : PwR (a ^ k) c o) : b = c ∧ o = m * k := by
  rcases h with ⟨h1, _⟩ | ⟨_, h2, h3, h4⟩
  · omega
  · have hm := Nat.mul_pos h3 hk
    rcases g with ⟨g1, _⟩ | ⟨g1, g2, g3, g4⟩
    · have := le_pow' a k hk (by omega); omega
    · have e : b ^ (m * k) = c ^ o := by rw [g4, Nat.pow_mul, h4]
      obtain ⟨e1, e2⟩ := h2.inj g2 hm g3 e
      exact ⟨e1, e2.symm⟩
set_option maxHeartbeats 4000000 in
theorem rootMost_walk (w : World) (va : Value) (l : List Nat) (n : Nat) (hR : Rd w .u32 va l) (hL : Lim l) (hb : l.length ≤ 9223372036854775807) (hn : n < 256) :
    Calls Tryd.prog 9 #[va, .int .u8 n] w fun e w' => e = .returned (.bool true) ∧ Below w.heap.size w w' := by
  have hab := md_lt l 4 hL
  obtain ⟨a, hae⟩ : ∃ a, val (l.take 4) = a := ⟨_, rfl⟩
  rw [hae] at hab
  obtain ⟨k, hk⟩ : ∃ k, k = 1 + n % 20 := ⟨_, rfl⟩
  have hki : (1 : Int) + (n : Int) % 20 = (k : Int) := by omega
  have hk1 : 1 ≤ k := by omega
  have hk20 : k ≤ 20 := by omega
  have hfit : bl a * k ≤ 6400 := Nat.le_trans (Nat.mul_le_mul hab hk20) (by omega)
  obtain ⟨x, hx⟩ : ∃ x, x = a ^ k := ⟨_, rfl⟩
  have bx : bl x ≤ 6400 := by rw [hx]; exact bl_pow_le (by omega) hfit
  have P1 := fun W v (h : IsN W v a) => Lib.hid (root_PowerE W v a h (by omega) (.inl (by omega)))
  have L1 := fun W v (h : IsN W v a) => Lib.hid (law_power W v a k h (by omega) (by omega) hk1)
  rw [decide_eq_true hfit, if_pos hfit, ← hx] at L1
  obtain ⟨z, hz⟩ : ∃ z, z = cmp3 a 1 := ⟨_, rfl⟩
  have HZ := Lib.hid hz
  have HX := Lib.hid hx
  have b1' : bl 1 ≤ 1 := by decide
  have hM := fun W (h : Rd W .u32 va l) => Lib.hid (r1_Made W va l 4 h hL hb (by omega))
  rw [hae] at hM
  have HR := Lib.hid hR
  obtain ⟨A0, d0, rfl, _⟩ := hR
  have hz01 : (a ≤ 1 ∧ z ≤ 0) ∨ (2 ≤ a ∧ 0 < z) := by
    rcases Nat.lt_or_ge 1 a with h | h
    · right; exact ⟨h, by rw [hz]; exact cmp3_pos.2 h⟩
    · left
      refine ⟨h, ?_⟩
      rw [hz]
      rcases Int.lt_or_le 0 (cmp3 a 1) with g | g
      · have := cmp3_pos.1 g; omega
      · exact g
  have HZ01 := Lib.hid hz01
  clear hae hk hx hz hfit hz01 hL
  go_enter Tryd.func9, Tryd.ntmps9
  go_wp2_with fail
  refine (law_head w).mono ?_
  rintro e w1 ⟨rfl, b1⟩
  go_wp2_with fail
  refine (hM _ (HR.out.up b1)).out.mono ?_
  rintro e w2 ⟨v2, rfl, i2, b2⟩
  obtain ⟨A2, d2, rfl⟩ := i2.slice
  go_wp2_with fail
  refine (P1 _ _ i2).out.mono ?_
  rintro e w3 ⟨v3, rfl, ⟨u3, b, m, rfl, i3, h3⟩, b3⟩
  obtain ⟨A3, d3, rfl⟩ := i3.slice
  go_wp2_with fail
  refine (L1 _ _ (i2.up b3)).out.mono ?_
  rintro e w4 ⟨v4, rfl, ⟨u4, rfl, i4⟩, b4⟩
  obtain ⟨A4, d4, rfl⟩ := i4.slice
  have i2' : IsN w4 (.slice A2 (nl a) d2) a := by repeat (first | assumption | (apply IsN.up' (by assumption)) | (apply IsN.al') | (apply IsN.drN'))
  have i3' : IsN w4 (.slice A3 (nl b) d3) b := by repeat (first | assumption | (apply IsN.up' (by assumption)) | (apply IsN.al') | (apply IsN.drN'))
  have bb : bl b ≤ 128 := by have := bl_mono h3.le; omega
  rcases HZ01.out with ⟨h1, hz0⟩ | ⟨h1, hz0⟩
  · have hbm : b = a ∧ m = 1 := by
      rcases h3 with ⟨_, h2, h3⟩ | ⟨h2, _⟩
      · exact ⟨h2, h3⟩
      · omega
    obtain ⟨rfl, rfl⟩ := hbm
    clear h3 h1
    go_wp2_with fail
    refine (kCmp1 (x := b) (y := 1) (hx := i2'.al _) (hy := litN _ 1 (by omega) (by omega))).mono ?_
    rintro e w5 ⟨rfl, rfl⟩
    rw [← HZ.out]
    go_wp2_with fail
    refine (kSameT (x := b) (y := b) rfl (i3'.al _) (i2'.al _) (by omega)).mono ?_
    rintro e w6 ⟨rfl, b6⟩
    go_wp2_with fail
    go_ret
    refine ⟨rfl, ?_⟩
    repeat (first | exact Below.refl _ _ | assumption | (apply up_then' (by assumption)) | (apply up_al') | (apply up_drN'))
  · have hz1 : ¬ z ≤ 0 := by omega
    obtain ⟨hm1, hmb, hpow⟩ : 1 ≤ m ∧ m ≤ bl a ∧ b ^ m = a := by
      rcases h3 with ⟨h2, _⟩ | ⟨_, h2, h4, h5⟩
      · omega
      · refine ⟨h4, ?_, h5⟩
        have := pow_bits (m := m) h2.1
        rw [h5] at this
        omega
    have hnl : ¬ (nl a < nl b) := by have := bl_mono h3.le; unfold nl; omega
    have HP := Lib.hid hpow
    have HPW := Lib.hid (And.intro h3 h1)
    have hm1i : ¬ ((m : Int) < 1) := by omega
    have hmbi : ¬ ((bl a : Int) < (m : Int)) := by omega
    have hmbn : ¬ (bl a < m) := by omega
    clear hpow h3
    go_wp2_with fail
    refine (kCmp1 (x := a) (y := 1) (hx := i2'.al _) (hy := litN _ 1 (by omega) (by omega))).mono ?_
    rintro e w5 ⟨rfl, rfl⟩
    rw [← HZ.out]
    go_wp2_with fail
    refine (kBits1 (x := a) (hx := i2'.al _)).mono ?_
    rintro e w5 ⟨rfl, n5, rfl⟩
    go_wp2_with fail
    refine (kPow3 (x := b) (n := m) rfl HP.out (hx := (i3'.al _).drN n5)).mono ?_
    rintro e w6 ⟨v6, rfl, i6, b6⟩
    go_wp2_with fail
    refine (kSameT (x := a) (y := a) rfl i6 (((i2'.al _).drN n5).up b6) (by omega)).mono ?_
    rintro e w7 ⟨rfl, b7⟩
    have b47 : Below w4.heap.size w4 w7 := up_then (up_alloc (Below.refl _ _) _) (drN_then (up_then b6 b7))
    have i3'' : IsN w7 (.slice A3 (nl b) d3) b := i3'.up b47
    have i4'' : IsN w7 (.slice A4 (nl x) d4) x := i4.up b47
    clear b6 b7 i6
    by_cases h20 : 20 < nl x
    · have h20i : (20 : Int) < (nl x : Int) := by omega
      go_wp2_with fail
      go_ret
      refine ⟨rfl, ?_⟩
      repeat (first | exact Below.refl _ _ | assumption | (apply up_then' (by assumption)) | (apply up_al') | (apply up_drN'))
    · have h20i : ¬ ((20 : Int) < (nl x : Int)) := by omega
      have bx2 : bl x ≤ 640 := by unfold nl at h20; omega
      have P2 := fun W v (h : IsN W v x) => Lib.hid (root_PowerE W v x h (by omega) (.inl (by omega)))
      go_wp2_with fail
      refine (P2 _ _ i4'').out.mono ?_
      rintro e w8 ⟨v8, rfl, ⟨u8, c, o, rfl, i8, h8⟩, b8⟩
      obtain ⟨hbc, hom⟩ := pw_pow HPW.out.1 HPW.out.2 hk1 (by rw [← HX.out]; exact h8)
      subst hbc
      have hoi : (m : Int) * (k : Int) = (o : Int) := by rw [hom]; simp
      have hob : o ≤ 10000000 := by
        rcases h8 with ⟨_, _, h⟩ | ⟨_, g2, g3, g4⟩
        · omega
        · have := pow_bits (m := o) g2.1
          rw [g4] at this
          omega
      clear hom h8
      go_wp2_with fail
      refine (kSameT (x := b) (y := b) rfl (i3''.up b8) i8 (by omega)).mono ?_
      rintro e w9 ⟨rfl, b9⟩
      go_wp2_with fail
      go_ret
      refine ⟨by first | rfl | simp, ?_⟩
      repeat (first | exact Below.refl _ _ | assumption | (apply up_then' (by assumption)) | (apply up_al') | (apply up_drN'))

/-- What the walk gives, for every argument. -/
theorem rootMost_contract (H : Type) (enc : TypeId × Value → H) (W : World) (base : Nat) (args : Array Value) (ds gs : List (DataW H)) (before : List MemPlace)
    (hval : ∀ (j : Nat) t v, Tryd.f9.params[j]? = some t → args[j]? = some v → Value.okWide Tryd.prog W .any base t v)
    (hW : DataW.Whole enc Tryd.prog Tryd.f9.params.toList Rows.rootMostSpec.vars false W args.toList ds gs before) :
    Calls Tryd.prog 9 args W fun e W' => ∃ v, e = .returned v ∧ Rows.rootMostSpec.post enc Tryd.prog Tryd.f9 false true false false W args v W' := by
  have hW' := hW
  obtain ⟨p, q, hA, hV, rfl, hfz, hnd⟩ := hW
  rw [Tryd.params9] at hA hval
  obtain ⟨v0, vs0, d0, ds0, p0, q0, hargs0, hds0, _, h0, r0⟩ := trodAll_cons hA
  obtain ⟨v1, vs1, d1, ds1, p1, q1, hargs1, hds1, _, h1, r1⟩ := trodAll_cons r0
  obtain ⟨e1, e2, _⟩ := trodAll_nil r1
  subst e1 e2
  subst hargs1 hds1
  subst hds0
  obtain rfl : args = #[v0, v1] := by cases args; simp_all
  obtain ⟨rfl, rfl⟩ := trodVars_none hV
  obtain ⟨l0, hl0, hL0, hb0⟩ := open_row (hval 0 _ v0 rfl rfl) h0
  obtain ⟨n1, hn1, _, _, hw1⟩ := open_int Tryd.underlying5 (hval 1 _ v1 rfl rfl) h1
  have hz1 := wf8 hw1
  obtain ⟨m1, rfl⟩ : ∃ m : Nat, n1 = m := ⟨n1.toNat, by omega⟩
  subst hn1
  refine (rootMost_walk W v0 l0 m1 hl0 hL0 hb0 (by omega)).mono fun e W' ⟨he, hb⟩ => ⟨_, he, ?_⟩
  exact post_true hW' rfl (by kernel_rfl) rfl rfl rfl (by kernel_rfl) hb

noncomputable def rootMost_world (os : Os) : World := World.doorLaid Tryd.prog 400 os
theorem rootMost_met (os : Os) : laidMet Tryd.prog Rows.rootMostRow.laid ((rootMost_world os).forCall (fun _ _ => 0) ⟨#[], #[.slice none 0 0, .int .u8 0], []⟩).memory :=
  laidMet_of_run' 8 (by kernel_rfl) (by kernel_rfl)
theorem rootMost_reads (os : Os) {H : Type} (enc : TypeId × Value → H) : ∃ places, DataW.whole enc Tryd.prog ((rootMost_world os).forCall (fun _ _ => 0) ⟨#[], #[.slice none 0 0, .int .u8 0], []⟩).memory Tryd.f9.params.toList Rows.rootMostSpec.vars false (#[.slice none 0 0, .int .u8 0] : Array Value).toList 8 = some ([.nil, .lit (.int .u8 0)], [], places) :=
  ⟨[], by kernel_rfl⟩
theorem rootMost_lifted (os : Os) (started : os.Started) (H : Type) (enc : TypeId × Value → H) (F : Stop.Interp) :
    ReturnsInHanded {} Tryd.checked os 9 .any ((OpenSpec.ofChange Rows.rootMostSpec).preRow enc Tryd.prog Tryd.f9 Rows.rootMostRow.domain false Rows.rootMostRow.laid) (((OpenSpec.ofChange Rows.rootMostSpec).at F).post enc Tryd.prog Tryd.f9 false true false false) := by
  obtain ⟨places, hx⟩ := rootMost_reads os enc
  refine returnsInHanded_of_row (C := Tryd.checked) (s := OpenSpec.ofChange Rows.rootMostSpec) own started (by kernel_rfl) Tryd.func9
    (witness_row_at (enc := enc) (C := Tryd.checked) false (rootMost_world os) #[.slice none 0 0, .int .u8 0] rfl (by kernel_rfl) (by kernel_rfl) (by kernel_rfl)
      (OpenSpec.preRow_of_cond 8 hx (by kernel_rfl) (fun k hk => by cases hk) (by kernel_rfl) (rootMost_met os))) ?_
  intro W base args ds gs before hval hW _ _ _ hL _ _
  exact rootMost_contract H enc W base args ds gs before hval hW
theorem rootMost_said : Rows.RootMostSaid :=
  OpenClaim.holds_of_cond 9 Tryd.f9 rfl rfl rfl rfl rfl rfl rfl ⟨rfl, rfl, rfl, rfl, rfl⟩ rfl rfl rfl rfl rfl (by kernel_rfl) Tryd.func9 (by kernel_rfl)
    (of_decide_eq_true (by kernel_rfl)) (by unfold Func.isWrapper; first | (rw [if_pos (by decide +kernel)]; kernel_rfl) | (rw [if_neg (by decide +kernel)]; exact ⟨rfl, rfl⟩))
    (fun os started H enc _ F => by rw [OpenClaim.pre_eq_preRow]; exact rootMost_lifted os started H enc F)
theorem rootMost_plain (f : FuncId) (fn : Func) (hf : Tryd.pinned.checked.prog.funcNamed "ziggurat/zigguratlaw08.RootMost" = some f) (hfn : Tryd.pinned.checked.prog.funcs[f]? = some fn) :
    false = Tryd.pinned.checked.prog.looks [] ∧ ∀ (j : Nat) t, fn.params[j]? = some t → Tryd.pinned.checked.prog.wantsStandIn t = false := by
  obtain rfl : f = 9 := Option.some.inj ((show Tryd.prog.funcNamed "ziggurat/zigguratlaw08.RootMost" = some 9 by kernel_rfl).symm.trans hf) |>.symm
  obtain rfl : fn = Tryd.f9 := (Option.some.inj (Tryd.func9.symm.trans hfn)).symm
  refine ⟨by kernel_rfl, fun j t ht => ?_⟩
  rw [Tryd.params9] at ht
  have hm : t ∈ [22, 5] := by simpa using Array.mem_of_getElem? ht
  have hall : ([22, 5].all fun u => !Tryd.prog.wantsStandIn u) = true := by kernel_rfl
  exact (show Tryd.prog.wantsStandIn t = false by simpa using List.all_eq_true.1 hall t hm)
/-- The law's card. -/
theorem rootMost_card : Rows.RootMostCardSaid :=
  Claim7.holds_tied_plain_at .later [] _ _ _ _ rootMost_said (fun _ h => by cases h) (by kernel_rfl) (fun _ h => by cases h) rootMost_row_tie rfl ⟨rfl, rfl⟩ (by kernel_rfl) rfl rootMost_plain (by kernel_rfl)

end Go.Proofs.YtffkedepffjobaaDoor
