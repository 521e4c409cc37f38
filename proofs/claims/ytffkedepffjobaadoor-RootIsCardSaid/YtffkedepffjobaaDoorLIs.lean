import Derived.Test.YtffkedepffjobaaDoorM11
import Derived.Test.YtffkedepffjobaaDoorCards
import Derived.Test.YtffkedepffjobaaDoorTie
namespace Go.Proofs.YtffkedepffjobaaDoor
open Go.ChangeShapes Go.WideShapes Go.ChangeAt Go.RowKit
set_option maxRecDepth 100000

set_option maxHeartbeats 4000000 in
theorem rootIs_walk (w : World) (va : Value) (l : List Nat) (n q : Nat) (hR : Rd w .u32 va l) (hL : Lim l) (hb : l.length ≤ 9223372036854775807) (hn : n < 256) (hq : q < 256) :
    Calls Tryd.prog 10 #[va, .int .u8 n, .int .u8 q] w fun e w' => e = .returned (.bool true) ∧ Below w.heap.size w w' := by
  have hab := md_lt l 2 hL
  obtain ⟨x, hae⟩ : ∃ a, val (l.take 2) = a := ⟨_, rfl⟩
  rw [hae] at hab
  obtain ⟨k, hk⟩ : ∃ k, k = 1 + n % 8 := ⟨_, rfl⟩
  have hki : (1 : Int) + (n : Int) % 8 = (k : Int) := by omega
  have hk1 : 1 ≤ k := by omega
  have hk8 : k ≤ 8 := by omega
  obtain ⟨j, hj⟩ : ∃ k, k = 1 + q % 70 := ⟨_, rfl⟩
  have hji : (1 : Int) + (q : Int) % 70 = (j : Int) := by omega
  have hj1 : 1 ≤ j := by omega
  have hj70 : j ≤ 70 := by omega
  have hfit0 : bl x * k ≤ 512 := Nat.mul_le_mul hab hk8
  have hfit : bl x * k ≤ 6400 := by omega
  obtain ⟨a, ha⟩ : ∃ a, a = x ^ k := ⟨_, rfl⟩
  have bx : bl a ≤ 512 := by rw [ha]; exact bl_pow_le (by omega) hfit0
  have P1 := fun W v (h : IsN W v a) => Lib.hid (root_PowerE W v a h (by omega) (.inl (by omega)))
  have L1 := fun W v (h : IsN W v x) => Lib.hid (law_power W v x k h (by omega) (by omega) hk1)
  rw [decide_eq_true hfit, if_pos hfit, ← ha] at L1
  have I1 := fun W v (h : IsN W v a) => Lib.hid (root_Is W v a (j : Int) h (by omega) (by omega) (by omega) (fun hlt => .inl (by omega)))
  obtain ⟨z, hz⟩ : ∃ z, z = cmp3 a 1 := ⟨_, rfl⟩
  have HZ := Lib.hid hz
  have b1' : bl 1 ≤ 1 := by decide
  have hM := fun W (h : Rd W .u32 va l) => Lib.hid (r1_Made W va l 2 h hL hb (by omega))
  rw [hae] at hM
  have HR := Lib.hid hR
  obtain ⟨A0, d0, rfl, _⟩ := hR
  have hz01 : (a ≤ 1 ∧ z ≤ 0) ∨ (2 ≤ a ∧ 0 < z) := by
    rcases Nat.lt_or_ge 1 a with h | h
    · right; exact ⟨h, by rw [hz]; exact cmp3_pos.2 h⟩
    · left
      refine ⟨h, ?_⟩
      rw [hz]
      rcases Int.lt_or_le 0 (cmp3 a 1) with g | g
      · have := cmp3_pos.1 g; omega
      · exact g
  have HZ01 := Lib.hid hz01
  clear hae hk hj ha hz hfit hfit0 hz01 hL
  go_enter Tryd.func10, Tryd.ntmps10
  go_wp2_with fail
  refine (law_head w).mono ?_
  rintro e w1 ⟨rfl, b1⟩
  go_wp2_with fail
  refine (hM _ (HR.out.up b1)).out.mono ?_
  rintro e w2 ⟨v2, rfl, i2, b2⟩
  go_wp2_with fail
  refine (L1 _ _ i2).out.mono ?_
  rintro e w3 ⟨v3, rfl, ⟨u3, rfl, i3⟩, b3⟩
  rcases HZ01.out with ⟨h1, hz0⟩ | ⟨h1, hz0⟩
  · clear h1
    go_wp2_with fail
    refine (kCmp1 (x := a) (y := 1) (hx := i3.al _) (hy := litN _ 1 (by omega) (by omega))).mono ?_
    rintro e w5 ⟨rfl, rfl⟩
    rw [← HZ.out]
    go_wp2_with fail
    go_ret
    refine ⟨rfl, ?_⟩
    repeat (first | exact Below.refl _ _ | assumption | (apply up_then' (by assumption)) | (apply up_al') | (apply up_drN'))
  · have hz1 : ¬ z ≤ 0 := by omega
    go_wp2_with fail
    refine (kCmp1 (x := a) (y := 1) (hx := i3.al _) (hy := litN _ 1 (by omega) (by omega))).mono ?_
    rintro e w5 ⟨rfl, rfl⟩
    rw [← HZ.out]
    go_wp2_with fail
    refine (P1 _ _ (i3.al _)).out.mono ?_
    rintro e w6 ⟨v6, rfl, ⟨u6, b, m, rfl, i6, h6⟩, b6⟩
    have i3' : IsN w6 u3 a := (i3.al _).up b6
    have b36 : Below w3.heap.size w3 w6 := up_then (up_alloc (Below.refl _ _) _) b6
    have HB6 := Lib.hid b6
    obtain ⟨hp, hm1, hpow⟩ : Plain b ∧ 1 ≤ m ∧ b ^ m = a := by
      rcases h6 with ⟨h2, _⟩ | ⟨_, h2, h4, h5⟩
      · omega
      · exact ⟨h2, h4, h5⟩
    have hmb : m ≤ 512 := by
      have := pow_bits (m := m) hp.1
      rw [hpow] at this
      omega
    have hI := isP_dvd (k := j) hp hm1 hj1
    rw [hpow] at hI
    obtain ⟨r, hr⟩ : ∃ r, r = m % j := ⟨_, rfl⟩
    have hri : (m : Int) % (j : Int) = (r : Int) := by rw [hr, Int.natCast_emod]
    obtain ⟨t, ht⟩ : ∃ t, t = isP a (j : Int) := ⟨_, rfl⟩
    have hrt : ((r : Int) == 0) = t := by
      rw [ht, hI]
      by_cases g : j ∣ m
      · rw [decide_eq_true g, hr, Nat.mod_eq_zero_of_dvd g]; rfl
      · rw [decide_eq_false g]
        exact beq_eq_false_iff_ne.mpr (fun e => g (Nat.dvd_of_mod_eq_zero (by omega)))
    rw [← ht] at I1
    have hj0 : ¬ (j = 0) := by omega
    have hm1i : (1 : Int) ≤ (m : Int) := by omega
    have htm : Int.tmod (m : Int) (j : Int) = (r : Int) := by rw [Int.tmod_eq_emod_of_nonneg (by omega)]; exact hri
    have hrb : r < j := by rw [hr]; exact Nat.mod_lt _ (by omega)
    have hrw : IntKind.i64.wrap (r : Int) = (r : Int) := IntWalk.i64_in _ (by omega)
    clear hr ht hI hpow hp h6 b6
    cases t
    all_goals
     go_wp2_with fail
     go_region_held3 (fun _ => True) (exact trivial)
      ((first | (go_at_call 21; refine (I1 _ _ i3'.dr).out.mono ?_; rintro e w7 ⟨rfl, b7⟩) | fail))
     have b7' := dr_then b7
     clear b7
     go_wp2_with fail
     go_ret
     refine ⟨rfl, ?_⟩
     repeat (first | exact Below.refl _ _ | assumption | (apply up_then' (by assumption)) | (apply up_al') | (apply up_drN'))

/-- What the walk gives, for every argument. -/
theorem rootIs_contract (H : Type) (enc : TypeId × Value → H) (W : World) (base : Nat) (args : Array Value) (ds gs : List (DataW H)) (before : List MemPlace)
    (hval : ∀ (j : Nat) t v, Tryd.f10.params[j]? = some t → args[j]? = some v → Value.okWide Tryd.prog W .any base t v)
    (hW : DataW.Whole enc Tryd.prog Tryd.f10.params.toList Rows.rootIsSpec.vars false W args.toList ds gs before) :
    Calls Tryd.prog 10 args W fun e W' => ∃ v, e = .returned v ∧ Rows.rootIsSpec.post enc Tryd.prog Tryd.f10 false true false false W args v W' := by
  have hW' := hW
  obtain ⟨p, q, hA, hV, rfl, hfz, hnd⟩ := hW
  rw [Tryd.params10] at hA hval
  obtain ⟨v0, vs0, d0, ds0, p0, q0, hargs0, hds0, _, h0, r0⟩ := trodAll_cons hA
  obtain ⟨v1, vs1, d1, ds1, p1, q1, hargs1, hds1, _, h1, r1⟩ := trodAll_cons r0
  obtain ⟨v2, vs2, d2, ds2, p2, q2, hargs2, hds2, _, h2, r2⟩ := trodAll_cons r1
  obtain ⟨e1, e2, _⟩ := trodAll_nil r2
  subst e1 e2
  subst hargs2 hds2
  subst hargs1 hds1
  subst hds0
  obtain rfl : args = #[v0, v1, v2] := by cases args; simp_all
  obtain ⟨rfl, rfl⟩ := trodVars_none hV
  obtain ⟨l0, hl0, hL0, hb0⟩ := open_row (hval 0 _ v0 rfl rfl) h0
  obtain ⟨n1, hn1, _, _, hw1⟩ := open_int Tryd.underlying5 (hval 1 _ v1 rfl rfl) h1
  have hz1 := wf8 hw1
  obtain ⟨m1, rfl⟩ : ∃ m : Nat, n1 = m := ⟨n1.toNat, by omega⟩
  subst hn1
  obtain ⟨n2, hn2, _, _, hw2⟩ := open_int Tryd.underlying5 (hval 2 _ v2 rfl rfl) h2
  have hz2 := wf8 hw2
  obtain ⟨m2, rfl⟩ : ∃ m : Nat, n2 = m := ⟨n2.toNat, by omega⟩
  subst hn2
  refine (rootIs_walk W v0 l0 m1 m2 hl0 hL0 hb0 (by omega) (by omega)).mono fun e W' ⟨he, hb⟩ => ⟨_, he, ?_⟩
  exact post_true hW' rfl (by kernel_rfl) rfl rfl rfl (by kernel_rfl) hb

noncomputable def rootIs_world (os : Os) : World := World.doorLaid Tryd.prog 400 os
theorem rootIs_met (os : Os) : laidMet Tryd.prog Rows.rootIsRow.laid ((rootIs_world os).forCall (fun _ _ => 0) ⟨#[], #[.slice none 0 0, .int .u8 0, .int .u8 0], []⟩).memory :=
  laidMet_of_run' 8 (by kernel_rfl) (by kernel_rfl)
theorem rootIs_reads (os : Os) {H : Type} (enc : TypeId × Value → H) : ∃ places, DataW.whole enc Tryd.prog ((rootIs_world os).forCall (fun _ _ => 0) ⟨#[], #[.slice none 0 0, .int .u8 0, .int .u8 0], []⟩).memory Tryd.f10.params.toList Rows.rootIsSpec.vars false (#[.slice none 0 0, .int .u8 0, .int .u8 0] : Array Value).toList 8 = some ([.nil, .lit (.int .u8 0), .lit (.int .u8 0)], [], places) :=
  ⟨[], by kernel_rfl⟩
theorem rootIs_lifted (os : Os) (started : os.Started) (H : Type) (enc : TypeId × Value → H) (F : Stop.Interp) :
    ReturnsInHanded {} Tryd.checked os 10 .any ((OpenSpec.ofChange Rows.rootIsSpec).preRow enc Tryd.prog Tryd.f10 Rows.rootIsRow.domain false Rows.rootIsRow.laid) (((OpenSpec.ofChange Rows.rootIsSpec).at F).post enc Tryd.prog Tryd.f10 false true false false) := by
  obtain ⟨places, hx⟩ := rootIs_reads os enc
  refine returnsInHanded_of_row (C := Tryd.checked) (s := OpenSpec.ofChange Rows.rootIsSpec) own started (by kernel_rfl) Tryd.func10
    (witness_row_at (enc := enc) (C := Tryd.checked) false (rootIs_world os) #[.slice none 0 0, .int .u8 0, .int .u8 0] rfl (by kernel_rfl) (by kernel_rfl) (by kernel_rfl)
      (OpenSpec.preRow_of_cond 8 hx (by kernel_rfl) (fun k hk => by cases hk) (by kernel_rfl) (rootIs_met os))) ?_
  intro W base args ds gs before hval hW _ _ _ hL _ _
  exact rootIs_contract H enc W base args ds gs before hval hW
theorem rootIs_said : Rows.RootIsSaid :=
  OpenClaim.holds_of_cond 10 Tryd.f10 rfl rfl rfl rfl rfl rfl rfl ⟨rfl, rfl, rfl, rfl, rfl⟩ rfl rfl rfl rfl rfl (by kernel_rfl) Tryd.func10 (by kernel_rfl)
    (of_decide_eq_true (by kernel_rfl)) (by unfold Func.isWrapper; first | (rw [if_pos (by decide +kernel)]; kernel_rfl) | (rw [if_neg (by decide +kernel)]; exact ⟨rfl, rfl⟩))
    (fun os started H enc _ F => by rw [OpenClaim.pre_eq_preRow]; exact rootIs_lifted os started H enc F)
theorem rootIs_plain (f : FuncId) (fn : Func) (hf : Tryd.pinned.checked.prog.funcNamed "ziggurat/zigguratlaw08.RootIs" = some f) (hfn : Tryd.pinned.checked.prog.funcs[f]? = some fn) :
    false = Tryd.pinned.checked.prog.looks [] ∧ ∀ (j : Nat) t, fn.params[j]? = some t → Tryd.pinned.checked.prog.wantsStandIn t = false := by
  obtain rfl : f = 10 := Option.some.inj ((show Tryd.prog.funcNamed "ziggurat/zigguratlaw08.RootIs" = some 10 by kernel_rfl).symm.trans hf) |>.symm
  obtain rfl : fn = Tryd.f10 := (Option.some.inj (Tryd.func10.symm.trans hfn)).symm
  refine ⟨by kernel_rfl, fun j t ht => ?_⟩
  rw [Tryd.params10] at ht
  have hm : t ∈ [22, 5, 5] := by simpa using Array.mem_of_getElem? ht
  have hall : ([22, 5, 5].all fun u => !Tryd.prog.wantsStandIn u) = true := by kernel_rfl
  exact (show Tryd.prog.wantsStandIn t = false by simpa using List.all_eq_true.1 hall t hm)
/-- The law's card. -/
theorem rootIs_card : Rows.RootIsCardSaid :=
  Claim7.holds_tied_plain_at .later [] _ _ _ _ rootIs_said (fun _ h => by cases h) (by kernel_rfl) (fun _ h => by cases h) rootIs_row_tie rfl ⟨rfl, rfl⟩ (by kernel_rfl) rfl rootIs_plain (by kernel_rfl)

end Go.Proofs.YtffkedepffjobaaDoor
