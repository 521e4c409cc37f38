import Derived.Test.YtffkedepffjobaaDoorM11
import Derived.Test.YtffkedepffjobaaDoorCards
import Derived.Test.YtffkedepffjobaaDoorTie
namespace Go.Proofs.YtffkedepffjobaaDoor
open Go.ChangeShapes Go.WideShapes Go.ChangeAt Go.RowKit
set_option maxRecDepth 100000

set_option maxHeartbeats 2000000 in
theorem rootScaled_walk (w : World) (va : Value) (l : List Nat) (n0 n1 : Nat) (hR : Rd w .u32 va l) (hL : Lim l) (hb : l.length ≤ 9223372036854775807) (hn0 : n0 < 256) (hn1 : n1 < 256) :
    Calls Tryd.prog 8 #[va, .agg #[.int .u8 (n0 : Nat), .int .u8 (n1 : Nat)]] w fun e w' => e = .returned (.bool true) ∧ Below w.heap.size w w' := by
  have hab := md_lt l 40 hL
  obtain ⟨a, hae⟩ : ∃ a, val (l.take 40) = a := ⟨_, rfl⟩
  rw [hae] at hab
  obtain ⟨k, hk⟩ : ∃ k, k = 1 + n0 % 12 := ⟨_, rfl⟩
  obtain ⟨m, hm⟩ : ∃ m, m = n1 % 101 := ⟨_, rfl⟩
  have hki : (1 : Int) + (n0 : Int) % 12 = (k : Int) := by omega
  have hmi : (n1 : Int) % 101 = (m : Int) := by omega
  have hk1 : 1 ≤ k := by omega
  have hk12 : k ≤ 12 := by omega
  have hm100 : m ≤ 100 := by omega
  obtain ⟨q, hq⟩ : ∃ q, q = k * m := ⟨_, rfl⟩
  have hqi : (k : Int) * (m : Int) = (q : Int) := by rw [hq]; simp
  have hqb : q ≤ 1200 := by rw [hq]; exact Nat.mul_le_mul hk12 hm100
  have e1 := rt_shl a k m (by omega)
  rw [← hq] at e1
  obtain ⟨x, hxe⟩ : ∃ x, a * 2 ^ q = x := ⟨_, rfl⟩
  have bx : bl x ≤ 2480 := by rw [← hxe]; have := bl_shl_le a q; omega
  obtain ⟨b, hbe⟩ : ∃ b, rt a k = b := ⟨_, rfl⟩
  obtain ⟨f, hfe⟩ : ∃ b, rt x k = b := ⟨_, rfl⟩
  rw [hxe, hfe, hbe] at e1
  have bb : bl b ≤ 1920 := by rw [← hbe]; have := bl_rt a k (by omega); omega
  have bf : bl f ≤ 2480 := by rw [← hfe]; have := bl_rt x k (by omega); omega
  have R1 := fun W v (h : IsN W v a) => Lib.hid (root_Root W v a k h hk1 (by omega) (by omega) (fun _ _ => .inl (by omega)))
  have R2 := fun W v (h : IsN W v x) => Lib.hid (root_Root W v x k h hk1 (by omega) (by omega) (fun _ _ => .inl (by omega)))
  rw [hbe] at R1
  rw [hfe] at R2
  have hM := fun W (h : Rd W .u32 va l) => Lib.hid (r1_Made W va l 40 h hL hb (by omega))
  rw [hae] at hM
  have HX := Lib.hid hxe
  have HE := Lib.hid e1
  have HR := Lib.hid hR
  obtain ⟨A0, d0, rfl, _⟩ := hR
  obtain ⟨r0, hr0⟩ : ∃ r, r = n0 % 12 := ⟨_, rfl⟩
  have T0 : Int.tmod (n0 : Int) 12 = (r0 : Int) := by rw [Int.tmod_eq_emod_of_nonneg (by omega)]; omega
  have T1 : Int.tmod (n1 : Int) 101 = (m : Int) := by rw [Int.tmod_eq_emod_of_nonneg (by omega)]; omega
  have K0 : (1 : Int) + (r0 : Int) = (k : Int) := by omega
  have W0 : IntKind.i64.wrap (n0 : Int) = (n0 : Int) := IntWalk.i64_in _ (by omega)
  have W1 : IntKind.i64.wrap (n1 : Int) = (n1 : Int) := IntWalk.i64_in _ (by omega)
  have W2 : IntKind.i64.wrap (k : Int) = (k : Int) := IntWalk.i64_in _ (by omega)
  clear hr0
  clear hae hk hm hq hbe hfe hxe e1 hL
  go_enter Tryd.func8, Tryd.ntmps8
  go_wp2_with fail
  refine (law_head _).mono ?_
  rintro e w1 ⟨rfl, b1⟩
  obtain ⟨k0, k1⟩ := pair_box b1
  have b0 : Below w.heap.size w w1 := up_then (up_al' (Below.refl _ _)) b1
  have HB1 := Lib.hid b1
  clear b1
  go_wp2_with fail
  go_region_held3 (fun X => X.cell? ⟨w.heap.size, 0, none⟩ = some (.int .u8 (n0 : Nat)) ∧ X.cell? ⟨w.heap.size, 1, none⟩ = some (.int .u8 (n1 : Nat))) (first | exact ⟨k0, k1⟩ | exact pair_box (up_then' (dr_then b2) HB1.out))
    ((first | (go_at_call 13; refine (hM _ ((HR.out.up b0).up (Below.refl _ _).drew)).out.mono ?_; rintro e w2 ⟨v2, rfl, i2, b2⟩) | fail))
  have b2' := dr_then b2
  clear b2 k0 k1 W0 W1 W2 T0 T1 K0
  go_wp2_with fail
  refine (R1 _ _ i2).out.mono ?_
  rintro e w3 ⟨v3, rfl, ⟨u3, rfl, i3⟩, b3⟩
  go_wp2_with fail
  refine (kShl1 (x := a) (n := q) rfl HX.out).mono ?_
  rintro e w4 ⟨v4, rfl, i4, b4⟩
  go_wp2_with fail
  refine (R2 _ _ i4).out.mono ?_
  rintro e w5 ⟨v5, rfl, ⟨u5, rfl, i5⟩, b5⟩
  go_wp2_with fail
  refine (kShr1 (x := f) (n := m) rfl HE.out).mono ?_
  rintro e w6 ⟨v6, rfl, i6, b6⟩
  go_wp2_with fail
  refine (kSameT (x := b) (y := b) rfl (by repeat (first | assumption | (apply IsN.up' (by assumption)) | (apply IsN.al') | (apply IsN.dr) | (apply IsN.drN'))) (by repeat (first | assumption | (apply IsN.up' (by assumption)) | (apply IsN.al') | (apply IsN.dr) | (apply IsN.drN'))) (by omega)).mono ?_
  rintro e w7 ⟨rfl, b7⟩
  go_wp2_with fail
  go_ret
  refine ⟨rfl, ?_⟩
  repeat (first | exact Below.refl _ _ | assumption | (apply up_then' (by assumption)) | (apply up_al') | (apply up_drN'))

/-- What the walk gives, for every argument. -/
theorem rootScaled_contract (H : Type) (enc : TypeId × Value → H) (W : World) (base : Nat) (args : Array Value) (ds gs : List (DataW H)) (before : List MemPlace)
    (hval : ∀ (j : Nat) t v, Tryd.f8.params[j]? = some t → args[j]? = some v → Value.okWide Tryd.prog W .any base t v)
    (hW : DataW.Whole enc Tryd.prog Tryd.f8.params.toList Rows.rootScaledSpec.vars false W args.toList ds gs before) :
    Calls Tryd.prog 8 args W fun e W' => ∃ v, e = .returned v ∧ Rows.rootScaledSpec.post enc Tryd.prog Tryd.f8 false true false false W args v W' := by
  have hW' := hW
  obtain ⟨p, q, hA, hV, rfl, hfz, hnd⟩ := hW
  rw [Tryd.params8] at hA hval
  obtain ⟨v0, vs0, d0, ds0, p0, q0, hargs0, hds0, _, h0, r0⟩ := trodAll_cons hA
  obtain ⟨v1, vs1, d1, ds1, p1, q1, hargs1, hds1, _, h1, r1⟩ := trodAll_cons r0
  obtain ⟨e1, e2, _⟩ := trodAll_nil r1
  subst e1 e2
  subst hargs1 hds1
  subst hds0
  obtain rfl : args = #[v0, v1] := by cases args; simp_all
  obtain ⟨rfl, rfl⟩ := trodVars_none hV
  obtain ⟨l0, hl0, hL0, hb0⟩ := open_row (hval 0 _ v0 rfl rfl) h0
  obtain ⟨n1, m1, hn1, hz1, hy1⟩ := open_pair (hval 1 _ v1 rfl rfl) h1
  subst hn1
  refine (rootScaled_walk W v0 l0 n1 m1 hl0 hL0 hb0 hz1 hy1).mono fun e W' ⟨he, hb⟩ => ⟨_, he, ?_⟩
  exact post_true hW' rfl (by kernel_rfl) rfl rfl rfl (by kernel_rfl) hb

noncomputable def rootScaled_world (os : Os) : World := World.doorLaid Tryd.prog 400 os
theorem rootScaled_met (os : Os) : laidMet Tryd.prog Rows.rootScaledRow.laid ((rootScaled_world os).forCall (fun _ _ => 0) ⟨#[], #[.slice none 0 0, .agg #[.int .u8 0, .int .u8 0]], []⟩).memory :=
  laidMet_of_run' 8 (by kernel_rfl) (by kernel_rfl)
theorem rootScaled_reads (os : Os) {H : Type} (enc : TypeId × Value → H) : ∃ places, DataW.whole enc Tryd.prog ((rootScaled_world os).forCall (fun _ _ => 0) ⟨#[], #[.slice none 0 0, .agg #[.int .u8 0, .int .u8 0]], []⟩).memory Tryd.f8.params.toList Rows.rootScaledSpec.vars false (#[.slice none 0 0, .agg #[.int .u8 0, .int .u8 0]] : Array Value).toList 8 = some ([.nil, .agg [.lit (.int .u8 0), .lit (.int .u8 0)]], [], places) :=
  ⟨[], by kernel_rfl⟩
theorem rootScaled_lifted (os : Os) (started : os.Started) (H : Type) (enc : TypeId × Value → H) (F : Stop.Interp) :
    ReturnsInHanded {} Tryd.checked os 8 .any ((OpenSpec.ofChange Rows.rootScaledSpec).preRow enc Tryd.prog Tryd.f8 Rows.rootScaledRow.domain false Rows.rootScaledRow.laid) (((OpenSpec.ofChange Rows.rootScaledSpec).at F).post enc Tryd.prog Tryd.f8 false true false false) := by
  obtain ⟨places, hx⟩ := rootScaled_reads os enc
  refine returnsInHanded_of_row (C := Tryd.checked) (s := OpenSpec.ofChange Rows.rootScaledSpec) own started (by kernel_rfl) Tryd.func8
    (witness_row_at (enc := enc) (C := Tryd.checked) false (rootScaled_world os) #[.slice none 0 0, .agg #[.int .u8 0, .int .u8 0]] rfl (by kernel_rfl) (by kernel_rfl) (by kernel_rfl)
      (OpenSpec.preRow_of_cond 8 hx (by kernel_rfl) (fun k hk => by cases hk) (by kernel_rfl) (rootScaled_met os))) ?_
  intro W base args ds gs before hval hW _ _ _ hL _ _
  exact rootScaled_contract H enc W base args ds gs before hval hW
theorem rootScaled_said : Rows.RootScaledSaid :=
  OpenClaim.holds_of_cond 8 Tryd.f8 rfl rfl rfl rfl rfl rfl rfl ⟨rfl, rfl, rfl, rfl, rfl⟩ rfl rfl rfl rfl rfl (by kernel_rfl) Tryd.func8 (by kernel_rfl)
    (of_decide_eq_true (by kernel_rfl)) (by unfold Func.isWrapper; first | (rw [if_pos (by decide +kernel)]; kernel_rfl) | (rw [if_neg (by decide +kernel)]; exact ⟨rfl, rfl⟩))
    (fun os started H enc _ F => by rw [OpenClaim.pre_eq_preRow]; exact rootScaled_lifted os started H enc F)
theorem rootScaled_plain (f : FuncId) (fn : Func) (hf : Tryd.pinned.checked.prog.funcNamed "ziggurat/zigguratlaw08.RootScaled" = some f) (hfn : Tryd.pinned.checked.prog.funcs[f]? = some fn) :
    false = Tryd.pinned.checked.prog.looks [] ∧ ∀ (j : Nat) t, fn.params[j]? = some t → Tryd.pinned.checked.prog.wantsStandIn t = false := by
  obtain rfl : f = 8 := Option.some.inj ((show Tryd.prog.funcNamed "ziggurat/zigguratlaw08.RootScaled" = some 8 by kernel_rfl).symm.trans hf) |>.symm
  obtain rfl : fn = Tryd.f8 := (Option.some.inj (Tryd.func8.symm.trans hfn)).symm
  refine ⟨by kernel_rfl, fun j t ht => ?_⟩
  rw [Tryd.params8] at ht
  have hm : t ∈ [22, 43] := by simpa using Array.mem_of_getElem? ht
  have hall : ([22, 43].all fun u => !Tryd.prog.wantsStandIn u) = true := by kernel_rfl
  exact (show Tryd.prog.wantsStandIn t = false by simpa using List.all_eq_true.1 hall t hm)
/-- The law's card. -/
theorem rootScaled_card : Rows.RootScaledCardSaid :=
  Claim7.holds_tied_plain_at .later [] _ _ _ _ rootScaled_said (fun _ h => by cases h) (by kernel_rfl) (fun _ h => by cases h) rootScaled_row_tie rfl ⟨rfl, rfl⟩ (by kernel_rfl) rfl rootScaled_plain (by kernel_rfl)

end Go.Proofs.YtffkedepffjobaaDoor
