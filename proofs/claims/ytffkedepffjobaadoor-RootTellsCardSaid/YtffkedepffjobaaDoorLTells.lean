import Derived.Test.YtffkedepffjobaaDoorM11
import Derived.Test.YtffkedepffjobaaDoorCards
import Derived.Test.YtffkedepffjobaaDoorTie
namespace Go.Proofs.YtffkedepffjobaaDoor
open Go.ChangeShapes Go.WideShapes Go.ChangeAt Go.RowKit
set_option maxRecDepth 100000

set_option maxHeartbeats 4000000 in
theorem rootTells_walk (w : World) (va : Value) (l : List Nat) (k : Int) (n : Nat) (hR : Rd w .u32 va l) (hL : Lim l) (hb : l.length ≤ 9223372036854775807) (hk0 : -9223372036854775808 ≤ k) (hk1 : k ≤ 9223372036854775807) (hn : n < 256) :
    Calls Tryd.prog 3 #[va, .int .i64 k, .int .u8 n] w fun e w' => e = .returned (.bool true) ∧ Below w.heap.size w w' := by
  have hab := md_lt l 8 hL
  obtain ⟨a, hae⟩ : ∃ a, val (l.take 8) = a := ⟨_, rfl⟩
  rw [hae] at hab
  obtain ⟨q, hq⟩ : ∃ q : Nat, q = n % 40 := ⟨_, rfl⟩
  have hqi : (n : Int) % 40 = (q : Int) := by omega
  have hq40 : q < 40 := by omega
  have hF : ∀ k, k < bl a → Ok (bl a + k) := fun k hk => .inl (by omega)
  have R1 := fun W v (h : IsN W v a) (k : Int) => Lib.hid (root_RootE W v a k h (by omega) hF)
  have R2 := fun W v (h : IsN W v a) (k : Int) => Lib.hid (r8_RootE W v a k h (by omega))
  have S1 := fun W v (h : IsN W v a) => Lib.hid (root_Sqrt W v a h (by omega) (.inl (by omega)))
  have S2 := fun W v (h : IsN W v a) => Lib.hid (r8_Sqrt W v a h (by omega))
  have P1 := fun W v (h : IsN W v a) => Lib.hid (root_PowerE W v a h (by omega) (.inl (by omega)))
  have P2 := fun W v (h : IsN W v a) => Lib.hid (r8_PowerE W v a h (by omega))
  have I1 := fun W v (h : IsN W v a) (k : Int) (h0 : -9223372036854775808 ≤ k) (h1 : k ≤ 9223372036854775807) => Lib.hid (root_Is W v a k h h1 h0 (by omega) (fun hlt => .inl (by omega)))
  have I2 := fun W v (h : IsN W v a) (k : Int) (h0 : -9223372036854775808 ≤ k) (h1 : k ≤ 9223372036854775807) => Lib.hid (r8_Is W v a k h h1 h0 (by omega))
  unfold AnsE at R1 R2
  unfold AnsSq at S1 S2
  obtain ⟨x1, hx1⟩ : ∃ x, rtv a (q : Int) = x := ⟨_, rfl⟩
  obtain ⟨x2, hx2⟩ : ∃ x, rtv a k = x := ⟨_, rfl⟩
  obtain ⟨y1, hy1⟩ : ∃ x, erv (q : Int) = x := ⟨_, rfl⟩
  obtain ⟨y2, hy2⟩ : ∃ x, erv k = x := ⟨_, rfl⟩
  obtain ⟨s1, hs1⟩ : ∃ x, rt a 2 = x := ⟨_, rfl⟩
  obtain ⟨s2, hs2⟩ : ∃ x, a - s1 * s1 = x := ⟨_, rfl⟩
  obtain ⟨j1, hj1⟩ : ∃ x, isP a (q : Int) = x := ⟨_, rfl⟩
  obtain ⟨j2, hj2⟩ : ∃ x, isP a k = x := ⟨_, rfl⟩
  have bx1 : bl x1 ≤ 256 := by rw [← hx1]; have := bl_mono (rtv_le a (q : Int)); omega
  have bx2 : bl x2 ≤ 256 := by rw [← hx2]; have := bl_mono (rtv_le a k); omega
  have bs1 : bl s1 ≤ 256 := by rw [← hs1]; have := bl_rt a 2 (by omega); omega
  have bs2 : bl s2 ≤ 256 := by rw [← hs2]; have := bl_sub a (s1 * s1); omega
  have R1q := fun W v h => R1 W v h (q : Int)
  have R1k := fun W v h => R1 W v h k
  have R2q := fun W v h => R2 W v h (q : Int)
  have R2k := fun W v h => R2 W v h k
  have I1q := fun W v h => I1 W v h (q : Int) (by omega) (by omega)
  have I1k := fun W v h => I1 W v h k hk0 hk1
  have I2q := fun W v h => I2 W v h (q : Int) (by omega) (by omega)
  have I2k := fun W v h => I2 W v h k hk0 hk1
  rw [hx1, hy1] at R1q R2q
  rw [hx2, hy2] at R1k R2k
  rw [hs1, hs2] at S1 S2
  rw [hj1] at I1q I2q
  rw [hj2] at I1k I2k
  have hM := fun W (h : Rd W .u32 va l) => Lib.hid (r1_Made W va l 8 h hL hb (by omega))
  rw [hae] at hM
  have HR := Lib.hid hR
  obtain ⟨A0, d0, rfl, _⟩ := hR
  clear hae hq hx1 hx2 hy1 hy2 hs1 hs2 hj1 hj2 R1 R2 I1 I2 hF hL
  go_enter Tryd.func3, Tryd.ntmps3
  go_wp2_with fail
  refine (law_head w).mono ?_
  rintro e w1 ⟨rfl, b1⟩
  go_wp2_with fail
  refine (hM _ (HR.out.up b1)).out.mono ?_
  rintro e w2 ⟨v2, rfl, i2, b2⟩
  go_wp2_with fail
  refine (R1q _ _ i2).out.mono ?_
  rintro e w3 ⟨v3, rfl, ⟨u3, rfl, i3⟩, b3⟩
  go_wp2_with fail
  refine (R2q _ _ (by repeat (first | assumption | (apply IsN.up' (by assumption)) | (apply IsN.al') | (apply IsN.drN')))).out.mono ?_
  rintro e w4 ⟨v4, rfl, ⟨u4, rfl, i4⟩, b4⟩
  go_wp2_with fail
  refine (R1k _ _ (by repeat (first | assumption | (apply IsN.up' (by assumption)) | (apply IsN.al') | (apply IsN.drN')))).out.mono ?_
  rintro e w5 ⟨v5, rfl, ⟨u5, rfl, i5⟩, b5⟩
  go_wp2_with fail
  refine (R2k _ _ (by repeat (first | assumption | (apply IsN.up' (by assumption)) | (apply IsN.al') | (apply IsN.drN')))).out.mono ?_
  rintro e w6 ⟨v6, rfl, ⟨u6, rfl, i6⟩, b6⟩
  go_wp2_with fail
  refine (S1 _ _ (by repeat (first | assumption | (apply IsN.up' (by assumption)) | (apply IsN.al') | (apply IsN.drN')))).out.mono ?_
  rintro e w7 ⟨v7, rfl, ⟨u7, t7, rfl, i7, j7⟩, b7⟩
  go_wp2_with fail
  refine (S2 _ _ (by repeat (first | assumption | (apply IsN.up' (by assumption)) | (apply IsN.al') | (apply IsN.drN')))).out.mono ?_
  rintro e w8 ⟨v8, rfl, ⟨u8, t8, rfl, i8, j8⟩, b8⟩
  go_wp2_with fail
  refine (P1 _ _ (by repeat (first | assumption | (apply IsN.up' (by assumption)) | (apply IsN.al') | (apply IsN.drN')))).out.mono ?_
  rintro e w9 ⟨v9, rfl, ⟨u9, p9, m9, rfl, i9, h9⟩, b9⟩
  go_wp2_with fail
  refine (P2 _ _ (by repeat (first | assumption | (apply IsN.up' (by assumption)) | (apply IsN.al') | (apply IsN.drN')))).out.mono ?_
  rintro e w10 ⟨v10, rfl, ⟨u10, p10, m10, rfl, i10, h10⟩, b10⟩
  obtain ⟨rfl, rfl⟩ := h9.inj h10
  have bp : bl p9 ≤ 256 := by have := bl_mono h9.le; omega
  clear h9 h10
  go_wp2_with fail
  refine (kSameT (x := x1) (y := x1) rfl (by repeat (first | assumption | (apply IsN.up' (by assumption)) | (apply IsN.al') | (apply IsN.drN'))) (by repeat (first | assumption | (apply IsN.up' (by assumption)) | (apply IsN.al') | (apply IsN.drN'))) (by omega)).mono ?_
  rintro e w11 ⟨rfl, b11⟩
  go_wp2_with fail
  refine (kSameT (x := x2) (y := x2) rfl (by repeat (first | assumption | (apply IsN.up' (by assumption)) | (apply IsN.al') | (apply IsN.drN'))) (by repeat (first | assumption | (apply IsN.up' (by assumption)) | (apply IsN.al') | (apply IsN.drN'))) (by omega)).mono ?_
  rintro e w12 ⟨rfl, b12⟩
  go_wp2_with fail
  refine (kSameT (x := s1) (y := s1) rfl (by repeat (first | assumption | (apply IsN.up' (by assumption)) | (apply IsN.al') | (apply IsN.drN'))) (by repeat (first | assumption | (apply IsN.up' (by assumption)) | (apply IsN.al') | (apply IsN.drN'))) (by omega)).mono ?_
  rintro e w13 ⟨rfl, b13⟩
  go_wp2_with fail
  refine (kSameT (x := s2) (y := s2) rfl (by repeat (first | assumption | (apply IsN.up' (by assumption)) | (apply IsN.al') | (apply IsN.drN'))) (by repeat (first | assumption | (apply IsN.up' (by assumption)) | (apply IsN.al') | (apply IsN.drN'))) (by omega)).mono ?_
  rintro e w14 ⟨rfl, b14⟩
  go_wp2_with fail
  refine (kSameT (x := p9) (y := p9) rfl (by repeat (first | assumption | (apply IsN.up' (by assumption)) | (apply IsN.al') | (apply IsN.drN'))) (by repeat (first | assumption | (apply IsN.up' (by assumption)) | (apply IsN.al') | (apply IsN.drN'))) (by omega)).mono ?_
  rintro e w15 ⟨rfl, b15⟩
  go_wp2_with fail
  refine (I1q _ _ (by repeat (first | assumption | (apply IsN.up' (by assumption)) | (apply IsN.al') | (apply IsN.drN')))).out.mono ?_
  rintro e w16 ⟨rfl, b16⟩
  go_wp2_with fail
  refine (I2q _ _ (by repeat (first | assumption | (apply IsN.up' (by assumption)) | (apply IsN.al') | (apply IsN.drN')))).out.mono ?_
  rintro e w17 ⟨rfl, b17⟩
  go_wp2_with fail
  refine (I1k _ _ (by repeat (first | assumption | (apply IsN.up' (by assumption)) | (apply IsN.al') | (apply IsN.drN')))).out.mono ?_
  rintro e w18 ⟨rfl, b18⟩
  go_wp2_with fail
  refine (I2k _ _ (by repeat (first | assumption | (apply IsN.up' (by assumption)) | (apply IsN.al') | (apply IsN.drN')))).out.mono ?_
  rintro e w19 ⟨rfl, b19⟩
  go_wp2_with fail
  go_ret
  refine ⟨by first | rfl | simp, ?_⟩
  repeat (first | exact Below.refl _ _ | assumption | (apply up_then' (by assumption)) | (apply up_al') | (apply up_drN'))

/-- What the walk gives, for every argument. -/
theorem rootTells_contract (H : Type) (enc : TypeId × Value → H) (W : World) (base : Nat) (args : Array Value) (ds gs : List (DataW H)) (before : List MemPlace)
    (hval : ∀ (j : Nat) t v, Tryd.f3.params[j]? = some t → args[j]? = some v → Value.okWide Tryd.prog W .any base t v)
    (hW : DataW.Whole enc Tryd.prog Tryd.f3.params.toList Rows.rootTellsSpec.vars false W args.toList ds gs before) :
    Calls Tryd.prog 3 args W fun e W' => ∃ v, e = .returned v ∧ Rows.rootTellsSpec.post enc Tryd.prog Tryd.f3 false true false false W args v W' := by
  have hW' := hW
  obtain ⟨p, q, hA, hV, rfl, hfz, hnd⟩ := hW
  rw [Tryd.params3] at hA hval
  obtain ⟨v0, vs0, d0, ds0, p0, q0, hargs0, hds0, _, h0, r0⟩ := trodAll_cons hA
  obtain ⟨v1, vs1, d1, ds1, p1, q1, hargs1, hds1, _, h1, r1⟩ := trodAll_cons r0
  obtain ⟨v2, vs2, d2, ds2, p2, q2, hargs2, hds2, _, h2, r2⟩ := trodAll_cons r1
  obtain ⟨e1, e2, _⟩ := trodAll_nil r2
  subst e1 e2
  subst hargs2 hds2
  subst hargs1 hds1
  subst hds0
  obtain rfl : args = #[v0, v1, v2] := by cases args; simp_all
  obtain ⟨rfl, rfl⟩ := trodVars_none hV
  obtain ⟨l0, hl0, hL0, hb0⟩ := open_row (hval 0 _ v0 rfl rfl) h0
  obtain ⟨n1, hn1, _, _, hw1⟩ := open_int Tryd.underlying3 (hval 1 _ v1 rfl rfl) h1
  have hz1 := wf64 hw1
  subst hn1
  obtain ⟨n2, hn2, _, _, hw2⟩ := open_int Tryd.underlying5 (hval 2 _ v2 rfl rfl) h2
  have hz2 := wf8 hw2
  obtain ⟨m2, rfl⟩ : ∃ m : Nat, n2 = m := ⟨n2.toNat, by omega⟩
  subst hn2
  refine (rootTells_walk W v0 l0 n1 m2 hl0 hL0 hb0 hz1.1 hz1.2 (by omega)).mono fun e W' ⟨he, hb⟩ => ⟨_, he, ?_⟩
  exact post_true hW' rfl (by kernel_rfl) rfl rfl rfl (by kernel_rfl) hb

noncomputable def rootTells_world (os : Os) : World := World.doorLaid Tryd.prog 400 os
theorem rootTells_met (os : Os) : laidMet Tryd.prog Rows.rootTellsRow.laid ((rootTells_world os).forCall (fun _ _ => 0) ⟨#[], #[.slice none 0 0, .int .i64 0, .int .u8 0], []⟩).memory :=
  laidMet_of_run' 8 (by kernel_rfl) (by kernel_rfl)
theorem rootTells_reads (os : Os) {H : Type} (enc : TypeId × Value → H) : ∃ places, DataW.whole enc Tryd.prog ((rootTells_world os).forCall (fun _ _ => 0) ⟨#[], #[.slice none 0 0, .int .i64 0, .int .u8 0], []⟩).memory Tryd.f3.params.toList Rows.rootTellsSpec.vars false (#[.slice none 0 0, .int .i64 0, .int .u8 0] : Array Value).toList 8 = some ([.nil, .lit (.int .i64 0), .lit (.int .u8 0)], [], places) :=
  ⟨[], by kernel_rfl⟩
theorem rootTells_lifted (os : Os) (started : os.Started) (H : Type) (enc : TypeId × Value → H) (F : Stop.Interp) :
    ReturnsInHanded {} Tryd.checked os 3 .any ((OpenSpec.ofChange Rows.rootTellsSpec).preRow enc Tryd.prog Tryd.f3 Rows.rootTellsRow.domain false Rows.rootTellsRow.laid) (((OpenSpec.ofChange Rows.rootTellsSpec).at F).post enc Tryd.prog Tryd.f3 false true false false) := by
  obtain ⟨places, hx⟩ := rootTells_reads os enc
  refine returnsInHanded_of_row (C := Tryd.checked) (s := OpenSpec.ofChange Rows.rootTellsSpec) own started (by kernel_rfl) Tryd.func3
    (witness_row_at (enc := enc) (C := Tryd.checked) false (rootTells_world os) #[.slice none 0 0, .int .i64 0, .int .u8 0] rfl (by kernel_rfl) (by kernel_rfl) (by kernel_rfl)
      (OpenSpec.preRow_of_cond 8 hx (by kernel_rfl) (fun k hk => by cases hk) (by kernel_rfl) (rootTells_met os))) ?_
  intro W base args ds gs before hval hW _ _ _ hL _ _
  exact rootTells_contract H enc W base args ds gs before hval hW
theorem rootTells_said : Rows.RootTellsSaid :=
  OpenClaim.holds_of_cond 3 Tryd.f3 rfl rfl rfl rfl rfl rfl rfl ⟨rfl, rfl, rfl, rfl, rfl⟩ rfl rfl rfl rfl rfl (by kernel_rfl) Tryd.func3 (by kernel_rfl)
    (of_decide_eq_true (by kernel_rfl)) (by unfold Func.isWrapper; first | (rw [if_pos (by decide +kernel)]; kernel_rfl) | (rw [if_neg (by decide +kernel)]; exact ⟨rfl, rfl⟩))
    (fun os started H enc _ F => by rw [OpenClaim.pre_eq_preRow]; exact rootTells_lifted os started H enc F)
theorem rootTells_plain (f : FuncId) (fn : Func) (hf : Tryd.pinned.checked.prog.funcNamed "ziggurat/zigguratlaw08.RootTells" = some f) (hfn : Tryd.pinned.checked.prog.funcs[f]? = some fn) :
    false = Tryd.pinned.checked.prog.looks [] ∧ ∀ (j : Nat) t, fn.params[j]? = some t → Tryd.pinned.checked.prog.wantsStandIn t = false := by
  obtain rfl : f = 3 := Option.some.inj ((show Tryd.prog.funcNamed "ziggurat/zigguratlaw08.RootTells" = some 3 by kernel_rfl).symm.trans hf) |>.symm
  obtain rfl : fn = Tryd.f3 := (Option.some.inj (Tryd.func3.symm.trans hfn)).symm
  refine ⟨by kernel_rfl, fun j t ht => ?_⟩
  rw [Tryd.params3] at ht
  have hm : t ∈ [22, 3, 5] := by simpa using Array.mem_of_getElem? ht
  have hall : ([22, 3, 5].all fun u => !Tryd.prog.wantsStandIn u) = true := by kernel_rfl
  exact (show Tryd.prog.wantsStandIn t = false by simpa using List.all_eq_true.1 hall t hm)
/-- The law's card. -/
theorem rootTells_card : Rows.RootTellsCardSaid :=
  Claim7.holds_tied_plain_at .later [] _ _ _ _ rootTells_said (fun _ h => by cases h) (by kernel_rfl) (fun _ h => by cases h) rootTells_row_tie rfl ⟨rfl, rfl⟩ (by kernel_rfl) rfl rootTells_plain (by kernel_rfl)

end Go.Proofs.YtffkedepffjobaaDoor
