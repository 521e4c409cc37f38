import Derived.Test.YtffkedepffjobaaDoorM11
import Derived.Test.YtffkedepffjobaaDoorCards
import Derived.Test.YtffkedepffjobaaDoorTie
namespace Go.Proofs.YtffkedepffjobaaDoor
open Go.ChangeShapes Go.WideShapes Go.ChangeAt Go.RowKit
set_option maxRecDepth 100000

set_option maxHeartbeats 1000000 in
theorem rootBetween_walk (w : World) (va : Value) (l : List Nat) (n : Nat) (hR : Rd w .u32 va l) (hL : Lim l) (hb : l.length ≤ 9223372036854775807) (hn : n < 256) :
    Calls Tryd.prog 4 #[va, .int .u8 n] w fun e w' => e = .returned (.bool true) ∧ Below w.heap.size w w' := by
  have hab := md_lt l 60 hL
  obtain ⟨a, hae⟩ : ∃ a, val (l.take 60) = a := ⟨_, rfl⟩
  rw [hae] at hab
  obtain ⟨k, hk⟩ : ∃ k, k = 1 + n % 60 := ⟨_, rfl⟩
  have hki : (1 : Int) + (n : Int) % 60 = (k : Int) := by omega
  have hk1 : 1 ≤ k := by omega
  have hk60 : k ≤ 60 := by omega
  obtain ⟨r, hr⟩ : ∃ r, r = rt a k := ⟨_, rfl⟩
  have hra : r ≤ a := by rw [hr]; exact rt_le a k (by omega)
  have hrb := bl_mono hra
  have hnl : ¬ (nl a < nl r) := by unfold nl; omega
  have hbits := root_bits (a := a) hk1
  rw [← hr] at hbits
  obtain ⟨m, hm⟩ : ∃ m, r + 1 = m := ⟨_, rfl⟩
  have hmb : bl m ≤ bl r + 1 := by
    rw [bl_le_iff, ← hm, Nat.pow_succ]
    have := bl_lt (x := r)
    omega
  have hm2 : bl m * k ≤ (bl r + 1) * k := Nat.mul_le_mul_right _ hmb
  have hr2 : bl r * k ≤ (bl r + 1) * k := Nat.mul_le_mul_right _ (by omega)
  obtain ⟨P, hP⟩ : ∃ P, P = r ^ k := ⟨_, rfl⟩
  obtain ⟨Q, hQ⟩ : ∃ Q, Q = m ^ k := ⟨_, rfl⟩
  have hPa : P ≤ a := by rw [hP, hr]; exact (rt_is (by omega)).1
  have hQa : a < Q := by rw [hQ, ← hm, hr]; exact (rt_is (by omega)).2
  have L1 := fun W v (h : IsN W v r) => Lib.hid (law_power W v r k h (by omega) (by omega) hk1)
  rw [decide_eq_true (show bl r * k ≤ 6400 by omega), if_pos (show bl r * k ≤ 6400 by omega), ← hP] at L1
  have L2 := fun W v (h : IsN W v m) => Lib.hid (law_power W v m k h (by omega) (by omega) hk1)
  rw [decide_eq_true (show bl m * k ≤ 6400 by omega), if_pos (show bl m * k ≤ 6400 by omega), ← hQ] at L2
  have hPb := bl_mono hPa
  have hQb : bl Q ≤ 100000000 := by
    have h1 : Q < 2 ^ (bl m * k) := by rw [hQ, Nat.pow_mul]; exact (Nat.pow_lt_pow_iff_left (by omega)).2 bl_lt
    have := bl_le_iff.2 h1
    omega
  have hRoot := fun W v (h : IsN W v a) => Lib.hid (root_Root W v a k h hk1 (by omega) (by omega) (fun _ _ => .inl (by omega)))
  rw [← hr] at hRoot
  obtain ⟨z1, hz1⟩ : ∃ z, z = cmp3 P a := ⟨_, rfl⟩
  obtain ⟨z2, hz2⟩ : ∃ z, z = cmp3 Q a := ⟨_, rfl⟩
  have c1 : z1 ≤ 0 := by
    rw [hz1]
    rcases Int.lt_or_le 0 (cmp3 P a) with h | h
    · have := cmp3_pos.1 h; omega
    · exact h
  have c2 : 0 < z2 := by rw [hz2]; exact cmp3_pos.2 hQa
  have HZ1 := Lib.hid hz1
  have HZ2 := Lib.hid hz2
  have HA := Lib.hid hae
  have HM := Lib.hid hm
  have hM := fun W (h : Rd W .u32 va l) => Lib.hid (r1_Made W va l 60 h hL hb (by omega))
  rw [hae] at hM
  have HR := Lib.hid hR
  have b1 : bl 1 ≤ 1 := by decide
  obtain ⟨A0, d0, rfl, _⟩ := hR
  clear hae hk hr hra hm hmb hm2 hr2 hP hQ hPa hQa hz1 hz2 hbits hL
  go_enter Tryd.func4, Tryd.ntmps4
  go_wp2_with fail
  refine (law_head w).mono ?_
  rintro e w1 ⟨rfl, b1⟩
  go_wp2_with fail
  refine (hM _ (HR.out.up b1)).out.mono ?_
  rintro e w2 ⟨v2, rfl, i2, b2⟩
  obtain ⟨A2, d2, rfl⟩ := i2.slice
  go_wp2_with fail
  refine (hRoot _ _ i2).out.mono ?_
  rintro e w3 ⟨v3, rfl, ⟨u3, rfl, i3⟩, b3⟩
  obtain ⟨A3, d3, rfl⟩ := i3.slice
  go_wp2_with fail
  refine (kAdd1 (x := r) (y := 1) HM.out (hy := litN _ 1 (by omega) (by omega))).mono ?_
  rintro e w4 ⟨v4, rfl, i4, b4⟩
  have i3' : IsN w4 (.slice A3 (nl r) d3) r := (i3.al _).up b4
  have i2' : IsN w4 (.slice A2 (nl a) d2) a := ((i2.up b3).al _).up b4
  go_wp2_with fail
  refine (L1 _ _ i3').out.mono ?_
  rintro e w5 ⟨v5, rfl, ⟨u5, rfl, i5⟩, b5⟩
  go_wp2_with fail
  refine (L2 _ _ (i4.up b5)).out.mono ?_
  rintro e w6 ⟨v6, rfl, ⟨u6, rfl, i6⟩, b6⟩
  go_wp2_with fail
  refine (kCmp1 (x := P) (y := a) (hx := i5.up b6) (hy := (i2'.up b5).up b6)).mono ?_
  rintro e w7 ⟨rfl, rfl⟩
  rw [← HZ1.out]
  go_wp2_with fail
  refine (kCmp1 (x := Q) (y := a) (hx := i6) (hy := (i2'.up b5).up b6)).mono ?_
  rintro e w7 ⟨rfl, rfl⟩
  rw [← HZ2.out]
  go_wp2_with fail
  go_ret
  refine ⟨rfl, ?_⟩
  repeat (first | exact Below.refl _ _ | assumption | (apply up_then' (by assumption)) | (apply up_al'))

/-- What the walk gives, for every argument. -/
theorem rootBetween_contract (H : Type) (enc : TypeId × Value → H) (W : World) (base : Nat) (args : Array Value) (ds gs : List (DataW H)) (before : List MemPlace)
    (hval : ∀ (j : Nat) t v, Tryd.f4.params[j]? = some t → args[j]? = some v → Value.okWide Tryd.prog W .any base t v)
    (hW : DataW.Whole enc Tryd.prog Tryd.f4.params.toList Rows.rootBetweenSpec.vars false W args.toList ds gs before) :
    Calls Tryd.prog 4 args W fun e W' => ∃ v, e = .returned v ∧ Rows.rootBetweenSpec.post enc Tryd.prog Tryd.f4 false true false false W args v W' := by
  have hW' := hW
  obtain ⟨p, q, hA, hV, rfl, hfz, hnd⟩ := hW
  rw [Tryd.params4] at hA hval
  obtain ⟨v0, vs0, d0, ds0, p0, q0, hargs0, hds0, _, h0, r0⟩ := trodAll_cons hA
  obtain ⟨v1, vs1, d1, ds1, p1, q1, hargs1, hds1, _, h1, r1⟩ := trodAll_cons r0
  obtain ⟨e1, e2, _⟩ := trodAll_nil r1
  subst e1 e2
  subst hargs1 hds1
  subst hds0
  obtain rfl : args = #[v0, v1] := by cases args; simp_all
  obtain ⟨rfl, rfl⟩ := trodVars_none hV
  obtain ⟨l0, hl0, hL0, hb0⟩ := open_row (hval 0 _ v0 rfl rfl) h0
  obtain ⟨n1, hn1, _, _, hw1⟩ := open_int Tryd.underlying5 (hval 1 _ v1 rfl rfl) h1
  have hz1 := wf8 hw1
  obtain ⟨m1, rfl⟩ : ∃ m : Nat, n1 = m := ⟨n1.toNat, by omega⟩
  subst hn1
  refine (rootBetween_walk W v0 l0 m1 hl0 hL0 hb0 (by omega)).mono fun e W' ⟨he, hb⟩ => ⟨_, he, ?_⟩
  exact post_true hW' rfl (by kernel_rfl) rfl rfl rfl (by kernel_rfl) hb

noncomputable def rootBetween_world (os : Os) : World := World.doorLaid Tryd.prog 400 os
theorem rootBetween_met (os : Os) : laidMet Tryd.prog Rows.rootBetweenRow.laid ((rootBetween_world os).forCall (fun _ _ => 0) ⟨#[], #[.slice none 0 0, .int .u8 0], []⟩).memory :=
  laidMet_of_run' 8 (by kernel_rfl) (by kernel_rfl)
theorem rootBetween_reads (os : Os) {H : Type} (enc : TypeId × Value → H) : ∃ places, DataW.whole enc Tryd.prog ((rootBetween_world os).forCall (fun _ _ => 0) ⟨#[], #[.slice none 0 0, .int .u8 0], []⟩).memory Tryd.f4.params.toList Rows.rootBetweenSpec.vars false (#[.slice none 0 0, .int .u8 0] : Array Value).toList 8 = some ([.nil, .lit (.int .u8 0)], [], places) :=
  ⟨[], by kernel_rfl⟩
theorem rootBetween_lifted (os : Os) (started : os.Started) (H : Type) (enc : TypeId × Value → H) (F : Stop.Interp) :
    ReturnsInHanded {} Tryd.checked os 4 .any ((OpenSpec.ofChange Rows.rootBetweenSpec).preRow enc Tryd.prog Tryd.f4 Rows.rootBetweenRow.domain false Rows.rootBetweenRow.laid) (((OpenSpec.ofChange Rows.rootBetweenSpec).at F).post enc Tryd.prog Tryd.f4 false true false false) := by
  obtain ⟨places, hx⟩ := rootBetween_reads os enc
  refine returnsInHanded_of_row (C := Tryd.checked) (s := OpenSpec.ofChange Rows.rootBetweenSpec) own started (by kernel_rfl) Tryd.func4
    (witness_row_at (enc := enc) (C := Tryd.checked) false (rootBetween_world os) #[.slice none 0 0, .int .u8 0] rfl (by kernel_rfl) (by kernel_rfl) (by kernel_rfl)
      (OpenSpec.preRow_of_cond 8 hx (by kernel_rfl) (fun k hk => by cases hk) (by kernel_rfl) (rootBetween_met os))) ?_
  intro W base args ds gs before hval hW _ _ _ hL _ _
  exact rootBetween_contract H enc W base args ds gs before hval hW
theorem rootBetween_said : Rows.RootBetweenSaid :=
  OpenClaim.holds_of_cond 4 Tryd.f4 rfl rfl rfl rfl rfl rfl rfl ⟨rfl, rfl, rfl, rfl, rfl⟩ rfl rfl rfl rfl rfl (by kernel_rfl) Tryd.func4 (by kernel_rfl)
    (of_decide_eq_true (by kernel_rfl)) (by unfold Func.isWrapper; first | (rw [if_pos (by decide +kernel)]; kernel_rfl) | (rw [if_neg (by decide +kernel)]; exact ⟨rfl, rfl⟩))
    (fun os started H enc _ F => by rw [OpenClaim.pre_eq_preRow]; exact rootBetween_lifted os started H enc F)
theorem rootBetween_plain (f : FuncId) (fn : Func) (hf : Tryd.pinned.checked.prog.funcNamed "ziggurat/zigguratlaw08.RootBetween" = some f) (hfn : Tryd.pinned.checked.prog.funcs[f]? = some fn) :
    false = Tryd.pinned.checked.prog.looks [] ∧ ∀ (j : Nat) t, fn.params[j]? = some t → Tryd.pinned.checked.prog.wantsStandIn t = false := by
  obtain rfl : f = 4 := Option.some.inj ((show Tryd.prog.funcNamed "ziggurat/zigguratlaw08.RootBetween" = some 4 by kernel_rfl).symm.trans hf) |>.symm
  obtain rfl : fn = Tryd.f4 := (Option.some.inj (Tryd.func4.symm.trans hfn)).symm
  refine ⟨by kernel_rfl, fun j t ht => ?_⟩
  rw [Tryd.params4] at ht
  have hm : t ∈ [22, 5] := by simpa using Array.mem_of_getElem? ht
  have hall : ([22, 5].all fun u => !Tryd.prog.wantsStandIn u) = true := by kernel_rfl
  exact (show Tryd.prog.wantsStandIn t = false by simpa using List.all_eq_true.1 hall t hm)
/-- The law's card. -/
theorem rootBetween_card : Rows.RootBetweenCardSaid :=
  Claim7.holds_tied_plain_at .later [] _ _ _ _ rootBetween_said (fun _ h => by cases h) (by kernel_rfl) (fun _ h => by cases h) rootBetween_row_tie rfl ⟨rfl, rfl⟩ (by kernel_rfl) rfl rootBetween_plain (by kernel_rfl)

end Go.Proofs.YtffkedepffjobaaDoor
