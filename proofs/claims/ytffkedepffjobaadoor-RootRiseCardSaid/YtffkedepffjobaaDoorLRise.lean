import Derived.Test.YtffkedepffjobaaDoorM11
import Derived.Test.YtffkedepffjobaaDoorCards
import Derived.Test.YtffkedepffjobaaDoorTie
namespace Go.Proofs.YtffkedepffjobaaDoor
open Go.ChangeShapes Go.WideShapes Go.ChangeAt Go.RowKit
set_option maxRecDepth 100000

theorem cmp3_nn {x y : Nat} (h : y ≤ x) : ¬ cmp3 x y < 0 := fun g => by have := cmp3_neg.1 g; omega
theorem cmp3_np {x y : Nat} (h : x ≤ y) : ¬ 0 < cmp3 x y := fun g => by have := cmp3_pos.1 g; omega
set_option maxHeartbeats 2000000 in
theorem rootRise_walk (w : World) (va : Value) (l : List Nat) (vb : Value) (l' : List Nat) (n : Nat) (hR : Rd w .u32 va l) (hL : Lim l) (hb : l.length ≤ 9223372036854775807) (hR' : Rd w .u32 vb l') (hL' : Lim l') (hb' : l'.length ≤ 9223372036854775807) (hn : n < 256) :
    Calls Tryd.prog 11 #[va, vb, .int .u8 n] w fun e w' => e = .returned (.bool true) ∧ Below w.heap.size w w' := by
  have hab := md_lt l 40 hL
  have hbb := md_lt l' 40 hL'
  obtain ⟨a, hae⟩ : ∃ a, val (l.take 40) = a := ⟨_, rfl⟩
  obtain ⟨b, hbe⟩ : ∃ a, val (l'.take 40) = a := ⟨_, rfl⟩
  rw [hae] at hab
  rw [hbe] at hbb
  obtain ⟨k, hk⟩ : ∃ k, k = 1 + n % 80 := ⟨_, rfl⟩
  have hki : (1 : Int) + (n : Int) % 80 = (k : Int) := by omega
  have hk1 : 1 ≤ k := by omega
  have hk80 : k ≤ 80 := by omega
  obtain ⟨k', hk'⟩ : ∃ k', k' = k + 1 := ⟨_, rfl⟩
  have hki' : (k : Int) + 1 = (k' : Int) := by omega
  obtain ⟨c, hc⟩ : ∃ c, a + b = c := ⟨_, rfl⟩
  have bc : bl c ≤ 1281 := by rw [← hc]; have := bl_add a b; omega
  obtain ⟨q, hq⟩ : ∃ q, q = max (bl a) 1 := ⟨_, rfl⟩
  have hqi : max (bl a : Int) 1 = (q : Int) := by omega
  obtain ⟨r, hr⟩ : ∃ r, rt a k = r := ⟨_, rfl⟩
  obtain ⟨s, hs⟩ : ∃ r, rt c k = r := ⟨_, rfl⟩
  obtain ⟨t, ht⟩ : ∃ r, rt a k' = r := ⟨_, rfl⟩
  obtain ⟨g, hg⟩ : ∃ r, rt a q = r := ⟨_, rfl⟩
  have hrs : r ≤ s := by rw [← hr, ← hs]; exact rt_mono (by omega) (by omega)
  have htr : t ≤ r := by rw [← hr, ← ht]; exact rt_anti (by omega) (by omega)
  have br : bl r ≤ 1280 := by rw [← hr]; have := bl_rt a k (by omega); omega
  have bs : bl s ≤ 1281 := by rw [← hs]; have := bl_rt c k (by omega); omega
  have bt : bl t ≤ 1280 := by rw [← ht]; have := bl_rt a k' (by omega); omega
  have R1 := fun W v (h : IsN W v a) => Lib.hid (root_Root W v a k h hk1 (by omega) (by omega) (fun _ _ => .inl (by omega)))
  have R2 := fun W v (h : IsN W v c) => Lib.hid (root_Root W v c k h hk1 (by omega) (by omega) (fun _ _ => .inl (by omega)))
  have R3 := fun W v (h : IsN W v a) => Lib.hid (root_Root W v a k' h (by omega) (by omega) (by omega) (fun _ _ => .inl (by omega)))
  have R4 := fun W v (h : IsN W v a) => Lib.hid (root_Root W v a q h (by omega) (by omega) (by omega) (fun _ h => by omega))
  rw [hr] at R1
  rw [hs] at R2
  rw [ht] at R3
  rw [hg] at R4
  obtain ⟨z1, hz1⟩ : ∃ z, z = cmp3 s r := ⟨_, rfl⟩
  obtain ⟨z2, hz2⟩ : ∃ z, z = cmp3 t r := ⟨_, rfl⟩
  have c1 : ¬ z1 < 0 := by rw [hz1]; exact cmp3_nn hrs
  have c2 : ¬ 0 < z2 := by rw [hz2]; exact cmp3_np htr
  have HZ1 := Lib.hid hz1
  have HZ2 := Lib.hid hz2
  have HC := Lib.hid hc
  have hM := fun W (h : Rd W .u32 va l) => Lib.hid (r1_Made W va l 40 h hL hb (by omega))
  have hM' := fun W (h : Rd W .u32 vb l') => Lib.hid (r1_Made W vb l' 40 h hL' hb' (by omega))
  rw [hae] at hM
  rw [hbe] at hM'
  have HR := Lib.hid hR
  have HR' := Lib.hid hR'
  obtain ⟨A0, d0, rfl, _⟩ := hR
  obtain ⟨A0', d0', rfl, _⟩ := hR'
  have ha01 : (a = 0 ∧ g = 0) ∨ (a ≠ 0 ∧ g = 1) := by
    rcases Nat.eq_zero_or_pos a with h | h
    · subst h; left; exact ⟨rfl, by rw [← hg]; exact rt_zero (by omega)⟩
    · right; exact ⟨by omega, by rw [← hg]; exact rt_big (by omega) (by omega)⟩
  have HN := Lib.hid ha01
  clear hae hbe hk hk' hc hq hr hs ht hg hrs htr hz1 hz2 hL hL' ha01
  go_enter Tryd.func11, Tryd.ntmps11
  go_wp2_with fail
  refine (law_head w).mono ?_
  rintro e w1 ⟨rfl, b1⟩
  go_wp2_with fail
  refine (hM _ (HR.out.up b1)).out.mono ?_
  rintro e w2 ⟨v2, rfl, i2, b2⟩
  obtain ⟨A2, d2, rfl⟩ := i2.slice
  go_wp2_with fail
  refine (hM' _ ((HR'.out.up b1).up b2)).out.mono ?_
  rintro e w3 ⟨v3, rfl, i3, b3⟩
  go_wp2_with fail
  refine (R1 _ _ (i2.up b3)).out.mono ?_
  rintro e w4 ⟨v4, rfl, ⟨u4, rfl, i4⟩, b4⟩
  go_wp2_with fail
  refine (kAdd1 HC.out).mono ?_
  rintro e w5 ⟨v5, rfl, i5, b5⟩
  go_wp2_with fail
  refine (R2 _ _ i5).out.mono ?_
  rintro e w6 ⟨v6, rfl, ⟨u6, rfl, i6⟩, b6⟩
  go_wp2_with fail
  refine (R3 _ _ (by repeat (first | assumption | (apply IsN.up' (by assumption)) | (apply IsN.al') | (apply IsN.drN')))).out.mono ?_
  rintro e w7 ⟨v7, rfl, ⟨u7, rfl, i7⟩, b7⟩
  go_wp2_with fail
  refine (kBits1 (x := a)).mono ?_
  rintro e w8 ⟨rfl, n8, rfl⟩
  have i8 : IsN (w7.drewN n8) (.slice A2 (nl a) d2) a := by repeat (first | assumption | (apply IsN.up' (by assumption)) | (apply IsN.al') | (apply IsN.drN'))
  go_wp2_with fail
  refine (R4 _ _ i8).out.mono ?_
  rintro e w9 ⟨v9, rfl, ⟨u9, rfl, i9⟩, b9⟩
  obtain ⟨A9, d9, rfl⟩ := i9.slice
  have b79 : Below w7.heap.size w7 w9 := (up_drewN (Below.refl _ _) n8).trans b9
  have HB9 := Lib.hid b9
  clear b9 i8
  rcases HN.out with ⟨h1, h2⟩ | ⟨h1, h2⟩
  · subst h1 h2
    have hnl : nl 0 = 0 := rfl
    (try rw [hnl])
    go_wp2_with fail
    refine (kCmp1 (x := s) (y := r)).mono ?_
    rintro e w10 ⟨rfl, rfl⟩
    rw [← HZ1.out]
    go_wp2_with fail
    refine (kCmp1 (x := t) (y := r)).mono ?_
    rintro e w10 ⟨rfl, rfl⟩
    rw [← HZ2.out]
    go_wp2_with fail
    go_ret
    refine ⟨rfl, ?_⟩
    repeat (first | exact Below.refl _ _ | assumption | (apply up_then' (by assumption)) | (apply up_al') | (apply up_drN'))
  · subst h2
    have hna : ((nl a : Int) == 0) = false := beq_eq_false_iff_ne.mpr (by have := nl_pos h1; omega)
    have hna2 : (0 : Int) < (nl a : Int) := by have := nl_pos h1; omega
    have hna3 : 0 < nl a := nl_pos h1
    clear h1
    go_wp2_with fail
    refine (kCmp1 (x := s) (y := r)).mono ?_
    rintro e w10 ⟨rfl, rfl⟩
    rw [← HZ1.out]
    go_wp2_with fail
    refine (kCmp1 (x := t) (y := r)).mono ?_
    rintro e w10 ⟨rfl, rfl⟩
    rw [← HZ2.out]
    go_wp2_with fail
    refine (kSameT (x := 1) (y := 1) rfl (i9.al _) (litN _ 1 (by omega) (by omega)) (by decide)).mono ?_
    rintro e w11 ⟨rfl, b11⟩
    go_wp2_with fail
    go_ret
    refine ⟨rfl, ?_⟩
    repeat (first | exact Below.refl _ _ | assumption | (apply up_then' (by assumption)) | (apply up_al') | (apply up_drN'))

/-- What the walk gives, for every argument. -/
theorem rootRise_contract (H : Type) (enc : TypeId × Value → H) (W : World) (base : Nat) (args : Array Value) (ds gs : List (DataW H)) (before : List MemPlace)
    (hval : ∀ (j : Nat) t v, Tryd.f11.params[j]? = some t → args[j]? = some v → Value.okWide Tryd.prog W .any base t v)
    (hW : DataW.Whole enc Tryd.prog Tryd.f11.params.toList Rows.rootRiseSpec.vars false W args.toList ds gs before) :
    Calls Tryd.prog 11 args W fun e W' => ∃ v, e = .returned v ∧ Rows.rootRiseSpec.post enc Tryd.prog Tryd.f11 false true false false W args v W' := by
  have hW' := hW
  obtain ⟨p, q, hA, hV, rfl, hfz, hnd⟩ := hW
  rw [Tryd.params11] at hA hval
  obtain ⟨v0, vs0, d0, ds0, p0, q0, hargs0, hds0, _, h0, r0⟩ := trodAll_cons hA
  obtain ⟨v1, vs1, d1, ds1, p1, q1, hargs1, hds1, _, h1, r1⟩ := trodAll_cons r0
  obtain ⟨v2, vs2, d2, ds2, p2, q2, hargs2, hds2, _, h2, r2⟩ := trodAll_cons r1
  obtain ⟨e1, e2, _⟩ := trodAll_nil r2
  subst e1 e2
  subst hargs2 hds2
  subst hargs1 hds1
  subst hds0
  obtain rfl : args = #[v0, v1, v2] := by cases args; simp_all
  obtain ⟨rfl, rfl⟩ := trodVars_none hV
  obtain ⟨l0, hl0, hL0, hb0⟩ := open_row (hval 0 _ v0 rfl rfl) h0
  obtain ⟨l1, hl1, hL1, hb1⟩ := open_row (hval 1 _ v1 rfl rfl) h1
  obtain ⟨n2, hn2, _, _, hw2⟩ := open_int Tryd.underlying5 (hval 2 _ v2 rfl rfl) h2
  have hz2 := wf8 hw2
  obtain ⟨m2, rfl⟩ : ∃ m : Nat, n2 = m := ⟨n2.toNat, by omega⟩
  subst hn2
  refine (rootRise_walk W v0 l0 v1 l1 m2 hl0 hL0 hb0 hl1 hL1 hb1 (by omega)).mono fun e W' ⟨he, hb⟩ => ⟨_, he, ?_⟩
  exact post_true hW' rfl (by kernel_rfl) rfl rfl rfl (by kernel_rfl) hb

noncomputable def rootRise_world (os : Os) : World := World.doorLaid Tryd.prog 400 os
theorem rootRise_met (os : Os) : laidMet Tryd.prog Rows.rootRiseRow.laid ((rootRise_world os).forCall (fun _ _ => 0) ⟨#[], #[.slice none 0 0, .slice none 0 0, .int .u8 0], []⟩).memory :=
  laidMet_of_run' 8 (by kernel_rfl) (by kernel_rfl)
theorem rootRise_reads (os : Os) {H : Type} (enc : TypeId × Value → H) : ∃ places, DataW.whole enc Tryd.prog ((rootRise_world os).forCall (fun _ _ => 0) ⟨#[], #[.slice none 0 0, .slice none 0 0, .int .u8 0], []⟩).memory Tryd.f11.params.toList Rows.rootRiseSpec.vars false (#[.slice none 0 0, .slice none 0 0, .int .u8 0] : Array Value).toList 8 = some ([.nil, .nil, .lit (.int .u8 0)], [], places) :=
  ⟨[], by kernel_rfl⟩
theorem rootRise_lifted (os : Os) (started : os.Started) (H : Type) (enc : TypeId × Value → H) (F : Stop.Interp) :
    ReturnsInHanded {} Tryd.checked os 11 .any ((OpenSpec.ofChange Rows.rootRiseSpec).preRow enc Tryd.prog Tryd.f11 Rows.rootRiseRow.domain false Rows.rootRiseRow.laid) (((OpenSpec.ofChange Rows.rootRiseSpec).at F).post enc Tryd.prog Tryd.f11 false true false false) := by
  obtain ⟨places, hx⟩ := rootRise_reads os enc
  refine returnsInHanded_of_row (C := Tryd.checked) (s := OpenSpec.ofChange Rows.rootRiseSpec) own started (by kernel_rfl) Tryd.func11
    (witness_row_at (enc := enc) (C := Tryd.checked) false (rootRise_world os) #[.slice none 0 0, .slice none 0 0, .int .u8 0] rfl (by kernel_rfl) (by kernel_rfl) (by kernel_rfl)
      (OpenSpec.preRow_of_cond 8 hx (by kernel_rfl) (fun k hk => by cases hk) (by kernel_rfl) (rootRise_met os))) ?_
  intro W base args ds gs before hval hW _ _ _ hL _ _
  exact rootRise_contract H enc W base args ds gs before hval hW
theorem rootRise_said : Rows.RootRiseSaid :=
  OpenClaim.holds_of_cond 11 Tryd.f11 rfl rfl rfl rfl rfl rfl rfl ⟨rfl, rfl, rfl, rfl, rfl⟩ rfl rfl rfl rfl rfl (by kernel_rfl) Tryd.func11 (by kernel_rfl)
    (of_decide_eq_true (by kernel_rfl)) (by unfold Func.isWrapper; first | (rw [if_pos (by decide +kernel)]; kernel_rfl) | (rw [if_neg (by decide +kernel)]; exact ⟨rfl, rfl⟩))
    (fun os started H enc _ F => by rw [OpenClaim.pre_eq_preRow]; exact rootRise_lifted os started H enc F)
theorem rootRise_plain (f : FuncId) (fn : Func) (hf : Tryd.pinned.checked.prog.funcNamed "ziggurat/zigguratlaw08.RootRise" = some f) (hfn : Tryd.pinned.checked.prog.funcs[f]? = some fn) :
    false = Tryd.pinned.checked.prog.looks [] ∧ ∀ (j : Nat) t, fn.params[j]? = some t → Tryd.pinned.checked.prog.wantsStandIn t = false := by
  obtain rfl : f = 11 := Option.some.inj ((show Tryd.prog.funcNamed "ziggurat/zigguratlaw08.RootRise" = some 11 by kernel_rfl).symm.trans hf) |>.symm
  obtain rfl : fn = Tryd.f11 := (Option.some.inj (Tryd.func11.symm.trans hfn)).symm
  refine ⟨by kernel_rfl, fun j t ht => ?_⟩
  rw [Tryd.params11] at ht
  have hm : t ∈ [22, 22, 5] := by simpa using Array.mem_of_getElem? ht
  have hall : ([22, 22, 5].all fun u => !Tryd.prog.wantsStandIn u) = true := by kernel_rfl
  exact (show Tryd.prog.wantsStandIn t = false by simpa using List.all_eq_true.1 hall t hm)
/-- The law's card. -/
theorem rootRise_card : Rows.RootRiseCardSaid :=
  Claim7.holds_tied_plain_at .later [] _ _ _ _ rootRise_said (fun _ h => by cases h) (by kernel_rfl) (fun _ h => by cases h) rootRise_row_tie rfl ⟨rfl, rfl⟩ (by kernel_rfl) rfl rootRise_plain (by kernel_rfl)

end Go.Proofs.YtffkedepffjobaaDoor
