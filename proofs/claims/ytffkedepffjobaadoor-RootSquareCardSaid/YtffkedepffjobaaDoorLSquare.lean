import Derived.Test.YtffkedepffjobaaDoorM11
import Derived.Test.YtffkedepffjobaaDoorCards
import Derived.Test.YtffkedepffjobaaDoorTie
namespace Go.Proofs.YtffkedepffjobaaDoor
open Go.ChangeShapes Go.WideShapes Go.ChangeAt Go.RowKit
set_option maxRecDepth 100000

set_option maxHeartbeats 1000000 in
theorem rootSquare_walk (w : World) (va : Value) (l : List Nat) (hR : Rd w .u32 va l) (hL : Lim l) (hb : l.length ≤ 9223372036854775807) :
    Calls Tryd.prog 5 #[va] w fun e w' => e = .returned (.bool true) ∧ Below w.heap.size w w' := by
  have hab := md_lt l 60 hL
  obtain ⟨a, hae⟩ : ∃ a, val (l.take 60) = a := ⟨_, rfl⟩
  rw [hae] at hab
  obtain ⟨r, hr⟩ : ∃ r, rt a 2 = r := ⟨_, rfl⟩
  obtain ⟨s, hs⟩ : ∃ s, a - r * r = s := ⟨_, rfl⟩
  have hsq := rt_sq a
  rw [hr, hs] at hsq
  obtain ⟨p, hp⟩ : ∃ p, r * r = p := ⟨_, rfl⟩
  have hsum : p + s = a := by have := hsq.1; omega
  have hsr : s ≤ r * 2 ^ 1 := by have := hsq.2; omega
  have hra : r ≤ a := by rw [← hr]; exact rt_le a 2 (by omega)
  have brr := bl_mono hra
  have bs := bl_mono (show s ≤ a by omega)
  have bp := bl_mono (show p ≤ a by omega)
  have h1 : ¬ (60 < nl r) := by unfold nl; omega
  have h2 : ¬ (60 < nl s) := by unfold nl; omega
  have hSq := fun W v (h : IsN W v a) => Lib.hid (root_Sqrt W v a h (by omega) (.inl (by omega)))
  unfold AnsSq at hSq
  rw [hr, hs] at hSq
  have hRt := fun W v (h : IsN W v a) => Lib.hid (root_Root W v a 2 h (by omega) (by omega) (by omega) (fun _ _ => .inl (by omega)))
  rw [hr] at hRt
  obtain ⟨t, ht⟩ : ∃ t, r * 2 ^ 1 = t := ⟨_, rfl⟩
  have bt : bl t ≤ 2000 := by rw [← ht]; have := bl_shl_le r 1; omega
  obtain ⟨z, hz⟩ : ∃ z, z = cmp3 s t := ⟨_, rfl⟩
  have hz0 : z ≤ 0 := by
    rw [hz]
    rcases Int.lt_or_le 0 (cmp3 s t) with h | h
    · have := cmp3_pos.1 h; omega
    · exact h
  have HZ := Lib.hid hz
  have HP := Lib.hid hp
  have HS := Lib.hid hsum
  have HT := Lib.hid ht
  have hM := fun W (h : Rd W .u32 va l) => Lib.hid (r1_Made W va l 60 h hL hb (by omega))
  rw [hae] at hM
  have HR := Lib.hid hR
  obtain ⟨A0, d0, rfl, _⟩ := hR
  clear hae hr hs hsq hp hsum hsr hra hz ht hL
  go_enter Tryd.func5, Tryd.ntmps5
  go_wp2_with fail
  refine (law_head w).mono ?_
  rintro e w1 ⟨rfl, b1⟩
  go_wp2_with fail
  refine (hM _ (HR.out.up b1)).out.mono ?_
  rintro e w2 ⟨v2, rfl, i2, b2⟩
  obtain ⟨A2, d2, rfl⟩ := i2.slice
  go_wp2_with fail
  refine (hSq _ _ i2).out.mono ?_
  rintro e w3 ⟨v3, rfl, ⟨u3, u4, rfl, i3, i4⟩, b3⟩
  obtain ⟨A3, d3, rfl⟩ := i3.slice
  obtain ⟨A4, d4, rfl⟩ := i4.slice
  go_wp2_with fail
  refine (hRt _ _ (i2.up b3)).out.mono ?_
  rintro e w4 ⟨v4, rfl, ⟨u5, rfl, i5⟩, b4⟩
  go_wp2_with fail
  refine (kSchool3 HP.out).mono ?_
  rintro e w5 ⟨v5, rfl, i6, b5⟩
  go_wp2_with fail
  refine (kAdd1 HS.out).mono ?_
  rintro e w6 ⟨v6, rfl, i7, b6⟩
  go_wp2_with fail
  refine (kSameT (x := a) (y := a) rfl i7 (by repeat (first | assumption | (apply IsN.up' (by assumption)) | (apply IsN.al') | (apply IsN.drN'))) (by omega)).mono ?_
  rintro e w7 ⟨rfl, b7⟩
  go_wp2_with fail
  refine (kShl1 (n := 1) rfl HT.out).mono ?_
  rintro e w8 ⟨v8, rfl, i8, b8⟩
  go_wp2_with fail
  refine (kCmp1 (x := s) (y := t)).mono ?_
  rintro e w9 ⟨rfl, rfl⟩
  rw [← HZ.out]
  go_wp2_with fail
  refine (kSameT (x := r) (y := r) rfl (by repeat (first | assumption | (apply IsN.up' (by assumption)) | (apply IsN.al') | (apply IsN.drN'))) (by repeat (first | assumption | (apply IsN.up' (by assumption)) | (apply IsN.al') | (apply IsN.drN'))) (by omega)).mono ?_
  rintro e w9 ⟨rfl, b9⟩
  go_wp2_with fail
  go_ret
  refine ⟨rfl, ?_⟩
  repeat (first | exact Below.refl _ _ | assumption | (apply up_then' (by assumption)) | (apply up_al') | (apply up_drN'))

/-- What the walk gives, for every argument. -/
theorem rootSquare_contract (H : Type) (enc : TypeId × Value → H) (W : World) (base : Nat) (args : Array Value) (ds gs : List (DataW H)) (before : List MemPlace)
    (hval : ∀ (j : Nat) t v, Tryd.f5.params[j]? = some t → args[j]? = some v → Value.okWide Tryd.prog W .any base t v)
    (hW : DataW.Whole enc Tryd.prog Tryd.f5.params.toList Rows.rootSquareSpec.vars false W args.toList ds gs before) :
    Calls Tryd.prog 5 args W fun e W' => ∃ v, e = .returned v ∧ Rows.rootSquareSpec.post enc Tryd.prog Tryd.f5 false true false false W args v W' := by
  have hW' := hW
  obtain ⟨p, q, hA, hV, rfl, hfz, hnd⟩ := hW
  rw [Tryd.params5] at hA hval
  obtain ⟨v0, vs0, d0, ds0, p0, q0, hargs0, hds0, _, h0, r0⟩ := trodAll_cons hA
  obtain ⟨e1, e2, _⟩ := trodAll_nil r0
  subst e1 e2
  subst hds0
  obtain rfl : args = #[v0] := by cases args; simp_all
  obtain ⟨rfl, rfl⟩ := trodVars_none hV
  obtain ⟨l0, hl0, hL0, hb0⟩ := open_row (hval 0 _ v0 rfl rfl) h0
  refine (rootSquare_walk W v0 l0 hl0 hL0 hb0).mono fun e W' ⟨he, hb⟩ => ⟨_, he, ?_⟩
  exact post_true hW' rfl (by kernel_rfl) rfl rfl rfl (by kernel_rfl) hb

noncomputable def rootSquare_world (os : Os) : World := World.doorLaid Tryd.prog 400 os
theorem rootSquare_met (os : Os) : laidMet Tryd.prog Rows.rootSquareRow.laid ((rootSquare_world os).forCall (fun _ _ => 0) ⟨#[], #[.slice none 0 0], []⟩).memory :=
  laidMet_of_run' 8 (by kernel_rfl) (by kernel_rfl)
theorem rootSquare_reads (os : Os) {H : Type} (enc : TypeId × Value → H) : ∃ places, DataW.whole enc Tryd.prog ((rootSquare_world os).forCall (fun _ _ => 0) ⟨#[], #[.slice none 0 0], []⟩).memory Tryd.f5.params.toList Rows.rootSquareSpec.vars false (#[.slice none 0 0] : Array Value).toList 8 = some ([.nil], [], places) :=
  ⟨[], by kernel_rfl⟩
theorem rootSquare_lifted (os : Os) (started : os.Started) (H : Type) (enc : TypeId × Value → H) (F : Stop.Interp) :
    ReturnsInHanded {} Tryd.checked os 5 .any ((OpenSpec.ofChange Rows.rootSquareSpec).preRow enc Tryd.prog Tryd.f5 Rows.rootSquareRow.domain false Rows.rootSquareRow.laid) (((OpenSpec.ofChange Rows.rootSquareSpec).at F).post enc Tryd.prog Tryd.f5 false true false false) := by
  obtain ⟨places, hx⟩ := rootSquare_reads os enc
  refine returnsInHanded_of_row (C := Tryd.checked) (s := OpenSpec.ofChange Rows.rootSquareSpec) own started (by kernel_rfl) Tryd.func5
    (witness_row_at (enc := enc) (C := Tryd.checked) false (rootSquare_world os) #[.slice none 0 0] rfl (by kernel_rfl) (by kernel_rfl) (by kernel_rfl)
      (OpenSpec.preRow_of_cond 8 hx (by kernel_rfl) (fun k hk => by cases hk) (by kernel_rfl) (rootSquare_met os))) ?_
  intro W base args ds gs before hval hW _ _ _ hL _ _
  exact rootSquare_contract H enc W base args ds gs before hval hW
theorem rootSquare_said : Rows.RootSquareSaid :=
  OpenClaim.holds_of_cond 5 Tryd.f5 rfl rfl rfl rfl rfl rfl rfl ⟨rfl, rfl, rfl, rfl, rfl⟩ rfl rfl rfl rfl rfl (by kernel_rfl) Tryd.func5 (by kernel_rfl)
    (of_decide_eq_true (by kernel_rfl)) (by unfold Func.isWrapper; first | (rw [if_pos (by decide +kernel)]; kernel_rfl) | (rw [if_neg (by decide +kernel)]; exact ⟨rfl, rfl⟩))
    (fun os started H enc _ F => by rw [OpenClaim.pre_eq_preRow]; exact rootSquare_lifted os started H enc F)
theorem rootSquare_plain (f : FuncId) (fn : Func) (hf : Tryd.pinned.checked.prog.funcNamed "ziggurat/zigguratlaw08.RootSquare" = some f) (hfn : Tryd.pinned.checked.prog.funcs[f]? = some fn) :
    false = Tryd.pinned.checked.prog.looks [] ∧ ∀ (j : Nat) t, fn.params[j]? = some t → Tryd.pinned.checked.prog.wantsStandIn t = false := by
  obtain rfl : f = 5 := Option.some.inj ((show Tryd.prog.funcNamed "ziggurat/zigguratlaw08.RootSquare" = some 5 by kernel_rfl).symm.trans hf) |>.symm
  obtain rfl : fn = Tryd.f5 := (Option.some.inj (Tryd.func5.symm.trans hfn)).symm
  refine ⟨by kernel_rfl, fun j t ht => ?_⟩
  rw [Tryd.params5] at ht
  have hm : t ∈ [22] := by simpa using Array.mem_of_getElem? ht
  have hall : ([22].all fun u => !Tryd.prog.wantsStandIn u) = true := by kernel_rfl
  exact (show Tryd.prog.wantsStandIn t = false by simpa using List.all_eq_true.1 hall t hm)
/-- The law's card. -/
theorem rootSquare_card : Rows.RootSquareCardSaid :=
  Claim7.holds_tied_plain_at .later [] _ _ _ _ rootSquare_said (fun _ h => by cases h) (by kernel_rfl) (fun _ h => by cases h) rootSquare_row_tie rfl ⟨rfl, rfl⟩ (by kernel_rfl) rfl rootSquare_plain (by kernel_rfl)

end Go.Proofs.YtffkedepffjobaaDoor
