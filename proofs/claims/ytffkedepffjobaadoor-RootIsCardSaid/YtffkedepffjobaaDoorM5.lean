/- The contracts of div.Small, guess, take and back. By an AI agent. -/
import Derived.Test.YtffkedepffjobaaDoorM4
import Derived.WalkMore
set_option linter.unusedVariables false
set_option linter.unusedSimpArgs false
namespace Go.Proofs.YtffkedepffjobaaDoor
open Go.RowKit
set_option maxRecDepth 100000
attribute [local go_sem] Oper.semAt_some

theorem grownBy_setC (w : World) (b i : Nat) (v : Value) : w.grownBy (w.setCell ⟨b, i, none⟩ v) (some b) :=
  ⟨rfl, rfl, rfl, by simp [World.setCell], fun k _ hk => Below.heap_setCell _ _ _ _ (fun e => hk (by simp [e]))⟩

/-- Between two rounds of Small. -/
def SmAt (H : Nat) (l : List Nat) (m : Nat) (va : Value) (w : World) (pre : List (Ix l.length)) (W : World) : Prop :=
  Own W (H + 1) 36 .u32 (.slice (some ⟨H + 1, 0, none⟩) l.length l.length) (sm l m pre).1 ∧ Boxed W H 36 (.int .u32 m) ∧ Boxed W (H + 2) 22 (.slice (some ⟨H + 1, 0, none⟩) l.length l.length) ∧
    Boxed W (H + 3) 36 (.int .u32 (sm l m pre).2) ∧ Boxed W (H + 4) 22 va ∧ Below H w W

theorem smAt_own (H : Nat) (l : List Nat) (m : Nat) (va : Value) (w : World) (B : Nat) (hH : H ≤ w.heap.size) (hB : H + 2 ≤ B) : OwnFrom B (SmAt H l m va w) :=
  OwnFrom.and (fun s W W' row h hg hr => World.ownsRow.kept h hg (.inr (by
      intro e
      have := (hr (H + 1) (by rw [← e]; rfl)).1
      omega)))
    (OwnFrom.and (Own.from (boxed_own _ _ (fun _ => _)) _) (OwnFrom.and (Own.from (boxed_own _ _ (fun _ => _)) _) (OwnFrom.and (Own.from (boxed_own _ _ (fun s => .int .u32 (sm l m s).2)) _) (OwnFrom.and (Own.from (boxed_own _ _ (fun _ => _)) _) (ownFrom_below hH (by omega))))))

/-- The world where Small's loop begins. -/
def smW (n m : Nat) (va : Value) (w : World) : World :=
  ((((w.alloc (.cells #[.int .u32 m] 36)).alloc (.cells (madeCells #[.int .u32 0] n) 36)).alloc (.cells #[.slice (some ⟨w.heap.size + 1, 0, none⟩) n n] 22)).alloc (.cells #[.int .u32 0] 36)).alloc (.cells #[va] 22)
theorem smW_size (n m : Nat) (va : Value) (w : World) : (smW n m va w).heap.size = w.heap.size + 5 := by simp [smW]
theorem smW_below (n m : Nat) (va : Value) (w : World) : Below w.heap.size w (smW n m va w) := by
  unfold smW
  repeat (first | exact Below.refl _ _ | apply up_alloc)
theorem smW_at (l : List Nat) (m : Nat) (hn : l.length ≤ 10000000000) (va : Value) (w : World) : SmAt w.heap.size l m va w [] (smW l.length m va w) := by
  refine ⟨⟨?_, .inr ⟨w.heap.size + 1, l.length, madeCells #[.int .u32 0] l.length, ?_, ?_, ?_, ?_, ?_, ?_, ?_⟩⟩, ?_, ?_, ?_, ?_, smW_below _ _ _ _⟩
  · simp [sm_nil, ints]
  · simp [sm_nil]
  · omega
  · unfold smW; simp only [heap_alloc', Array.getElem?_push, Array.size_push, Nat.add_assoc, Nat.reduceAdd]; simp
  · simp [sm_nil]
  · unfold maxLen; omega
  · simp [size_madeCells]
  · simp only [sm_nil, ints, List.map_replicate, List.length_replicate, Nat.mul_one, madeCells]
    apply List.ext_getElem
    · simp
    · intro j h1 h2
      simp [Nat.mod_one]
  · unfold Boxed smW; simp only [heap_alloc', Array.getElem?_push, Array.size_push, Nat.add_assoc, Nat.reduceAdd]; simp
  · unfold Boxed smW; simp only [heap_alloc', Array.getElem?_push, Array.size_push, Nat.add_assoc, Nat.reduceAdd]; simp
  · unfold Boxed smW; simp only [heap_alloc', Array.getElem?_push, Array.size_push, Nat.add_assoc, Nat.reduceAdd]; simp [sm_nil]
  · unfold Boxed smW; simp only [heap_alloc', Array.getElem?_push, Array.size_push, Nat.add_assoc, Nat.reduceAdd]; simp

/-- One round more. -/
theorem smAt_step {H : Nat} {l : List Nat} {m : Nat} {va : Value} {w W : World} {pre : List (Ix l.length)} (h : SmAt H l m va w pre W) (x : Ix l.length) (nq q r : Nat) (hq : q = ((sm l m pre).2 * 4294967296 + lb l x.1) / m) (hr : r = ((sm l m pre).2 * 4294967296 + lb l x.1) % m)
    (hlen : (sm l m pre).1.length = l.length) :
    KeepsOthers W (((W.drewN nq).setCell ⟨H + 1, x.1, none⟩ (.int .u32 (q : Nat))).setCell ⟨H + 3, 0, none⟩ (.int .u32 (r : Nat))) ∧
      KpB H (H + 4) W (((W.drewN nq).setCell ⟨H + 1, x.1, none⟩ (.int .u32 (q : Nat))).setCell ⟨H + 3, 0, none⟩ (.int .u32 (r : Nat))) ∧
      SmAt H l m va w (pre ++ [x]) (((W.drewN nq).setCell ⟨H + 1, x.1, none⟩ (.int .u32 (q : Nat))).setCell ⟨H + 3, 0, none⟩ (.int .u32 (r : Nat))) := by
  obtain ⟨ho, hm, hd, hc, hs, hB⟩ := h
  have bx : ∀ {B t u}, Boxed W B t u → B ≠ H + 1 → B ≠ H + 3 → Boxed (((W.drewN nq).setCell ⟨H + 1, x.1, none⟩ (.int .u32 (q : Nat))).setCell ⟨H + 3, 0, none⟩ (.int .u32 (r : Nat))) B t u := fun hb n1 n2 =>
    (Boxed.kept (W := W.drewN nq) hb (grownBy_setC _ (H + 1) x.1 _) (fun e => n1 (by injection e))).other n2 _
  have hbel : Below H W (((W.drewN nq).setCell ⟨H + 1, x.1, none⟩ (.int .u32 (q : Nat))).setCell ⟨H + 3, 0, none⟩ (.int .u32 (r : Nat))) :=
    ((up_drewN (Below.refl H W) nq).setCell (p := ⟨H + 1, x.1, none⟩) (by show H ≤ H + 1; omega) _).setCell (p := ⟨H + 3, 0, none⟩) (by show H ≤ H + 3; omega) _
  have hk : ∀ k, k ≠ H + 1 → k ≠ H + 3 → (((W.drewN nq).setCell ⟨H + 1, x.1, none⟩ (.int .u32 (q : Nat))).setCell ⟨H + 3, 0, none⟩ (.int .u32 (r : Nat))).heap[k]? = W.heap[k]? := fun k h1 h2 => by
    rw [Below.heap_setCell _ _ _ _ h2, Below.heap_setCell _ _ _ _ h1]; rfl
  refine ⟨?_, ⟨hbel, hk _ (by omega) (by omega)⟩, ⟨?_, bx hm (by omega) (by omega), bx hd (by omega) (by omega), ?_, bx hs (by omega) (by omega), hB.trans hbel⟩⟩
  · exact ((show KeepsOthers W (W.drewN nq) from ⟨Nat.le_refl _, fun _ _ h _ => h⟩).trans (KeepsOthers.setCell _ _ _)).trans (KeepsOthers.setCell _ _ _)
  · rw [sm_snoc, ← hq]
    have h1 : Own (W.drewN nq) (H + 1) 36 .u32 (.slice (some ⟨H + 1, 0, none⟩) l.length l.length) (sm l m pre).1 := ho
    have h2 := h1.set hlen.symm x.1 q
    exact World.ownsRow.kept h2 (grownBy_setC _ (H + 3) 0 _) (.inr (by intro e; have : H + 1 = H + 3 := (by injection e); omega))
  · rw [sm_snoc, ← hr]
    exact Boxed.set _ (Boxed.kept (W := W.drewN nq) hc (grownBy_setC _ (H + 1) x.1 _) (fun e => by have : H + 3 = H + 1 := (by injection e); omega))

/-- What Small tells: a quotient, a rest, no error. -/
def AnsSmall (w : World) (x m : Nat) : Ending → World → Prop := Ans w fun v w' => ∃ u, v = .tuple #[u, .int .u32 ((x % m : Nat) : Int), .int .i64 0] ∧ IsN w' u (x / m)

set_option maxHeartbeats 400000 in
theorem div_Small (w : World) (va : Value) (x m : Nat) (ha : IsN w va x) (bx : bl x ≤ 100000000000) (hm0 : 0 < m) (hm : m < 4294967296) :
    Calls Tryd.prog 51 #[va, .int .u32 m] w (AnsSmall w x m) := by
  obtain ⟨l, hR, hl, rfl⟩ := ha
  have hll : l.length ≤ 4000000000 := by have := hl.len; omega
  have HL := Lib.hid hl.1
  have HRa := Lib.hid hR
  clear bx hl
  obtain ⟨A, c, rfl, _⟩ := hR
  refine (callsIn_wide (n := 3)).1 ?_
  refine callsIn_of_wp_marks Tryd.func51 rfl trivial ?_ rfl
  simp only [Tryd.ntmps51, List.size_toArray, List.length_cons, List.length_nil, Nat.reduceAdd, Nat.reduceSub, Array.replicate_succ, Array.replicate_zero, List.push_toArray, List.append_toArray, List.nil_append, List.cons_append]
  have hmk : ∀ w, (Instr.makeSlice 22 (.int .i64 (l.length : Int)) (.int .i64 (l.length : Int))).run Tryd.prog w = .ok (.slice (some ⟨w.heap.size, 0, none⟩) l.length l.length) (w.alloc (.cells (madeCells #[.int .u32 0] l.length) 36)) := fun w => by
    obtain ⟨i, hi, hz0, hz1, hz2⟩ := info_parts inf32
    have hr := run_make (P := Tryd.prog) w 22 36 i (.int .u32 0) Tryd.underlying22 hi hz0 .i64 .i64 l.length l.length (by omega) (by omega) (by rw [hz2]; omega) (by omega)
    rw [hz1] at hr
    simpa [Value.cells] using hr
  gi_wp2_with (refine ⟨trivial, ?_⟩; gi_at_call 67; refine (callsIn_wide.2 (backward_any _ _ _ _)).mono ?_; rintro e w1 ⟨rfl, rfl⟩)
  simp only [Nat.add_assoc, Nat.reduceAdd]
  change Code.wpIn _ _ _ _ _ _ (smW l.length m (.slice A l.length c) w)
  have hs0 := smW_size l.length m (.slice A l.length c) w
  have hr0 := smW_at l m (by omega) (.slice A l.length c) w
  have hB0 := smW_below l.length m (.slice A l.length c) w
  generalize smW l.length m (.slice A l.length c) w = W0 at hs0 hr0 hB0 ⊢
  clear hmk
  have HM := Lib.hid (And.intro hm0 hm)
  refine wpIn_rangeFunc_ownF rfl (by decide) (gf := 80) (lb := #[.pointer (some ⟨w.heap.size + 4, 0, none⟩)]) rfl trivial (enters_of Tryd.func80 (by kernel_rfl) rfl)
    (encs := encB l) (Kp := KpB w.heap.size (w.heap.size + 4)) (S := fun ys => ys = downs l.length l.length) (Sp := fun _ => True) (N := l.length) (w0 := W0) ?seq ?kt ?kb (Below.refl _ _) (fun _ => rfl)
    (SmAt w.heap.size l m (.slice A l.length c) w) (fun _ _ _ => False) (smAt_own _ _ _ _ _ _ (Nat.le_refl _) (by omega)) (fun _ _ _ _ _ hs _ _ => hs) hr0
    (fun x => { tmps := #[.slice A l.length c, .int .u32 m, undef, .pointer (some ⟨w.heap.size, 0, none⟩), .slice none 0 0, .int .u32 0, .int .i64 0, .pointer (some ⟨w.heap.size + 2, 0, none⟩), .pointer (some ⟨w.heap.size + 3, 0, none⟩), .int .i64 x.1, .int .u32 (lb l x.1 : Nat), .int .u32 m, .bool false, .slice A l.length c, .int .i64 l.length, .slice (some ⟨w.heap.size + 1, 0, none⟩) l.length l.length, .slice A l.length c, .func (.func 80) #[] #[.pointer (some ⟨w.heap.size + 4, 0, none⟩)], .int .i64 x.1, .int .u32 (lb l x.1 : Nat), undef, undef, undef, undef, undef, undef, undef, undef, undef, undef, undef, undef, undef], defers := [] }) ?assign ?body ?done ?stop
  case seq =>
    intro k J Jx W hW hJ hJx hY h0
    have hWH : Below w.heap.size w W := hB0.trans (hW.mono (by omega))
    exact backs1 2 (by omega) k (w.heap.size + 4) w.heap.size (.slice A l.length c) l (by omega) J Jx hY W
      ((hW.cell (p := ⟨w.heap.size + 4, 0, none⟩) (by dsimp only; omega)).trans hr0.2.2.2.2.1.cell)
      (fun X hX => HRa.out.up (hWH.trans hX))
      (fun pre X h => hJ pre X X.drew none h ⟨rfl, rfl, rfl, Nat.le_refl _, fun _ _ _ => rfl⟩ (fun r e => by cases e)) h0
  case kt =>
    rintro X Y Z ⟨h1, h2⟩ ⟨k1, k2⟩
    exact ⟨h1.trans k1, k2.trans h2⟩
  case kb =>
    intro W l o o' hl ho h1 h2
    exact ⟨belowK_b (by omega) W l o o' hl ho h1 h2, World.putObj_heap_other (by omega)⟩
  case assign =>
    intro k x W K hK
    simp only [encB]
    gi_wp2
    exact hK
  case body =>
    rintro k pre x W hS hlt
    have HS := Lib.hid hS
    obtain ⟨hrow, hm1, hd, hc, hs, hB⟩ := hS
    obtain ⟨t1, t2, t3⟩ := sm_tame l m HL.out HM.out.1 (by omega) pre
    obtain ⟨r, hr⟩ : ∃ r, r = (sm l m pre).2 := ⟨_, rfl⟩
    obtain ⟨y, hy⟩ : ∃ y, y = lb l x.1 := ⟨_, rfl⟩
    have hy32 : y < 4294967296 := by rw [hy]; exact HL.out.at _
    obtain ⟨qq, hqq⟩ : ∃ q, q = (r * 4294967296 + y) / m := ⟨_, rfl⟩
    obtain ⟨rr, hrr⟩ : ∃ q, q = (r * 4294967296 + y) % m := ⟨_, rfl⟩
    have HST := fun nq => Lib.hid (smAt_step HS.out x nq qq rr (by rw [hqq, hr, hy]) (by rw [hrr, hr, hy]) t2)
    have hD := fun W => bits_Div32 r y m W (by rw [hr]; exact t3) hy32 hm
    rw [← hqq, ← hrr] at hD
    have HD := Lib.hid hD
    rw [← hr] at hc t3
    have c1 := hm1.cell
    have c2 := hd.cell
    have c3 := hc.cell
    have f3 := hc.frozen
    have HRow := Lib.hid hrow
    obtain ⟨xi, hxi⟩ := x
    have c4 := hrow.cell t2.symm xi (by omega)
    have f4 := hrow.froz t2.symm xi
    dsimp only at hy ⊢
    rw [← hy]
    clear hrow hm1 hd hc hs hB t1 t2 hr hy hqq hrr hD
    have hmix : Tryd.prog.follows .mixedOrders = true := by kernel_rfl
    have hxii : (xi : Int) < (l.length : Int) := by omega
    gi_wp2
    refine region_round (S := fun X => X.cell? ⟨w.heap.size, 0, none⟩ = some (.int .u32 m) ∧ X.cell? ⟨w.heap.size + 2, 0, none⟩ = some (.slice (some ⟨w.heap.size + 1, 0, none⟩) l.length l.length)) hmix (by kernel_rfl) ⟨c1, c2⟩ (fun hHeld => ?_)
    refine wpAnyH_take (i := 0) (v := .slice (some ⟨w.heap.size + 1, 0, none⟩) l.length l.length) rfl (by kernel_rfl) (by kernel_rfl) (by kernel_rfl) (fun _ _ _ h => h) (Or.inl ⟨by rfl, ?_⟩) (by assumption) ?_
    · intro w hSw
      (try dsimp only at hSw)
      go_simp
      (try with_reducible rfl)
    (try simp only [Act.put, List.setIfInBounds_toArray, List.set_cons_zero, List.set_cons_succ])
    refine wpAnyH_take (i := 1) (v := .int .i64 xi) rfl (by kernel_rfl) (by kernel_rfl) (by kernel_rfl) (fun _ _ _ h => h) (Or.inl ⟨by rfl, ?_⟩) (by assumption) ?_
    · intro w hSw
      (try dsimp only at hSw)
      go_simp
      (try with_reducible rfl)
    (try simp only [Act.put, List.setIfInBounds_toArray, List.set_cons_zero, List.set_cons_succ])
    refine wpAnyH_take (i := 3) (v := .int .u32 y) rfl (by kernel_rfl) (by kernel_rfl) (by kernel_rfl) (fun _ _ _ h => h) (Or.inl ⟨by rfl, ?_⟩) (by assumption) ?_
    · intro w hSw
      (try dsimp only at hSw)
      go_simp
      (try with_reducible rfl)
    (try simp only [Act.put, List.setIfInBounds_toArray, List.set_cons_zero, List.set_cons_succ])
    refine wpAnyH_take (i := 4) (v := .int .u32 m) rfl (by kernel_rfl) (by kernel_rfl) (by kernel_rfl) (fun _ _ _ h => h) (Or.inl ⟨by rfl, ?_⟩) (by assumption) ?_
    · intro w hSw
      (try dsimp only at hSw)
      go_simp
      (try with_reducible rfl)
    (try simp only [Act.put, List.setIfInBounds_toArray, List.set_cons_zero, List.set_cons_succ])
    refine wpAnyH_ready (rs := [2]) (by kernel_rfl) (by simp) ?_
    refine AllReadyH.cons rfl (fun K hK => ?_) AllReadyH.nil
    go_simp
    refine hK.out _ _ (by first | exact ⟨c1, c2⟩ | ((try dsimp only); go_simp)) (fun hHeld => ?_)
    clear hK K
    (try simp only [Act.put, List.setIfInBounds_toArray, List.set_cons_zero, List.set_cons_succ])
    refine wpAnyH_ready (rs := [5]) (by kernel_rfl) (by simp) ?_
    refine AllReadyH.cons rfl (fun K hK => ?_) AllReadyH.nil
    go_simp
    go_at_call 68
    refine (HD.out _).mono ?_
    rintro e w1 ⟨rfl, nq, rfl⟩
    refine hK.out _ _ (by first | exact ⟨c1, c2⟩ | ((try dsimp only); go_simp)) (fun hHeld => ?_)
    clear hK K
    (try simp only [Act.put, List.setIfInBounds_toArray, List.set_cons_zero, List.set_cons_succ])
    refine wpAnyH_take (i := 6) (v := .tuple #[.int .u32 qq, .int .u32 rr]) rfl (by kernel_rfl) (by kernel_rfl) (by kernel_rfl) (fun _ _ _ h => h) (Or.inl ⟨by rfl, ?_⟩) (by assumption) ?_
    · intro w hSw
      (try dsimp only at hSw)
      go_simp
      (try with_reducible rfl)
    (try simp only [Act.put, List.setIfInBounds_toArray, List.set_cons_zero, List.set_cons_succ])
    refine wpAnyH_take (i := 7) (v := .int .u32 qq) rfl (by kernel_rfl) (by kernel_rfl) (by kernel_rfl) (fun _ _ _ h => h) (Or.inl ⟨by rfl, ?_⟩) (by assumption) ?_
    · intro w hSw
      (try dsimp only at hSw)
      go_simp
      (try with_reducible rfl)
    (try simp only [Act.put, List.setIfInBounds_toArray, List.set_cons_zero, List.set_cons_succ])
    refine wpAnyH_take (i := 8) (v := .int .u32 rr) rfl (by kernel_rfl) (by kernel_rfl) (by kernel_rfl) (fun _ _ _ h => h) (Or.inl ⟨by rfl, ?_⟩) (by assumption) ?_
    · intro w hSw
      (try dsimp only at hSw)
      go_simp
      (try with_reducible rfl)
    (try simp only [Act.put, List.setIfInBounds_toArray, List.set_cons_zero, List.set_cons_succ])
    refine wpAnyH_take (i := 9) (v := .pointer (some ⟨w.heap.size + 1, xi, none⟩)) rfl (by kernel_rfl) (by kernel_rfl) (by kernel_rfl) (fun _ _ _ h => h) (Or.inl ⟨by rfl, ?_⟩) (by assumption) ?_
    · intro w hSw
      (try dsimp only at hSw)
      go_simp
      (try with_reducible rfl)
    (try simp only [Act.put, List.setIfInBounds_toArray, List.set_cons_zero, List.set_cons_succ])
    refine wpAnyH_ready (rs := [10]) (by kernel_rfl) (by simp) ?_
    refine AllReadyH.cons rfl (fun K hK => ?_) AllReadyH.nil
    go_simp
    refine hK.out _ _ (by first | exact ⟨c1, c2⟩ | ((try dsimp only); go_simp)) (fun hHeld => ?_)
    clear hK K
    (try simp only [Act.put, List.setIfInBounds_toArray, List.set_cons_zero, List.set_cons_succ])
    refine wpAnyH_ready (rs := [11]) (by kernel_rfl) (by simp) ?_
    refine AllReadyH.cons rfl (fun K hK => ?_) AllReadyH.nil
    go_simp
    refine hK.out _ _ (by first | exact ⟨c1, c2⟩ | ((try dsimp only); go_simp)) (fun hHeld => ?_)
    clear hK K
    (try simp only [Act.put, List.setIfInBounds_toArray, List.set_cons_zero, List.set_cons_succ])
    refine wpAnyH_done (by kernel_rfl) ?_ _
    simp only [OnlyN]
    gi_wp2
    exact (HST _).out
  case done =>
    rintro D ys W hD rfl ⟨hrow, hm1, hd, hc, hs, hB⟩ hK
    have hdv := sm_downs l m HL.out HM.out.1 (by have := HM.out.2; omega) l.length (Nat.le_refl _)
    rw [Nat.sub_self] at hdv
    have HV := Lib.hid (dv_end hdv)
    have HT := Lib.hid (And.intro hdv.lim hdv.len)
    obtain ⟨r, hr⟩ : ∃ r, r = (sm l m (downs l.length l.length)).2 := ⟨_, rfl⟩
    rw [← hr] at hc HV
    obtain ⟨out, hout⟩ : ∃ r, r = (sm l m (downs l.length l.length)).1 := ⟨_, rfl⟩
    rw [← hout] at hrow HV HT
    have c1 := hm1.cell
    have c2 := hd.cell
    have c3 := hc.cell
    have hDlt : D < W.heap.size := (Array.getElem?_eq_some_iff.1 hK).1
    have h3lt := hc.lt
    have HO := Lib.hid hrow
    have HB := Lib.hid hB
    have HC := Lib.hid hc
    clear hrow hm1 hd hc hs hB hdv hout hr
    have hmix : Tryd.prog.follows .mixedOrders = true := by kernel_rfl
    gi_wp2
    refine wpIn_wide.2 ?_
    go_region_held3 (fun X => X.cell? ⟨w.heap.size + 2, 0, none⟩ = some (.slice (some ⟨w.heap.size + 1, 0, none⟩) l.length l.length) ∧ X.cell? ⟨w.heap.size + 3, 0, none⟩ = some (.int .u32 r)) (first | exact ⟨c2, c3⟩ | exact ⟨(hb1.cell (by simp; omega)).trans c2, (hb1.cell (by simp; omega)).trans c3⟩)
      ((first | (go_at_call 54; refine (nat_Make _ _ _ (HT.out.2 ▸ HO.out.rd.up (Below.refl _ _).drew) HT.out.1 (by have := HT.out.2; omega)).mono ?_; rintro e w1 ⟨v1, rfl, hn1, hb1⟩) | fail))
    gi_wp2
    have hK1 : w1.heap[D]? = some (.deferred (some [])) := (hb1.block D hDlt).trans hK
    refine ⟨by simp, .inl ⟨_, _, rfl, run_takeDeferred hK1, ?_⟩⟩
    refine ⟨_, results_tmp3 rfl _ _ _, ⟨_, rfl, ⟨v1, ?_, ?_⟩, (up_then HB.out (Below.trans (Below.refl _ _).drew hb1)).trans (belowK_b (w := w) (Nat.le_refl _) w1 D _ _ (by omega) hK1 rfl rfl)⟩⟩
    · rw [← HV.out.2]; rfl
    · rw [← HV.out.1]; exact hn1.put _ hK1 rfl
  case stop =>
    rintro D c pre W _ _ h _
    exact h.elim
end Go.Proofs.YtffkedepffjobaaDoor

namespace Go.Proofs.YtffkedepffjobaaDoor
open Go.RowKit
set_option maxRecDepth 100000

/-- A guess on its way. -/
structure Gu (x2 x1 x0 y1 y0 q r : Nat) : Prop where
  sum : q * y1 + r = x2 * 4294967296 + x1
  least : ∀ t, t < 4294967296 → t * (y1 * 4294967296 + y0) ≤ (x2 * 4294967296 + x1) * 4294967296 + x0 → t ≤ q
/-- What guess tells. -/
structure Guessed (x2 x1 x0 y1 y0 q : Nat) : Prop where
  lt : q < 4294967296
  le : q * (y1 * 4294967296 + y0) ≤ (x2 * 4294967296 + x1) * 4294967296 + x0
  least : ∀ t, t < 4294967296 → t * (y1 * 4294967296 + y0) ≤ (x2 * 4294967296 + x1) * 4294967296 + x0 → t ≤ q
theorem gu_start (x2 x1 x0 y1 y0 : Nat) (h0 : x0 < 4294967296) (h1 : 0 < y1) : Gu x2 x1 x0 y1 y0 ((x2 * 4294967296 + x1) / y1) ((x2 * 4294967296 + x1) % y1) := by
  refine ⟨by rw [Nat.mul_comm]; exact Nat.div_add_mod _ _, fun t ht h => ?_⟩
  rw [Nat.le_div_iff_mul_le h1]
  have h2 : t * y1 * 4294967296 ≤ t * (y1 * 4294967296 + y0) := by rw [Nat.mul_add, Nat.mul_assoc]; exact Nat.le_add_right _ _
  generalize t * y1 = a at *
  omega
theorem gu_step {x2 x1 x0 y1 y0 q r : Nat} (h : Gu x2 x1 x0 y1 y0 q r) (hq : 4294967296 ≤ q ∨ q * y0 > r * 4294967296 + x0) : 0 < q ∧ Gu x2 x1 x0 y1 y0 (q - 1) (r + y1) := by
  have hq0 : 0 < q := by
    rcases Nat.eq_zero_or_pos q with rfl | h
    · rcases hq with h | h
      · omega
      · simp at h
    · exact h
  refine ⟨hq0, ⟨?_, fun t ht hle => ?_⟩⟩
  · rw [← h.sum]
    obtain ⟨p, rfl⟩ : ∃ p, q = p + 1 := ⟨q - 1, by omega⟩
    rw [Nat.add_sub_cancel, Nat.add_mul]; omega
  · have h1 := h.least t ht hle
    rcases Nat.lt_or_ge t q with h2 | h2
    · omega
    · exfalso
      have e : t = q := by omega
      subst e
      rcases hq with h3 | h3
      · omega
      · have h4 := h.sum
        rw [Nat.mul_add, ← Nat.mul_assoc, ← h4] at hle
        generalize t * y1 = a at *
        generalize t * y0 = b at *
        omega
theorem gu_end {x2 x1 x0 y1 y0 q r : Nat} (h : Gu x2 x1 x0 y1 y0 q r) (hq : q < 4294967296) (hle : q * y0 ≤ r * 4294967296 + x0) : Guessed x2 x1 x0 y1 y0 q := by
  refine ⟨hq, ?_, h.least⟩
  have h4 := h.sum
  rw [Nat.mul_add, ← Nat.mul_assoc, ← h4]
  generalize q * y1 = a at *
  generalize q * y0 = b at *
  omega
theorem gu_out {x2 x1 x0 y1 y0 q r : Nat} (h : Gu x2 x1 x0 y1 y0 q r) (hx : x2 ≤ y1) (h1 : x1 < 4294967296) (hy0 : y0 < 4294967296) (hr : 4294967296 ≤ r) : Guessed x2 x1 x0 y1 y0 q := by
  have hq : q < 4294967296 := by
    have h4 := h.sum
    have h5 : x2 * 4294967296 ≤ y1 * 4294967296 := Nat.mul_le_mul_right _ hx
    rcases Nat.lt_or_ge q 4294967296 with h6 | h6
    · exact h6
    · have := Nat.mul_le_mul_right y1 h6
      rw [Nat.mul_comm 4294967296] at this
      omega
  refine gu_end h hq ?_
  have h5 : q * y0 ≤ 4294967296 * 4294967296 := Nat.mul_le_mul (by omega) (by omega)
  have h6 : 4294967296 * 4294967296 ≤ r * 4294967296 := Nat.mul_le_mul_right _ hr
  omega
theorem gu_bound {x2 x1 x0 y1 y0 q r : Nat} (h : Gu x2 x1 x0 y1 y0 q r) (hx : x2 ≤ y1) (h1 : x1 < 4294967296) (hy : 2147483648 ≤ y1) : q ≤ 4294967300 := by
  have h4 := h.sum
  have h5 : x2 * 4294967296 ≤ y1 * 4294967296 := Nat.mul_le_mul_right _ hx
  rcases Nat.lt_or_ge 4294967300 q with h6 | h6
  · have := Nat.mul_le_mul_right y1 (show 4294967301 ≤ q by omega)
    omega
  · exact h6

theorem div_guess (x2 x1 x0 y1 y0 : Nat) (w : World) (hx : x2 ≤ y1) (h1 : x1 < 4294967296) (h0 : x0 < 4294967296) (hy : 2147483648 ≤ y1) (hy1 : y1 < 4294967296) (hy0 : y0 < 4294967296) :
    Calls Tryd.prog 64 #[.int .u32 x2, .int .u32 x1, .int .u32 x0, .int .u32 y1, .int .u32 y0] w fun e w' => ∃ q, e = .returned (.int .u64 ((q : Nat) : Int)) ∧ Guessed x2 x1 x0 y1 y0 q ∧ Below w.heap.size w w' := by
  have hor := or_hi x2 x1 (by omega) h1
  obtain ⟨t, ht⟩ : ∃ t, t = x2 * 4294967296 + x1 := ⟨_, rfl⟩
  rw [← ht] at hor
  obtain ⟨q0, hq0⟩ : ∃ q, q = t / y1 := ⟨_, rfl⟩
  obtain ⟨r0, hr0⟩ : ∃ q, q = t % y1 := ⟨_, rfl⟩
  have G0 : Hid (Gu x2 x1 x0 y1 y0 q0 r0) := Lib.hid (by rw [hq0, hr0, ht]; exact gu_start x2 x1 x0 y1 y0 h0 (by omega))
  have hqi : (t : Int) / (y1 : Int) = (q0 : Int) := by rw [hq0, Int.natCast_ediv]
  have hri : (t : Int) % (y1 : Int) = (r0 : Int) := by rw [hr0, Int.natCast_emod]
  have ht64 : t < 18446744073709551616 := by omega
  have hr01 : r0 < y1 := by rw [hr0]; exact Nat.mod_lt _ (by omega)
  have hy10 : ¬ (y1 = 0) := by omega
  have hq0b : q0 ≤ 4294967300 := by have := gu_bound G0.out hx h1 hy; exact this
  clear ht hq0 hr0
  go_enter Tryd.func64, Tryd.ntmps64
  go_wp2_with fail
  go_step3
  go_wp2_with fail
  go_quiet (fail)
  go_wp2_with fail
  go_step3
  go_wp2_with fail
  have hr032 : r0 < 4294967296 := by omega
  have HB0 : Hid (Below w.heap.size w (w.drewN nq)) := Lib.hid (up_drewN (Below.refl _ _) nq)
  clear hqi hor ht64
  go_loopw [12, 13] (fun qv rv wr => ∃ q r : Nat, qv = .int .u64 q ∧ rv = .int .u64 r ∧ Hid (r < 4294967296 ∧ Gu x2 x1 x0 y1 y0 q r) ∧ Below w.heap.size w wr) (fun qv _ _ => (intOf qv).toNat)
  case atStart => exact ⟨q0, r0, rfl, val_int hri, Lib.hid ⟨hr032, G0.out⟩, HB0.out⟩
  case round =>
    clear hr032 hr01 G0 hri
    obtain ⟨q, r, rfl, rfl, G', hB⟩ := hrel
    have hr := G'.out.1
    have G := Lib.hid G'.out.2
    clear G'
    have hqb := gu_bound G.out hx h1 hy
    by_cases hq : 4294967295 < q
    · have NX := Lib.hid (gu_step G.out (.inl hq))
      have hqi : (4294967296 : Int) ≤ (q : Int) := by omega
      clear hq
      by_cases hr2 : 4294967295 < r + y1
      · have NE := Lib.hid (gu_out NX.out.2 hx h1 hy0 hr2)
        have hr2' : (4294967296 : Int) ≤ (r : Int) + (y1 : Int) := by omega
        clear hr2
        go_wp2_with fail
        (try rw [Exit.noGoto_ret])
        go_ret
        have hq1 := NX.out.1
        exact ⟨q - 1, by rw [Int.ofNat_sub hq1]; rfl, NE.out, hB⟩
      · have hq1 : 1 ≤ q := NX.out.1
        obtain ⟨s, hs⟩ : ∃ s, r + y1 = s := ⟨_, rfl⟩
        have hsi : (r : Int) + (y1 : Int) = (s : Int) := by omega
        have hs2 : s < 4294967296 := by omega
        have hsd : decide ((4294967296 : Int) ≤ (s : Int)) = false := decide_eq_false (by omega)
        rw [hs] at NX
        have HS := Lib.hid hs2
        have HQB := Lib.hid hqb
        replace hs2 : s ≤ 4294967295 := by omega
        clear hr2 hs hr h1 h0 hy1 hy0 hq0b hy hx hqb
        go_wp2_with fail
        have hqb := HQB.out
        have ew : IntKind.u64.wrap ((q : Int) - 1) = ((q - 1 : Nat) : Int) := by rw [wu64]; omega
        rw [ew]
        refine ⟨⟨q - 1, s, rfl, rfl, Lib.hid ⟨HS.out, NX.out.2⟩, hB⟩, ?_⟩
        simp [intOf]
        omega
    · have hqn : q < 4294967296 := by omega
      have hqd : decide ((4294967296 : Int) ≤ (q : Int)) = false := decide_eq_false (by omega)
      have hor2 := or_hi r x0 hr h0
      obtain ⟨u, hu⟩ : ∃ u, u = r * 4294967296 + x0 := ⟨_, rfl⟩
      rw [← hu] at hor2
      obtain ⟨p, hp⟩ : ∃ p, p = q * y0 := ⟨_, rfl⟩
      have hpi : (q : Int) * (y0 : Int) = (p : Int) := by rw [hp]; simp
      have hp64 : p < 18446744073709551616 := by
        rw [hp]
        exact Nat.lt_of_le_of_lt (Nat.mul_le_mul (show q ≤ 4294967295 by omega) (show y0 ≤ 4294967295 by omega)) (by omega)
      by_cases hpu : u < p
      · have NX := Lib.hid (gu_step G.out (.inr (by rw [← hu, ← hp]; exact hpu)))
        have hq1 : 1 ≤ q := NX.out.1
        obtain ⟨s, hs⟩ : ∃ s, r + y1 = s := ⟨_, rfl⟩
        have hsi : (r : Int) + (y1 : Int) = (s : Int) := by omega
        rw [hs] at NX
        by_cases hr2 : 4294967295 < s
        · have NE := Lib.hid (gu_out NX.out.2 hx h1 hy0 hr2)
          have hsd : decide ((4294967296 : Int) ≤ (s : Int)) = true := decide_eq_true (by omega)
          clear hr2 hs hu hp hq
          go_wp2_with fail
          (try rw [Exit.noGoto_ret])
          go_ret
          exact ⟨q - 1, by rw [Int.ofNat_sub hq1]; rfl, NE.out, hB⟩
        · have hsd : decide ((4294967296 : Int) ≤ (s : Int)) = false := decide_eq_false (by omega)
          have HS := Lib.hid (show s < 4294967296 by omega)
          clear hr2 hs hu hp hq
          go_wp2_with fail
          refine ⟨⟨q - 1, s, val_int (by omega), rfl, Lib.hid ⟨HS.out, NX.out.2⟩, hB⟩, ?_⟩
          simp [intOf]
          omega
      · have NE := Lib.hid (gu_end G.out hqn (by rw [← hu, ← hp]; omega))
        replace hpu : p ≤ u := by omega
        clear hu hp hq
        go_wp2_with fail
        (try rw [Exit.noGoto_ret])
        go_ret
        exact ⟨q, rfl, NE.out, hB⟩
end Go.Proofs.YtffkedepffjobaaDoor

namespace Go.Proofs.YtffkedepffjobaaDoor
open Go.RowKit
set_option maxRecDepth 100000

/-- One limb taken away: k limbs are done. -/
structure Tk (X Y X' : List Nat) (q i k carry borrow : Nat) : Prop where
  lim : Lim X'
  len : X'.length = X.length
  car : carry < 4294967296
  bor : borrow ≤ 1
  same : ∀ j, (j < i ∨ i + k ≤ j) → lb X' j = lb X j
  val : Go.Proofs.YtffkedepffjobaaDoor.val X' + 2 ^ (32 * i) * (q * Go.Proofs.YtffkedepffjobaaDoor.val (Y.take k)) = Go.Proofs.YtffkedepffjobaaDoor.val X + 2 ^ (32 * (i + k)) * (borrow + carry)
theorem tk_start (X Y : List Nat) (q i : Nat) (hX : Lim X) : Tk X Y X q i 0 0 0 := ⟨hX, rfl, by omega, by omega, fun _ _ => rfl, by simp [Go.Proofs.YtffkedepffjobaaDoor.val]⟩
theorem tk_step {X Y X' : List Nat} {q i k carry borrow d b' p : Nat} (h : Tk X Y X' q i k carry borrow) (hq : q < 4294967296) (hY : Lim Y) (hk : i + k < X.length)
    (hp : p = q * lb Y k + carry) (hd : d < 4294967296) (hb' : b' ≤ 1) (he : d + p % 4294967296 + borrow = lb X' (i + k) + 4294967296 * b') :
    Tk X Y (X'.set (i + k) d) q i (k + 1) (p / 4294967296) b' ∧ p < 18446744073709551616 := by
  have h1 := hY.at k
  change lb Y k < _ at h1
  have hpb : q * lb Y k ≤ 4294967295 * 4294967295 := Nat.mul_le_mul (by omega) (by omega)
  have hc := h.car
  refine ⟨⟨h.lim.set _ _ hd, by rw [List.length_set]; exact h.len, by omega, hb', ?_, ?_⟩, by omega⟩
  · intro j hj
    have := h.same j (by omega)
    unfold lb at this ⊢
    rw [List.getElem?_set_ne (by omega)]
    exact this
  · have hs := val_set X' (i + k) d (by rw [h.len]; omega)
    change _ + _ * lb X' (i + k) = _ at hs
    have hv := h.val
    rw [take_lb Y k, show i + (k + 1) = i + k + 1 by omega, pow32_succ]
    have e1 : 2 ^ (32 * i) * (q * (Go.Proofs.YtffkedepffjobaaDoor.val (Y.take k) + 2 ^ (32 * k) * lb Y k)) = 2 ^ (32 * i) * (q * Go.Proofs.YtffkedepffjobaaDoor.val (Y.take k)) + 2 ^ (32 * (i + k)) * (q * lb Y k) := by
      rw [Nat.mul_add, Nat.mul_add, Nat.mul_add 32 i k, Nat.pow_add]; congr 1; ac_rfl
    rw [e1, Nat.mul_assoc (2 ^ (32 * (i + k))) 4294967296]
    have e2 : q * lb Y k = p - carry := by omega
    rw [e2]
    generalize 2 ^ (32 * (i + k)) = P at *
    generalize lb X' (i + k) = o at *
    generalize 2 ^ (32 * i) * (q * Go.Proofs.YtffkedepffjobaaDoor.val (Y.take k)) = T at *
    have e3 : P * (d + p % 4294967296 + borrow) = P * (o + 4294967296 * b') := by rw [he]
    have e4 : p - carry + carry = p := by omega
    have e5 : P * (p - carry) + P * carry = P * p := by rw [← Nat.mul_add, e4]
    have e6 : P * p = P * (4294967296 * (p / 4294967296)) + P * (p % 4294967296) := by rw [← Nat.mul_add, Nat.div_add_mod]
    rw [Nat.mul_add, Nat.mul_add] at e3
    rw [Nat.mul_add] at hv e3
    rw [Nat.mul_add, Nat.mul_add]
    omega
theorem tk_end {X Y X' : List Nat} {q i carry borrow : Nat} (h : Tk X Y X' q i (Y.length + 1) carry borrow) (hc : carry = 0) :
    Go.Proofs.YtffkedepffjobaaDoor.val X' + 2 ^ (32 * i) * (q * Go.Proofs.YtffkedepffjobaaDoor.val Y) = Go.Proofs.YtffkedepffjobaaDoor.val X + 2 ^ (32 * (i + Y.length + 1)) * borrow := by
  have := h.val
  rw [List.take_of_length_le (by omega), hc, Nat.add_zero] at this
  exact this

theorem grown_cell {w w' : World} {g : Nat} {a : Addr} {u : Value} (h : w.grownBy w' (some g)) (hg : a.block ≠ g) (hc : w.cell? a = some u) : w'.cell? a = some u :=
  (World.cell?_of_block (h.block a.block (World.block_lt_of_cell? w _ hc) (fun e => hg (by injection e)))).trans hc
theorem grown_trans {a w w' : World} {row : Option Nat} (h : a.grownBy w row) (k : w.grownBy w' row) : a.grownBy w' row :=
  ⟨k.os.trans h.os, k.tape.trans h.tape, k.output.trans h.output, Nat.le_trans h.size k.size, fun j hj hne => (k.block j (Nat.lt_of_lt_of_le hj h.size) hne).trans (h.block j hj hne)⟩
theorem grown_set {w w' : World} {g j : Nat} {v : Value} (h : w.grownBy w' (some g)) : w.grownBy (w'.setCell ⟨g, j, none⟩ v) (some g) := grown_trans h (grownBy_setC w' g j v)
theorem grown_refl (w : World) (g : Nat) : w.grownBy w (some g) := ⟨rfl, rfl, rfl, Nat.le_refl _, fun _ _ _ => rfl⟩

/-- What take tells. -/
structure Took (X Y X' : List Nat) (q i b : Nat) : Prop where
  lim : Lim X'
  len : X'.length = X.length
  bor : b ≤ 1
  same : ∀ j, (j < i ∨ i + (Y.length + 1) ≤ j) → lb X' j = lb X j
  val : Go.Proofs.YtffkedepffjobaaDoor.val X' + 2 ^ (32 * i) * (q * Go.Proofs.YtffkedepffjobaaDoor.val Y) = Go.Proofs.YtffkedepffjobaaDoor.val X + 2 ^ (32 * (i + Y.length + 1)) * b

set_option maxHeartbeats 1000000 in
theorem div_take (w : World) (g i N cap c B : Nat) (X Y : List Nat) (vy : Value) (q : Nat) (hX : Own w B 36 .u32 (.slice (some ⟨g, 0, none⟩) N cap) X) (hN : N = X.length) (hi : i + Y.length + 1 ≤ N) (hNb : N ≤ 20000000000) (hlX : Lim X)
    (hY : Rd w .u32 vy Y) (hlY : Lim Y) (hne : ∀ ad k c, vy = .slice (some ad) k c → ad.block ≠ g) (hq : q < 4294967296) :
    Calls Tryd.prog 65 #[.slice (some ⟨g, i, none⟩) (Y.length + 1) c, vy, .int .u64 q] w fun e w' => ∃ X' b, e = .returned (.bool (decide (0 < b))) ∧ Own w' B 36 .u32 (.slice (some ⟨g, 0, none⟩) N cap) X' ∧ Took X Y X' q i b ∧ w.grownBy w' (some g) := by
  have HY := Lib.hid hY
  have HL := Lib.hid (And.intro hlX hlY)
  have HNE := Lib.hid hne
  have HN := Lib.hid hN
  obtain ⟨A, cy, rfl, _, _, hr⟩ := hY
  have HR := Lib.hid hr
  clear hr hlX hlY hne hN
  go_enter Tryd.func65, Tryd.ntmps65
  go_wp2_with fail
  go_loopw [7, 8, 14] (fun cv bv iv wr => ∃ (k carry bor : Nat) (X' : List Nat), k ≤ Y.length + 1 ∧ iv = .int .i64 k ∧ cv = .int .u64 carry ∧ bv = .int .u32 bor ∧ Own wr B 36 .u32 (.slice (some ⟨g, 0, none⟩) N cap) X' ∧ Hid (Tk X Y X' q i k carry bor ∧ (k = Y.length + 1 → carry = 0)) ∧ w.grownBy wr (some g)) (fun _ _ iv _ => (Y.length + 1) - (intOf iv).toNat)
  case atStart => exact ⟨0, 0, 0, X, by omega, rfl, rfl, rfl, hX, Lib.hid ⟨tk_start X Y q i HL.out.1, fun h => by omega⟩, grown_refl w g⟩
  case round =>
    obtain ⟨k, carry, bor, X', hk, rfl, rfl, rfl, ho, H, hG⟩ := hrel
    have hXl : N = X'.length := by rw [H.out.1.len]; exact HN.out
    have hcar := H.out.1.car
    have hbor := H.out.1.bor
    by_cases hlt : k < Y.length + 1
    · obtain ⟨x, hx⟩ : ∃ x, x = lb X' (i + k) := ⟨_, rfl⟩
      have hx32 : x < 4294967296 := by rw [hx]; exact H.out.1.lim.at _
      have hxc : wr.cell? ⟨g, i + k, none⟩ = some (.int .u32 (x : Nat)) := by rw [hx]; exact ho.cell hXl (i + k) (by omega)
      have hxf := ho.froz hXl (i + k)
      by_cases hky : k < Y.length
      · obtain ⟨ad, rfl, hs⟩ := HR.out (by omega)
        obtain ⟨y, hye⟩ : ∃ y, y = lb Y k := ⟨_, rfl⟩
        have hy32 : y < 4294967296 := by rw [hye]; exact HL.out.2.at k
        have hyc : wr.cell? (ad.add k) = some (.int .u32 (y : Nat)) := by
          rw [hye]
          refine grown_cell hG ?_ (hs k hky)
          have := HNE.out ad _ _ rfl
          unfold Addr.add
          split <;> exact this
        obtain ⟨m, hm⟩ : ∃ m, m = q * y := ⟨_, rfl⟩
        have hmi : (q : Int) * (y : Int) = (m : Int) := by rw [hm]; simp
        have hmb : m ≤ 4294967295 * 4294967295 := by rw [hm]; exact Nat.mul_le_mul (by omega) (by omega)
        obtain ⟨p, hp⟩ : ∃ p, p = m + carry := ⟨_, rfl⟩
        have hpi : (m : Int) + (carry : Int) = (p : Int) := by omega
        have hp64 : p < 18446744073709551616 := by omega
        obtain ⟨lo, hlo⟩ : ∃ lo, lo = p % 4294967296 := ⟨_, rfl⟩
        have hloi : (p : Int) % 4294967296 = (lo : Int) := by omega
        have hlo32 : lo < 4294967296 := by omega
        obtain ⟨hi', hhi⟩ : ∃ h, h = p / 4294967296 := ⟨_, rfl⟩
        have hhii : (p : Int) / 4294967296 = (hi' : Int) := by omega
        obtain ⟨d, hd⟩ : ∃ d, d = (4294967296 + x - lo - bor) % 4294967296 := ⟨_, rfl⟩
        obtain ⟨b', hb'⟩ : ∃ b', b' = (if x < lo + bor then 1 else 0) := ⟨_, rfl⟩
        have hb1 : b' ≤ 1 := by rw [hb']; split <;> omega
        have heq : d + lo + bor = x + 4294967296 * b' := by
          rw [hb', hd]
          split <;> omega
        have hsub := fun W => bits_Sub32 x lo bor W hx32 hlo32 hbor
        rw [← hd, ← hb'] at hsub
        have HS := Lib.hid hsub
        have NX := Lib.hid (tk_step (d := d) (b' := b') (p := p) H.out.1 hq HL.out.2 (by rw [← HN.out]; omega) (by rw [← hye, ← hm]; exact hp) (by rw [hd]; exact Nat.mod_lt _ (by omega)) hb1 (by rw [← hlo, ← hx]; exact heq)).1
        rw [← hhi] at NX
        have HO := Lib.hid (ho.set hXl (i + k) d)
        clear hx hye hm hp hlo hhi hd hb' heq hsub ho hXl hs hmb
        go_wp2_with (go_at_call 72; refine (HS.out _).mono ?_; rintro e w1 ⟨rfl, rfl⟩)
        go_roundw
        case rel => exact ⟨k + 1, hi', b', _, by omega, by go_num, rfl, rfl, HO.out, Lib.hid ⟨NX.out, fun h => by omega⟩, grown_set hG⟩
        case measure => simp [intOf]; omega
      · have hkn : k = Y.length := by omega
        obtain ⟨d, hd⟩ : ∃ d, d = (4294967296 + x - carry - bor) % 4294967296 := ⟨_, rfl⟩
        obtain ⟨b', hb'⟩ : ∃ b', b' = (if x < carry + bor then 1 else 0) := ⟨_, rfl⟩
        have hb1 : b' ≤ 1 := by rw [hb']; split <;> omega
        have heq : d + carry + bor = x + 4294967296 * b' := by
          rw [hb', hd]
          split <;> omega
        have hsub := fun W => bits_Sub32 x carry bor W hx32 hcar hbor
        rw [← hd, ← hb'] at hsub
        have HS := Lib.hid hsub
        have hy0 : lb Y k = 0 := by unfold lb; rw [List.getElem?_eq_none (by omega)]; rfl
        have NX := Lib.hid (tk_step (d := d) (b' := b') (p := carry) H.out.1 hq HL.out.2 (by rw [← HN.out]; omega) (by rw [hy0]; omega) (by rw [hd]; exact Nat.mod_lt _ (by omega)) hb1 (by rw [← hx, Nat.mod_eq_of_lt hcar]; exact heq)).1
        rw [Nat.div_eq_of_lt hcar] at NX
        have HO := Lib.hid (ho.set hXl (i + k) d)
        have hcm : (carry : Int) % 4294967296 = (carry : Int) := by omega
        have hcd : (carry : Int) / 4294967296 = 0 := by omega
        clear hx hd hb' heq hsub ho hXl hy0 hky
        subst hkn
        go_wp2_with (go_at_call 72; refine (HS.out _).mono ?_; rintro e w1 ⟨rfl, rfl⟩)
        go_roundw
        case rel => exact ⟨Y.length + 1, 0, b', _, by omega, by go_num, rfl, rfl, HO.out, Lib.hid ⟨NX.out, fun h => rfl⟩, grown_set hG⟩
        case measure => simp [intOf]
    · obtain rfl : k = Y.length + 1 := by omega
      have HE := Lib.hid (tk_end H.out.1 (H.out.2 rfl))
      clear hXl
      go_wp2
      go_ret
      refine ⟨X', bor, ?_, ho, ⟨H.out.1.lim, H.out.1.len, hbor, fun j hj => H.out.1.same j hj, HE.out⟩, hG⟩
      simp
end Go.Proofs.YtffkedepffjobaaDoor

namespace Go.Proofs.YtffkedepffjobaaDoor
open Go.RowKit
set_option maxRecDepth 100000

/-- One limb given back: k limbs are done. -/
structure Bk (X Y X' : List Nat) (i k carry : Nat) : Prop where
  lim : Lim X'
  len : X'.length = X.length
  car : carry ≤ 1
  same : ∀ j, (j < i ∨ i + k ≤ j) → lb X' j = lb X j
  val : Go.Proofs.YtffkedepffjobaaDoor.val X' + 2 ^ (32 * (i + k)) * carry = Go.Proofs.YtffkedepffjobaaDoor.val X + 2 ^ (32 * i) * Go.Proofs.YtffkedepffjobaaDoor.val (Y.take k)
theorem bk_start (X Y : List Nat) (i : Nat) (hX : Lim X) : Bk X Y X i 0 0 := ⟨hX, rfl, by omega, fun _ _ => rfl, by simp [Go.Proofs.YtffkedepffjobaaDoor.val]⟩
theorem bk_step {X Y X' : List Nat} {i k carry s : Nat} (h : Bk X Y X' i k carry) (hY : Lim Y) (hk : i + k < X.length) (hs : s = lb X' (i + k) + lb Y k + carry) :
    Bk X Y (X'.set (i + k) (s % 4294967296)) i (k + 1) (s / 4294967296) := by
  have h1 := hY.at k
  change lb Y k < _ at h1
  have h2 := h.lim.at (i + k)
  change lb X' (i + k) < _ at h2
  have hc := h.car
  refine ⟨h.lim.set _ _ (Nat.mod_lt _ (by omega)), by rw [List.length_set]; exact h.len, by omega, ?_, ?_⟩
  · intro j hj
    have := h.same j (by omega)
    unfold lb at this ⊢
    rw [List.getElem?_set_ne (by omega)]
    exact this
  · have hv := val_set X' (i + k) (s % 4294967296) (by rw [h.len]; omega)
    change _ + _ * lb X' (i + k) = _ at hv
    have hw := h.val
    have e0 : 2 ^ (32 * i) * (Go.Proofs.YtffkedepffjobaaDoor.val (Y.take k) + 2 ^ (32 * k) * lb Y k) = 2 ^ (32 * i) * Go.Proofs.YtffkedepffjobaaDoor.val (Y.take k) + 2 ^ (32 * (i + k)) * lb Y k := by
      rw [Nat.mul_add, Nat.mul_add 32 i k, Nat.pow_add]; congr 1; ac_rfl
    rw [take_lb Y k, show i + (k + 1) = i + k + 1 by omega, pow32_succ, e0, Nat.mul_assoc (2 ^ (32 * (i + k)))]
    generalize 2 ^ (32 * (i + k)) = P at *
    generalize 2 ^ (32 * i) * Go.Proofs.YtffkedepffjobaaDoor.val (Y.take k) = T at *
    generalize lb X' (i + k) = x at *
    generalize lb Y k = y at *
    have e1 : P * (s % 4294967296) + P * (4294967296 * (s / 4294967296)) = P * x + P * y + P * carry := by
      rw [← Nat.mul_add, Nat.mod_add_div, hs, Nat.mul_add, Nat.mul_add]
    omega
/-- What back tells. -/
structure Gave (X Y X' : List Nat) (i b : Nat) : Prop where
  lim : Lim X'
  len : X'.length = X.length
  bor : b ≤ 1
  same : ∀ j, (j < i ∨ i + (Y.length + 1) ≤ j) → lb X' j = lb X j
  val : Go.Proofs.YtffkedepffjobaaDoor.val X' + 2 ^ (32 * (i + Y.length + 1)) * b = Go.Proofs.YtffkedepffjobaaDoor.val X + 2 ^ (32 * i) * Go.Proofs.YtffkedepffjobaaDoor.val Y
theorem bk_end {X Y X' : List Nat} {i carry : Nat} (h : Bk X Y X' i Y.length carry) (hY : Lim Y) (hk : i + Y.length < X.length) :
    Gave X Y (X'.set (i + Y.length) ((lb X' (i + Y.length) + carry) % 4294967296)) i ((lb X' (i + Y.length) + carry) / 4294967296) := by
  have e : lb Y Y.length = 0 := by unfold lb; rw [List.getElem?_eq_none (Nat.le_refl _)]; rfl
  have := bk_step (s := lb X' (i + Y.length) + carry) h hY hk (by rw [e]; omega)
  refine ⟨this.lim, this.len, this.car, this.same, ?_⟩
  have hv := this.val
  rw [List.take_of_length_le (by omega)] at hv
  exact hv

set_option maxHeartbeats 1000000 in
theorem div_back (w : World) (g i N cap c B : Nat) (X Y : List Nat) (vy : Value) (hX : Own w B 36 .u32 (.slice (some ⟨g, 0, none⟩) N cap) X) (hN : N = X.length) (hi : i + Y.length + 1 ≤ N) (hNb : N ≤ 20000000000) (hlX : Lim X)
    (hY : Rd w .u32 vy Y) (hlY : Lim Y) (hne : ∀ ad k c, vy = .slice (some ad) k c → ad.block ≠ g) :
    Calls Tryd.prog 66 #[.slice (some ⟨g, i, none⟩) (Y.length + 1) c, vy] w fun e w' => (∃ v, e = .returned v) ∧ ∃ X' b, Own w' B 36 .u32 (.slice (some ⟨g, 0, none⟩) N cap) X' ∧ Gave X Y X' i b ∧ w.grownBy w' (some g) := by
  have HL := Lib.hid (And.intro hlX hlY)
  have HNE := Lib.hid hne
  have HN := Lib.hid hN
  obtain ⟨A, cy, rfl, _, _, hr⟩ := hY
  have HR := Lib.hid hr
  clear hr hlX hlY hne hN
  go_enter Tryd.func66, Tryd.ntmps66
  go_wp2_with fail
  go_loopw [4, 8] (fun cv iv wr => ∃ (k carry : Nat) (X' : List Nat), k ≤ Y.length ∧ iv = .int .i64 k ∧ cv = .int .u32 carry ∧ Own wr B 36 .u32 (.slice (some ⟨g, 0, none⟩) N cap) X' ∧ Hid (Bk X Y X' i k carry) ∧ w.grownBy wr (some g)) (fun _ iv _ => Y.length - (intOf iv).toNat)
  case atStart => exact ⟨0, 0, X, by omega, rfl, rfl, hX, Lib.hid (bk_start X Y i HL.out.1), grown_refl w g⟩
  case round =>
    obtain ⟨k, carry, X', hk, rfl, rfl, ho, H, hG⟩ := hrel
    have hXl : N = X'.length := by rw [H.out.len]; exact HN.out
    have hcar := H.out.car
    obtain ⟨x, hx⟩ : ∃ x, x = lb X' (i + k) := ⟨_, rfl⟩
    have hx32 : x < 4294967296 := by rw [hx]; exact H.out.lim.at _
    have hxc : wr.cell? ⟨g, i + k, none⟩ = some (.int .u32 (x : Nat)) := by rw [hx]; exact ho.cell hXl (i + k) (by omega)
    have hxf := ho.froz hXl (i + k)
    by_cases hlt : k < Y.length
    · obtain ⟨ad, rfl, hs⟩ := HR.out (by omega)
      obtain ⟨y, hye⟩ : ∃ y, y = lb Y k := ⟨_, rfl⟩
      have hy32 : y < 4294967296 := by rw [hye]; exact HL.out.2.at k
      have hadb : (ad.add k).block ≠ g := by
        have := HNE.out ad _ _ rfl
        unfold Addr.add
        split <;> exact this
      have hyc : wr.cell? (ad.add k) = some (.int .u32 (y : Nat)) := by
        rw [hye]
        exact grown_cell hG hadb (hs k hlt)
      have hfar : Hid (∀ (W : World) v, (W.setCell ⟨g, i + k, none⟩ v).cell? (ad.add k) = W.cell? (ad.add k)) := Lib.hid fun W v => World.cell?_setCell_far W _ _ v (fun e => hadb e.symm)
      obtain ⟨s, hse⟩ : ∃ s, s = x + y + carry := ⟨_, rfl⟩
      have NX := Lib.hid (bk_step (s := s) H.out HL.out.2 (by rw [← HN.out]; omega) (by rw [← hx, ← hye]; exact hse))
      obtain ⟨d, hd⟩ : ∃ d, d = s % 4294967296 := ⟨_, rfl⟩
      obtain ⟨c', hc'⟩ : ∃ d, d = s / 4294967296 := ⟨_, rfl⟩
      have hadd := fun W => bits_Add32 x y carry W hx32 hy32 (by omega)
      rw [← hse, ← hd, ← hc'] at hadd
      rw [← hd, ← hc'] at NX
      have HS := Lib.hid hadd
      have HO := fun W (h : Own W B 36 .u32 (.slice (some ⟨g, 0, none⟩) N cap) X') => Lib.hid (h.set hXl (i + k) d)
      have HO1 := Lib.hid ho
      have hkl : (k : Int) < (Y.length : Int) + 1 := by omega
      clear hx hye hse hd hc' hadd ho hXl hs
      go_wp2_with fail
      refine wp_region_noPanic ?_
      refine wp_region_held_drew (S := fun W => W.cell? (ad.add k) = some (.int .u32 (y : Nat))) (by kernel_rfl) hyc (fun hHeld => ?_)
      refine wpAnyH_take (i := 0) (v := (.slice (some ⟨g, i, none⟩) (Y.length + 1) c)) rfl (by kernel_rfl) (by kernel_rfl) (by kernel_rfl) (fun _ _ _ h => h) (Or.inl ⟨by rfl, ?_⟩) (by assumption) ?_
      · intro w hSw
        (try dsimp only at hSw)
        go_simp
        (try with_reducible rfl)
      (try simp only [Act.put, List.setIfInBounds_toArray, List.set_cons_zero, List.set_cons_succ])
      refine wpAnyH_take (i := 1) (v := (.int .i64 k)) rfl (by kernel_rfl) (by kernel_rfl) (by kernel_rfl) (fun _ _ _ h => h) (Or.inl ⟨by rfl, ?_⟩) (by assumption) ?_
      · intro w hSw
        (try dsimp only at hSw)
        go_simp
        (try with_reducible rfl)
      (try simp only [Act.put, List.setIfInBounds_toArray, List.set_cons_zero, List.set_cons_succ])
      refine wpAnyH_take (i := 2) (v := (.slice (some ⟨g, i, none⟩) (Y.length + 1) c)) rfl (by kernel_rfl) (by kernel_rfl) (by kernel_rfl) (fun _ _ _ h => h) (Or.inl ⟨by rfl, ?_⟩) (by assumption) ?_
      · intro w hSw
        (try dsimp only at hSw)
        go_simp
        (try with_reducible rfl)
      (try simp only [Act.put, List.setIfInBounds_toArray, List.set_cons_zero, List.set_cons_succ])
      refine wpAnyH_take (i := 3) (v := (.int .i64 k)) rfl (by kernel_rfl) (by kernel_rfl) (by kernel_rfl) (fun _ _ _ h => h) (Or.inl ⟨by rfl, ?_⟩) (by assumption) ?_
      · intro w hSw
        (try dsimp only at hSw)
        go_simp
        (try with_reducible rfl)
      (try simp only [Act.put, List.setIfInBounds_toArray, List.set_cons_zero, List.set_cons_succ])
      refine wpAnyH_take (i := 4) (v := (.pointer (some ⟨g, i + k, none⟩))) rfl (by kernel_rfl) (by kernel_rfl) (by kernel_rfl) (fun _ _ _ h => h) (Or.inl ⟨by rfl, ?_⟩) (by assumption) ?_
      · intro w hSw
        (try dsimp only at hSw)
        go_simp
        (try with_reducible rfl)
      (try simp only [Act.put, List.setIfInBounds_toArray, List.set_cons_zero, List.set_cons_succ])
      refine wpAnyH_take (i := 6) (v := (.slice (some ad) Y.length cy)) rfl (by kernel_rfl) (by kernel_rfl) (by kernel_rfl) (fun _ _ _ h => h) (Or.inl ⟨by rfl, ?_⟩) (by assumption) ?_
      · intro w hSw
        (try dsimp only at hSw)
        go_simp
        (try with_reducible rfl)
      (try simp only [Act.put, List.setIfInBounds_toArray, List.set_cons_zero, List.set_cons_succ])
      refine wpAnyH_take (i := 7) (v := (.int .i64 k)) rfl (by kernel_rfl) (by kernel_rfl) (by kernel_rfl) (fun _ _ _ h => h) (Or.inl ⟨by rfl, ?_⟩) (by assumption) ?_
      · intro w hSw
        (try dsimp only at hSw)
        go_simp
        (try with_reducible rfl)
      (try simp only [Act.put, List.setIfInBounds_toArray, List.set_cons_zero, List.set_cons_succ])
      refine wpAnyH_take (i := 8) (v := (.pointer (some (ad.add k)))) rfl (by kernel_rfl) (by kernel_rfl) (by kernel_rfl) (fun _ _ _ h => h) (Or.inl ⟨by rfl, ?_⟩) (by assumption) ?_
      · intro w hSw
        (try dsimp only at hSw)
        go_simp
        (try with_reducible rfl)
      (try simp only [Act.put, List.setIfInBounds_toArray, List.set_cons_zero, List.set_cons_succ])
      refine wpAnyH_take (i := 9) (v := (.int .u32 (y : Nat))) rfl (by kernel_rfl) (by kernel_rfl) (by kernel_rfl) (fun _ _ _ h => h) (Or.inl ⟨by rfl, ?_⟩) (by assumption) ?_
      · intro w hSw
        (try dsimp only at hSw)
        go_simp
        (try with_reducible rfl)
      (try simp only [Act.put, List.setIfInBounds_toArray, List.set_cons_zero, List.set_cons_succ])
      refine wpAnyH_take (i := 10) (v := (.int .u32 carry)) rfl (by kernel_rfl) (by kernel_rfl) (by kernel_rfl) (fun _ _ _ h => h) (Or.inl ⟨by rfl, ?_⟩) (by assumption) ?_
      · intro w hSw
        (try dsimp only at hSw)
        go_simp
        (try with_reducible rfl)
      (try simp only [Act.put, List.setIfInBounds_toArray, List.set_cons_zero, List.set_cons_succ])
      refine wpAnyH_ready (rs := [5]) (by kernel_rfl) (by simp) ?_
      refine AllReadyH.cons rfl (fun K hK => ?_) AllReadyH.nil
      go_simp
      refine hK.out _ _ (by first | exact hyc | exact hHeld) (fun hHeld => ?_)
      clear hK K
      (try simp only [Act.put, List.setIfInBounds_toArray, List.set_cons_zero, List.set_cons_succ])
      refine wpAnyH_ready (rs := [11]) (by kernel_rfl) (by simp) ?_
      refine AllReadyH.cons rfl (fun K hK => ?_) AllReadyH.nil
      go_simp
      go_at_call 70
      refine (HS.out _).mono ?_
      rintro e w1 ⟨rfl, rfl⟩
      refine hK.out _ _ (by first | exact hyc | exact hHeld) (fun hHeld => ?_)
      clear hK K
      (try simp only [Act.put, List.setIfInBounds_toArray, List.set_cons_zero, List.set_cons_succ])
      refine wpAnyH_take (i := 12) (v := (.tuple #[.int .u32 (d : Nat), .int .u32 (c' : Nat)])) rfl (by kernel_rfl) (by kernel_rfl) (by kernel_rfl) (fun _ _ _ h => h) (Or.inl ⟨by rfl, ?_⟩) (by assumption) ?_
      · intro w hSw
        (try dsimp only at hSw)
        go_simp
        (try with_reducible rfl)
      (try simp only [Act.put, List.setIfInBounds_toArray, List.set_cons_zero, List.set_cons_succ])
      refine wpAnyH_take (i := 13) (v := (.int .u32 (d : Nat))) rfl (by kernel_rfl) (by kernel_rfl) (by kernel_rfl) (fun _ _ _ h => h) (Or.inl ⟨by rfl, ?_⟩) (by assumption) ?_
      · intro w hSw
        (try dsimp only at hSw)
        go_simp
        (try with_reducible rfl)
      (try simp only [Act.put, List.setIfInBounds_toArray, List.set_cons_zero, List.set_cons_succ])
      refine wpAnyH_take (i := 14) (v := (.int .u32 (c' : Nat))) rfl (by kernel_rfl) (by kernel_rfl) (by kernel_rfl) (fun _ _ _ h => h) (Or.inl ⟨by rfl, ?_⟩) (by assumption) ?_
      · intro w hSw
        (try dsimp only at hSw)
        go_simp
        (try with_reducible rfl)
      (try simp only [Act.put, List.setIfInBounds_toArray, List.set_cons_zero, List.set_cons_succ])
      refine wpAnyH_take (i := 15) (v := (.pointer (some ⟨g, i + k, none⟩))) rfl (by kernel_rfl) (by kernel_rfl) (by kernel_rfl) (fun _ _ _ h => h) (Or.inl ⟨by rfl, ?_⟩) (by assumption) ?_
      · intro w hSw
        (try dsimp only at hSw)
        go_simp
        (try with_reducible rfl)
      (try simp only [Act.put, List.setIfInBounds_toArray, List.set_cons_zero, List.set_cons_succ])
      refine wpAnyH_ready (rs := [16]) (by kernel_rfl) (by simp) ?_
      refine AllReadyH.cons rfl (fun K hK => ?_) AllReadyH.nil
      go_simp
      refine hK.out _ _ ((hfar.out _ _).trans hyc) (fun hHeld => ?_)
      clear hK K
      (try simp only [Act.put, List.setIfInBounds_toArray, List.set_cons_zero, List.set_cons_succ])
      refine wpAnyH_take (i := 17) (v := (.int .u32 (c' : Nat))) rfl (by kernel_rfl) (by kernel_rfl) (by kernel_rfl) (fun _ _ _ h => h) (Or.inl ⟨by rfl, ?_⟩) (by assumption) ?_
      · intro w hSw
        (try dsimp only at hSw)
        go_simp
        (try with_reducible rfl)
      (try simp only [Act.put, List.setIfInBounds_toArray, List.set_cons_zero, List.set_cons_succ])
      refine wpAnyH_done (by kernel_rfl) ?_ _
      refine NoPanic.normal ?_
      go_wp2
      go_roundw
      case rel => exact ⟨k + 1, c', _, by omega, by go_num, rfl, (HO _ HO1.out.dr).out, NX, grown_set (grown_trans hG (show wr.grownBy wr.drew (some g) from ⟨rfl, rfl, rfl, Nat.le_refl _, fun _ _ _ => rfl⟩))⟩
      case measure => simp [intOf]; omega
    · have hkn : k = Y.length := by omega
      subst hkn
      have hE := Lib.hid (bk_end H.out HL.out.2 (by rw [← HN.out]; omega))
      rw [← hx] at hE
      obtain ⟨d, hd⟩ : ∃ d, d = (x + carry) % 4294967296 := ⟨_, rfl⟩
      rw [← hd] at hE
      have hdi : ((x : Int) + (carry : Int)) % 4294967296 = (d : Int) := by omega
      have HO := Lib.hid (ho.set hXl (i + Y.length) d)
      clear hx hd hXl hlt ho
      go_wp2_with fail
      go_end0
      exact ⟨⟨_, rfl⟩, _, _, HO.out, hE.out, grown_set hG⟩
end Go.Proofs.YtffkedepffjobaaDoor

