/- The contract of root.Power. By an AI agent. -/
import Derived.Test.YtffkedepffjobaaDoorM8
set_option linter.unusedVariables false
set_option linter.unusedSimpArgs false
namespace Go.Proofs.YtffkedepffjobaaDoor
open Go.RowKit
set_option maxRecDepth 100000

/-! ### A loop over an iterator that keeps a row of its own -/

/-- No limb lies in the block. -/
def Off (w : World) (r : Nat) : Prop := ∀ (ad : Addr) (x : Int), ad.block = r → w.cell? ad ≠ some (.int .u32 x)
theorem off_other {w : World} {r : Nat} {o : Obj} (h : w.heap[r]? = some o) (hc : o.isCells = false) : Off w r := by
  rintro ad x rfl e
  unfold World.cell? at e
  rw [h] at e
  cases o <;> simp at e
  simp [Obj.isCells] at hc
theorem off_cells {w : World} {r : Nat} {c : Array Value} {t : TypeId} {f : Nat × Nat} (h : w.heap[r]? = some (.cells c t f)) (hc : ∀ (i : Nat) (v : Value), c[i]? = some v → ∀ x, v ≠ .int .u32 x) : Off w r := by
  rintro ad x rfl e
  unfold World.cell? at e
  rw [h] at e
  simp only at e
  split at e
  · cases e
  · exact hc _ _ e x rfl
theorem Rd.grown {w w' : World} {row : Option Nat} {v : Value} {l : List Nat} (h : Rd w .u32 v l) (hg : w.grownBy w' row) (hr : ∀ r, row = some r → Off w r) : Rd w' .u32 v l := by
  obtain ⟨A, c, e, hc, hz, hrd⟩ := h
  refine ⟨A, c, e, hc, hz, fun h0 => ?_⟩
  obtain ⟨ad, e, hs⟩ := hrd h0
  refine ⟨ad, e, fun j hj => ?_⟩
  have hx := hs j hj
  refine (World.cell?_of_block (hg.block _ (World.block_lt_of_cell? w _ hx) (fun e => ?_))).trans hx
  exact hr _ e.symm (ad.add j) _ rfl hx
theorem IsN.grown {w w' : World} {row : Option Nat} {v : Value} {n : Nat} (h : IsN w v n) (hg : w.grownBy w' row) (hr : ∀ r, row = some r → Off w r) : IsN w' v n := by
  obtain ⟨l, h, k⟩ := h
  exact ⟨l, h.grown hg hr, k⟩

/-- What is known abides a turn of a block from n₀ on that holds no limb. -/
def Abid {β : Type} (n₀ : Nat) (I : β → World → Prop) : Prop := ∀ s W W' row, I s W → W.grownBy W' row → (∀ r, row = some r → n₀ ≤ r ∧ Off W r) → I s W'
theorem Abid.mono {β : Type} {n m : Nat} {I : β → World → Prop} (h : Abid n I) (hm : n ≤ m) : Abid m I := fun s W W' row hi hg hr => h s W W' row hi hg (fun r e => ⟨Nat.le_trans hm (hr r e).1, (hr r e).2⟩)
theorem Abid.put {β : Type} {n₀ : Nat} {I : β → World → Prop} (h : Abid n₀ I) {s : β} {W : World} {l : Nat} {o : Obj} (o' : Obj) (hs : I s W) (hB : n₀ ≤ l) (hl : W.heap[l]? = some o) (ho : o.isCells = false) : I s (W.putObj l o') :=
  h s W _ (some l) hs (grownBy_putObj' W l o') (fun r e => by cases e; exact ⟨hB, off_other hl ho⟩)
theorem Abid.new {β : Type} {n₀ : Nat} {I : β → World → Prop} (h : Abid n₀ I) {s : β} {W : World} (o : Obj) (hs : I s W) : I s (W.alloc o) :=
  h s W _ none hs (World.grownBy_alloc W o none) (fun r e => by cases e)

/-- What an iterator tells that reads a box p and keeps a row in the first block that is free when it is called. -/
def SeqOff {α : Type} (n gf : Nat) (lb : Array Value) (encs : α → Array Value) (p : Nat) (S : List α → Prop) (w0 : World) : Prop :=
  ∀ (l : Nat) (J : List α → World → Prop) (W : World), Below w0.heap.size w0 W → Abid W.heap.size J →
    (∀ pre x W1, J pre W1 → W.heap.size < W1.heap.size → YieldAt Fence.wide (n - 1) Tryd.prog l (encs x) W1 fun e W' => e = .returned (.bool true) ∧ J (pre ++ [x]) W' ∧ W'.heap[p]? = W1.heap[p]? ∧ W'.heap[W.heap.size]? = W1.heap[W.heap.size]? ∧ W1.heap.size ≤ W'.heap.size) →
    J [] W →
    CallsIn Fence.wide n Tryd.prog gf (#[.func (.yield l) #[] #[]] ++ lb) W fun e W' => (∃ v, e = .returned v) ∧ ∃ xs, S xs ∧ J xs W'

/-- How a round ends: whatever lay from n₀ on lies as it lay, and the box p. -/
def OffPost {α : Type} (n₀ p : Nat) (I : List α → World → Prop) (xs : List α) (W : World) : Exit → Act → World → Prop
  | .normal, _, W' => W.heap.size ≤ W'.heap.size ∧ (∀ r, (r = p ∨ n₀ ≤ r) → r < W.heap.size → W'.heap[r]? = W.heap[r]?) ∧ I xs W'
  | _, _, _ => False

theorem range_off {α : Type} {n : Nat} {g : Operand} {ps : Array Tmp} {assign body : Code} {Q : Exit → Act → World → Prop} {a : Act} {w : World} (h1 : 1 ≤ n) {gf : Nat} {lb : Array Value} (hg : a.eval g = .func (.func gf) #[] lb)
    (eg : ∀ args w, (callFunc gf args).run Tryd.prog w = .ok (.enter gf args) w) {encs : α → Array Value} {p : Nat} {S : List α → Prop} (hseq : SeqOff (n - 1) gf lb encs p S w) (hp : p < w.heap.size) (hps : ∀ x, (encs x).size = ps.size)
    (I : List α → World → Prop) (hI : Abid w.heap.size I) (h0 : I [] w) (a₁ : α → Act)
    (hassign : ∀ (l : Nat) (x : α) (W : World) (K : Act → World → Prop), K (a₁ x) W →
      assign.wpIn (Fence.wide.inRound l) (n - 1 - 1) Tryd.prog (Exit.then K (fun _ _ _ => False)) { tmps := (ps.zip (encs x)).foldl (fun t (p, v) => t.setIfInBounds p v) a.tmps, defers := [] } W)
    (hbody : ∀ (l : Nat) (pre : List α) (x : α) (W : World), I pre W → w.heap.size < W.heap.size → body.wpIn (Fence.wide.inRound l) (n - 1 - 1) Tryd.prog (OffPost w.heap.size p I (pre ++ [x]) W) (a₁ x) W)
    (hdone : ∀ (D : Nat) (xs : List α) (W : World), w.heap.size ≤ D → S xs → I xs W → W.heap[D]? = some (.deferred (some [])) → Q .normal { a with defers := { target := .collected D, args := #[] } :: a.defers } W) :
    (Code.rangeFunc g ps assign body).wpIn Fence.wide n Tryd.prog Q a w := by
  refine wpIn_rangeFunc fun fn hfn => ?_
  -- the loop's record, in its states
  let R : LoopState → Loop := fun st => { state := st, pending := none, fn := fn, tmps := a.tmps, params := ps, assign := assign, body := body, defers := w.heap.size }
  let D := w.heap.size
  let L := w.heap.size + 1
  let W1 := (w.alloc (.deferred (some []))).alloc (.loop (R .ready))
  have s0 : (w.alloc (.deferred (some []))).heap.size = w.heap.size + 1 := by simp
  have sW : W1.heap.size = w.heap.size + 2 := by simp [W1]
  have hL : W1.heap[L]? = some (.loop (R .ready)) := by
    have := World.alloc_heap_new (w.alloc (.deferred (some []))) (.loop (R .ready))
    rwa [s0] at this
  have hD : W1.heap[D]? = some (.deferred (some [])) := (Below.heap_alloc _ _ _ (by rw [s0]; omega)).trans (World.alloc_heap_new w _)
  have hb : Below w.heap.size w W1 := up_alloc (up_alloc (Below.refl _ _) _) _
  have hI0 : I [] W1 := hI.new _ (hI.new _ h0)
  refine ⟨L, [{ target := .collected D, args := #[] }], W1, { target := .fn (.func gf) lb, args := #[.func (.yield L) #[] #[]] }, W1, gf, #[.func (.yield L) #[] #[]] ++ lb, W1, ?_, ?_, ?_, ?_, fun _ => h1, ?_⟩
  · exact run_enterLoop_outer _ _ _ _ _
  · simp only [resolve, hg]
    simp [go_sem]
  · intro f' hf'
    exact trivial
  · simp [invoke, go_sem, eg]
  · -- the iterator, with the record and the block of deferred calls as they are between rounds
    refine (hseq L (fun xs W => I xs W ∧ W.heap[L]? = some (.loop (R .ready)) ∧ W.heap[D]? = some (.deferred (some []))) W1 hb ?_ ?_ ⟨hI0, hL, hD⟩).mono ?_
    · rintro s A B row ⟨i1, i2, i3⟩ hgr hr
      have hne : ∀ k, k < W1.heap.size → some k ≠ row := fun k hk e => by have := (hr k e.symm).1; omega
      refine ⟨hI s A B row i1 hgr (fun r e => ⟨by have := (hr r e).1; omega, (hr r e).2⟩), ?_, ?_⟩
      · exact (hgr.block L (Array.getElem?_eq_some_iff.1 i2).1 (hne L (by rw [sW]; omega))).trans i2
      · exact (hgr.block D (Array.getElem?_eq_some_iff.1 i3).1 (hne D (by rw [sW]; omega))).trans i3
    · rintro pre x W ⟨i1, i2, i3⟩ hgt
      have hLlt : L < W.heap.size := (Array.getElem?_eq_some_iff.1 i2).1
      refine ⟨fn, _, assign, body, run_yield i2 (hps x), roundIn_of_wpIn hfn (hassign L x W _ ⟨_, run_beginRound i2 rfl, ?_⟩)⟩
      have hsz : (W.putObj L (.loop { R .ready with state := .busy })).heap.size = W.heap.size := by simp [World.putObj]
      have j2 : (W.putObj L (.loop { R .ready with state := .busy })).heap[L]? = some (.loop { R .ready with state := .busy }) := World.putObj_heap_same hLlt
      have jo : ∀ k, k ≠ L → (W.putObj L (.loop { R .ready with state := .busy })).heap[k]? = W.heap[k]? := fun k hk => World.putObj_heap_other hk
      refine wpIn_mono (hbody L pre x _ (hI.put _ i1 (by show w.heap.size ≤ w.heap.size + 1; omega) i2 rfl) (by rw [hsz]; omega)) ?_
      intro e a3 W3 hpost
      cases e with
      | normal =>
        obtain ⟨k1, k2, k3⟩ := hpost
        rw [hsz] at k1 k2
        have l2 := (k2 L (.inr (by show w.heap.size ≤ w.heap.size + 1; omega)) hLlt).trans j2
        have l3 := (k2 D (.inr (Nat.le_refl _)) (by show w.heap.size < _; omega)).trans ((jo D (by show w.heap.size ≠ w.heap.size + 1; omega)).trans i3)
        have hL3 : L < W3.heap.size := by omega
        refine ⟨_, _, run_endRound none l2, rfl, ⟨hI.put _ k3 (by show w.heap.size ≤ w.heap.size + 1; omega) l2 rfl, World.putObj_heap_same hL3, (World.putObj_heap_other (by show w.heap.size ≠ w.heap.size + 1; omega)).trans l3⟩, ?_, ?_, by simp [World.putObj]; omega⟩
        · exact (World.putObj_heap_other (by show p ≠ w.heap.size + 1; omega)).trans ((k2 p (.inl rfl) (by omega)).trans (jo p (by show p ≠ w.heap.size + 1; omega)))
        · exact (World.putObj_heap_other (by show _ ≠ w.heap.size + 1; omega)).trans ((k2 _ (.inr (by omega)) hgt).trans (jo _ (by show _ ≠ w.heap.size + 1; omega)))
      | ret => exact hpost.elim
      | exit id => exact hpost.elim
      | goto t => exact hpost.elim
      | panic ch => exact hpost.elim
      | outgrown => exact hpost.elim
    · rintro e W2 ⟨⟨v, rfl⟩, xs, hS, i1, i2, i3⟩
      exact ⟨none, _, run_endLoop i2 (by simp [R]), hdone D xs _ (Nat.le_refl _) hS (hI.put _ i1 (by show w.heap.size ≤ w.heap.size + 1; omega) i2 rfl) ((World.putObj_heap_other (by show w.heap.size ≠ w.heap.size + 1; omega)).trans i3)⟩
end Go.Proofs.YtffkedepffjobaaDoor

namespace Go.Proofs.YtffkedepffjobaaDoor
open Go.RowKit
set_option maxRecDepth 100000
attribute [local go_sem] Oper.semAt_some

/-! ### The primes below a number -/
def Pri (q : Nat) : Prop := 2 ≤ q ∧ ∀ d, d ∣ q → d = 1 ∨ d = q
theorem not_pri {m k : Nat} (hm : 2 ≤ m) (hk : 2 ≤ k) : ¬ Pri (m * k) := by
  rintro ⟨_, h⟩
  rcases h k (Nat.dvd_mul_left k m) with h1 | h1
  · omega
  · have := Nat.mul_le_mul_right k hm
    omega
/-- Each number from 2 on has a prime that divides it. -/
theorem pri_exists (n : Nat) : ∀ q, q ≤ n → 2 ≤ q → ∃ p, Pri p ∧ p ∣ q := by
  induction n with
  | zero => intro q h1 h2; omega
  | succ n ih =>
    intro q h1 h2
    by_cases h : ∃ d, d ∣ q ∧ d ≠ 1 ∧ d ≠ q
    · obtain ⟨d, hd, h3, h4⟩ := h
      have hd0 : d ≠ 0 := by intro e; subst e; have := Nat.eq_zero_of_zero_dvd hd; omega
      have hle := Nat.le_of_dvd (by omega) hd
      obtain ⟨p, hp, hpd⟩ := ih d (by omega) (by omega)
      exact ⟨p, hp, Nat.dvd_trans hpd hd⟩
    · refine ⟨q, ⟨h2, fun d hd => ?_⟩, Nat.dvd_refl q⟩
      rcases Nat.decEq d 1 with h3 | h3
      · right
        rcases Nat.decEq d q with h4 | h4
        · exact absurd ⟨d, hd, h3, h4⟩ h
        · exact h4
      · exact .inl h3

abbrev Pr (top : Nat) := { q : Nat // 2 ≤ q ∧ q < top }
def encP {top : Nat} (x : Pr top) : Array Value := #[.int .i64 x.1]
/-- All primes have come. -/
def AllP {top : Nat} (ys : List (Pr top)) : Prop := ∀ q, Pri q → q < top → ∃ y ∈ ys, y.1 = q

/-- A row of marks of the call's own. -/
def OwnB (w : World) (g n : Nat) (L : List Bool) : Prop := L.length = n ∧ w.heap[g]? = some (.cells (L.map Value.bool).toArray 4 (0, 0))
theorem OwnB.same {w w' : World} {g n : Nat} {L : List Bool} (h : OwnB w g n L) (hg : w'.heap[g]? = w.heap[g]?) : OwnB w' g n L := ⟨h.1, hg.trans h.2⟩
theorem OwnB.off {w : World} {g n : Nat} {L : List Bool} (h : OwnB w g n L) : Off w g := off_cells h.2 (by
  intro i v hv x e
  subst e
  simp at hv)
theorem OwnB.cell {w : World} {g n : Nat} {L : List Bool} (h : OwnB w g n L) (j : Nat) (hj : j < n) : w.cell? ⟨g, j, none⟩ = some (.bool (L[j]?.getD false)) := by
  have hj' : j < L.length := by rw [h.1]; exact hj
  simp [World.cell?, h.2, hj']
theorem OwnB.frozen {w : World} {g n : Nat} {L : List Bool} (h : OwnB w g n L) (j : Nat) : w.frozen? ⟨g, j, none⟩ = false := by
  simp [World.frozen?, h.2]
theorem OwnB.set {w : World} {g n : Nat} {L : List Bool} (h : OwnB w g n L) (j : Nat) (b : Bool) : OwnB (w.setCell ⟨g, j, none⟩ (.bool b)) g n (L.set j b) := by
  refine ⟨by rw [List.length_set]; exact h.1, ?_⟩
  obtain ⟨hlt, hk⟩ := Array.getElem?_eq_some_iff.1 h.2
  show (w.heap.modify g _)[g]? = _
  rw [Array.getElem?_eq_getElem (by rw [Array.size_modify]; exact hlt), Array.getElem_modify_self, hk]
  simp [List.map_set]
theorem set_false {L : List Bool} {j : Nat} (hL : ∀ q, Pri q → L[q]?.getD false = false) (hj : ¬ Pri j) : ∀ q, Pri q → (L.set j true)[q]?.getD false = false := by
  intro q hq
  rw [List.getElem?_set_ne (fun e => hj (by rw [e]; exact hq))]
  exact hL q hq

theorem infb : (Tryd.prog.info? 4).map (fun i => (i.zero, i.size, i.bytes)) = some (some (.bool false), 1, 1) := by kernel_rfl

set_option maxHeartbeats 2000000 in
theorem primes1 (n : Nat) (hn : 1 ≤ n) (p top : Nat) (ht : top ≤ 1000000000) (w0 : World) (hbox : w0.cell? ⟨p, 0, none⟩ = some (.int .i64 top)) :
    SeqOff n 62 #[.pointer (some ⟨p, 0, none⟩)] (encP (top := top)) p AllP w0 := by
  intro l J W hW0 hJ hY h0
  have hplt : p < w0.heap.size := World.block_lt_of_cell? w0 _ hbox
  have hWp : W.cell? ⟨p, 0, none⟩ = some (.int .i64 top) := (hW0.cell hplt).trans hbox
  have hpW : p < W.heap.size := Nat.lt_of_lt_of_le hplt hW0.size
  obtain ⟨g, hg⟩ : ∃ g, g = W.heap.size := ⟨_, rfl⟩
  have HY := Lib.hid hY
  have HJ := Lib.hid hJ
  rw [← hg] at HJ HY hpW
  have hmk : ∀ w, (Instr.makeSlice 72 (.int .i64 (top : Int)) (.int .i64 (top : Int))).run Tryd.prog w = .ok (.slice (some ⟨w.heap.size, 0, none⟩) top top) (w.alloc (.cells (madeCells #[.bool false] top) 4)) := fun w => by
    obtain ⟨i, hi, hz0, hz1, hz2⟩ := info_parts infb
    have hr := run_make (P := Tryd.prog) w 72 4 i (.bool false) Tryd.underlying72 hi hz0 .i64 .i64 top top (by omega) (by omega) (by rw [hz2]; omega) (by omega)
    rw [hz1] at hr
    simpa [Value.cells] using hr
  have hrow0 : OwnB (W.alloc (.cells (madeCells #[.bool false] top) 4)) g top (List.replicate top false) := by
    refine ⟨by simp, ?_⟩
    rw [hg]
    refine (World.alloc_heap_new W _).trans ?_
    congr 2
    apply Array.ext
    · simp [madeCells]
    · intro j h1 h2
      simp [madeCells, Nat.mod_one]
  have hJ0 := hJ.new (.cells (madeCells #[.bool false] top) 4) h0
  have hp0 : (W.alloc (.cells (madeCells #[.bool false] top) 4)).heap[p]? = W.heap[p]? := Below.heap_alloc _ _ _ (by omega)
  have hs0 : g < (W.alloc (.cells (madeCells #[.bool false] top) 4)).heap.size := by rw [hg]; simp
  have HG := Lib.hid hg
  clear hY hJ h0 hW0 hbox hplt
  refine callsIn_of_wp Tryd.func62 rfl trivial ?_ rfl
  simp only [Tryd.ntmps62, List.size_toArray, List.length_cons, List.length_nil, Nat.reduceAdd, Nat.reduceSub, Array.replicate_succ, Array.replicate_zero, List.push_toArray, List.append_toArray, List.nil_append, List.cons_append]
  gi_wp2
  rw [← HG.out]
  gi_loopw [4] (fun pv wr => ∃ (k : Nat) (pre : List (Pr top)) (L : List Bool), 2 ≤ k ∧ k ≤ max top 2 ∧ pv = .int .i64 k ∧ OwnB wr g top L ∧ J pre wr ∧
      Hid ((∀ q, Pri q → L[q]?.getD false = false) ∧ (∀ q, Pri q → q < k → ∃ y ∈ pre, y.1 = q)) ∧ wr.heap[p]? = W.heap[p]? ∧ g < wr.heap.size) (fun pv _ => max top 2 - (intOf pv).toNat)
  case atStart => exact ⟨2, [], _, by omega, by omega, rfl, hrow0, hJ0, Lib.hid ⟨fun q _ => by rw [List.getElem?_replicate]; split <;> rfl, fun q hq hlt => absurd hq.1 (by omega)⟩, hp0, hs0⟩
  case round =>
    clear hrow0 hJ0 hp0 hs0 hmk hg
    obtain ⟨k, pre, L, hk2, hkt, rfl, hrow, hJ, H, hp, hs⟩ := hrel
    have cp : wr.cell? ⟨p, 0, none⟩ = some (.int .i64 top) := (World.cell?_of_block (a := ⟨p, 0, none⟩) hp).trans hWp
    by_cases hlt : k < top
    · have ck := hrow.cell k hlt
      obtain ⟨b, hb⟩ : ∃ b, b = L[k]?.getD false := ⟨_, rfl⟩
      rw [← hb] at ck
      cases b with
      | true =>
        have NX : Hid ((∀ q, Pri q → L[q]?.getD false = false) ∧ (∀ q, Pri q → q < k + 1 → ∃ y ∈ pre, y.1 = q)) := Lib.hid ⟨H.out.1, fun q hq hlt => by
          rcases Nat.lt_or_ge q k with h1 | h1
          · exact H.out.2 q hq h1
          · have : q = k := by omega
            subst this
            have := H.out.1 q hq
            rw [← hb] at this
            cases this⟩
        clear hb
        gi_wp2
        refine ⟨⟨k + 1, pre, L, by omega, by omega, by go_num, hrow, hJ, NX, hp, hs⟩, ?_⟩
        simp [intOf]
        omega
      | false =>
        clear hb
        have hgp : g ≠ p := by omega
        gi_wp2
        obtain ⟨wo, rfl⟩ : ∃ wo : World, wo = wr := ⟨_, rfl⟩
        gi_loopw [5] (fun qv wr => ∃ (m q : Nat) (L : List Bool), 2 ≤ m ∧ q = m * k ∧ q < top + k ∧ qv = .int .i64 q ∧ OwnB wr g top L ∧ J pre wr ∧
          Hid (∀ q, Pri q → L[q]?.getD false = false) ∧ wr.heap[p]? = W.heap[p]? ∧ g < wr.heap.size) (fun qv _ => top - (intOf qv).toNat)
        case atStart => exact ⟨2, 2 * k, L, by omega, rfl, by omega, val_int (by omega), hrow, hJ, Lib.hid H.out.1, hp, hs⟩
        case round =>
          have H2 := Lib.hid H.out.2
          clear hrow hJ hp hs cp ck H
          obtain ⟨m, q, L, hm, hq, hqb, rfl, hrow, hJ, H, hp, hs⟩ := hrel
          have cp : wr.cell? ⟨p, 0, none⟩ = some (.int .i64 top) := (World.cell?_of_block (a := ⟨p, 0, none⟩) hp).trans hWp
          by_cases hqt : q < top
          · have cq := hrow.cell q hqt
            have fq := hrow.frozen q
            have NX := Lib.hid (set_false H.out (j := q) (by rw [hq]; exact not_pri hm hk2))
            have HR := Lib.hid (hrow.set q true)
            have HJ1 := Lib.hid (HJ.out pre wr (wr.setCell ⟨g, q, none⟩ (.bool true)) (some g) hJ (grownBy_setC wr g q _) (fun r e => by cases e; exact ⟨Nat.le_refl _, hrow.off⟩))
            have HP := Lib.hid ((Below.heap_setCell wr ⟨g, q, none⟩ (.bool true) p (fun e => hgp e.symm)).trans hp)
            have hqs : q + k = (m + 1) * k := by rw [Nat.add_mul, Nat.one_mul, hq]
            have HQ := Lib.hid hqs
            clear hq hqs hrow hJ hp
            gi_wp2
            refine ⟨⟨m + 1, q + k, _, by omega, HQ.out, by omega, val_int (by omega), HR.out, HJ1.out, NX, HP.out, by simpa [World.setCell] using hs⟩, ?_⟩
            simp [intOf]
            omega
          · obtain ⟨fn, tmps, assign, body, hy, hR⟩ := HY.out pre ⟨k, hk2, hlt⟩ wr hJ hs
            dsimp only [encP] at hy
            have hR2 := hR.mono (R' := fun e W' => e = .returned (.bool true) ∧ Hid (J (pre ++ [⟨k, hk2, hlt⟩]) W' ∧ W'.heap[p]? = wr.heap[p]? ∧ W'.heap[g]? = wr.heap[g]? ∧ wr.heap.size ≤ W'.heap.size)) (by
              rintro e W' ⟨rfl, h1, h2, h3, h4⟩
              exact ⟨rfl, Lib.hid ⟨h1, h2, h3, h4⟩⟩)
            have NX : Hid (∀ q, Pri q → q < k + 1 → ∃ y ∈ pre ++ [(⟨k, hk2, hlt⟩ : Pr top)], y.1 = q) := Lib.hid fun q hq hl => by
              rcases Nat.lt_or_ge q k with h1 | h1
              · obtain ⟨y, hy, e⟩ := H2.out q hq h1
                exact ⟨y, List.mem_append_left _ hy, e⟩
              · exact ⟨⟨k, hk2, hlt⟩, by simp, by show k = q; omega⟩
            have HRow := Lib.hid hrow
            have HP := Lib.hid hp
            clear hR hq hrow hJ hp H2
            gi_wp2_with (refine hR2.mono ?_; rintro e W3 ⟨rfl, hb⟩)
            refine ⟨⟨k + 1, _, L, by omega, by omega, by go_num, HRow.out.same hb.out.2.2.1, hb.out.1, Lib.hid ⟨H.out, NX.out⟩, hb.out.2.1.trans HP.out, by have := hb.out.2.2.2; omega⟩, ?_⟩
            simp [intOf]
            omega
    · gi_wp2
      go_end0
      exact ⟨⟨_, rfl⟩, pre, fun q hq hqt => H.out.2 q hq (by omega), hJ⟩
end Go.Proofs.YtffkedepffjobaaDoor

namespace Go.Proofs.YtffkedepffjobaaDoor
open Go.RowKit
set_option maxRecDepth 100000
attribute [local go_sem] Oper.semAt_some

theorem isP_eq {b : Nat} {k : Int} (hb : 2 ≤ b) (hk : 1 ≤ k) : isP b k = decide (rt b k.toNat ^ k.toNat = b) := by
  unfold isP
  rw [if_neg (by omega), if_neg (by omega)]
  split
  · rename_i h
    symm
    apply decide_eq_false
    rw [rt_big (by omega) (by omega), Nat.one_pow]
    omega
  · rfl
/-- What is known of a number whose roots are taken. -/
structure Pw (a b k : Nat) (xs : List Nat) : Prop where
  two : 2 ≤ b
  pow : b ^ k = a
  pos : 1 ≤ k
  no : ∀ y ∈ xs, 2 ≤ y → rt b y ^ y ≠ b
theorem pw_start {a : Nat} (h : 2 ≤ a) : Pw a a 1 [] := ⟨h, Nat.pow_one a, by omega, fun _ h => by cases h⟩
theorem Pw.le {a b k : Nat} {xs : List Nat} (h : Pw a b k xs) : b ≤ a ∧ k < bl a := by
  refine ⟨?_, ?_⟩
  · rw [← h.pow]; exact le_pow' b k h.pos (by have := h.two; omega)
  · have := pow_bits (m := k) h.two
    rwa [h.pow] at this
theorem rt_of_pow {b c y : Nat} (hy : 2 ≤ y) (h : c ^ y = b) : rt b y ^ y = b := by
  rw [← h, rt_pow _ _ (by omega)]
theorem pw_step {a b k p : Nat} {xs : List Nat} (h : Pw a b k xs) (hp : 2 ≤ p) (hr : rt b p ^ p = b) : Pw a (rt b p) (k * p) xs := by
  have h2 : 2 ≤ rt b p := by
    rcases Nat.lt_or_ge (rt b p) 2 with g | g
    · have h3 := h.two
      have : rt b p = 0 ∨ rt b p = 1 := by omega
      rcases this with e | e
      · rw [e, Nat.zero_pow (by omega)] at hr; omega
      · rw [e, Nat.one_pow] at hr; omega
    · exact g
  refine ⟨h2, by rw [Nat.mul_comm, Nat.pow_mul, hr]; exact h.pow, Nat.mul_pos h.pos (by omega), fun y hy hy2 e => ?_⟩
  refine h.no y hy hy2 (rt_of_pow (c := rt (rt b p) y ^ p) hy2 ?_)
  rw [← Nat.pow_mul, Nat.mul_comm, Nat.pow_mul, e, hr]
theorem pw_next {a b k p : Nat} {xs : List Nat} (h : Pw a b k xs) (hr : rt b p ^ p ≠ b) : Pw a b k (xs ++ [p]) :=
  ⟨h.two, h.pow, h.pos, fun y hy hy2 => by
    rcases List.mem_append.1 hy with g | g
    · exact h.no y g hy2
    · rw [List.mem_singleton.1 g]; exact hr⟩
theorem pw_end {a b k : Nat} {xs : List Nat} (h : Pw a b k xs) (hall : ∀ q, Pri q → q < bl a → q ∈ xs) : Plain b := by
  refine ⟨h.two, fun c j hj e => ?_⟩
  obtain ⟨q, hq, m, rfl⟩ := pri_exists j j (Nat.le_refl _) hj
  have hc : 2 ≤ c := by
    have h3 := h.two
    rcases Nat.lt_or_ge c 2 with g | g
    · have : c = 0 ∨ c = 1 := by omega
      rcases this with e1 | e1
      · rw [e1, Nat.zero_pow (by omega)] at e; omega
      · rw [e1, Nat.one_pow] at e; omega
    · exact g
  have hm : 1 ≤ m := by
    rcases Nat.eq_zero_or_pos m with rfl | g
    · omega
    · exact g
  have hqj : q ≤ q * m := Nat.le_mul_of_pos_right _ hm
  have hjb := pow_bits (m := q * m) hc
  rw [e] at hjb
  have hba := bl_mono h.le.1
  refine h.no q (hall q hq (by omega)) hq.1 (rt_of_pow (c := c ^ m) hq.1 ?_)
  rw [← Nat.pow_mul, Nat.mul_comm]
  exact e

/-- A number as a power of a plain one. -/
def AnsPw (w : World) (a : Nat) : Ending → World → Prop := Ans w fun v w' => ∃ u b k, v = .tuple #[u, .int .i64 ((k : Nat) : Int)] ∧ IsN w' u b ∧ Plain b ∧ 1 ≤ k ∧ b ^ k = a

theorem root_Power1 (w : World) (va : Value) (a : Nat) (ha : IsN w va a) (h : a ≤ 1) :
    Calls Tryd.prog 18 #[va] w (Ans w fun v w' => v = .tuple #[va, .int .i64 1]) := by
  obtain ⟨A, c, hva⟩ := ha.slice
  subst hva
  have HA := Lib.hid ha
  obtain ⟨z, hz⟩ : ∃ z, z = cmp3 a 1 := ⟨_, rfl⟩
  have HZ := Lib.hid hz
  have hz0 : z ≤ 0 := by
    rw [hz]
    rcases Nat.lt_or_ge 1 a with g | g
    · omega
    · have := @cmp3_pos a 1; omega
  have b1 : bl 1 ≤ 1 := by decide
  have ba : bl a ≤ 1 := by rw [bl_le_iff]; omega
  have KC : Hid (∀ X, Below (w.alloc (.cells #[.slice A (nl a) c] 22)).heap.size (w.alloc (.cells #[.slice A (nl a) c] 22)) X → X.cell? ⟨w.heap.size, 0, none⟩ = some (.slice A (nl a) c)) := Lib.hid fun X hX => (hX.cell (p := ⟨w.heap.size, 0, none⟩) (by simp)).trans (Boxed.new w 22 _).cell
  have HA1 : Hid (IsN (w.alloc (.cells #[.slice A (nl a) c] 22)).drew (.slice A (nl a) c) a) := Lib.hid (ha.al _).dr
  have k0 := KC.out _ (Below.refl _ _)
  clear hz
  go_enter Tryd.func18, Tryd.ntmps18
  go_wp2_with fail
  go_region_held3 (fun X => X.cell? ⟨w.heap.size, 0, none⟩ = some (.slice A (nl a) c)) (first | exact KC.out _ (Below.refl _ _).drew | exact KC.out _ (Below.refl _ _) | exact KC.out _ ((Below.refl _ _).drew.trans c1) | exact KC.out _ (up_then ((Below.refl _ _).drew.trans c1) c2))
    ((first | (go_at_call 45; refine (root_unit _).mono ?_; rintro e w1 ⟨v1, rfl, i1, c1⟩) | (go_at_call 44; refine (kCmp (x := a) (y := 1) (ha := HA1.out.up c1) (hb := i1)).mono ?_; rintro e w2 ⟨rfl, c2⟩; rw [← HZ.out])))
  have k2 := KC.out w2 (up_then ((Below.refl _ _).drew.trans c1) c2)
  go_wp2_with fail
  go_ret2
  exact ⟨_, rfl, rfl, up_then (up_alloc (Below.refl _ _) _) (up_then ((Below.refl _ _).drew.trans c1) c2)⟩

theorem dr_then {w w1 : World} (h : Below w.drew.heap.size w.drew w1) : Below w.heap.size w w1 := (Below.refl _ _).drew.trans h
theorem primes_any (top : Int) (w : World) :
    Calls Tryd.prog 46 #[.int .i64 top] w fun e w' => e = .returned (.func (.func 62) #[] #[.pointer (some ⟨w.heap.size, 0, none⟩)]) ∧ w' = w.alloc (.cells #[.int .i64 top] 3) := by
  go_enter Tryd.func46, Tryd.ntmps46
  go_wp2
  go_ret
  exact ⟨rfl, rfl⟩

/-- Between two rounds of Power's loop. -/
def PwAt (H K a : Nat) (w : World) {top : Nat} (ys : List (Pr top)) (W : World) : Prop :=
  ∃ v b k, Boxed W H 22 v ∧ IsN W v b ∧ Boxed W K 3 (.int .i64 ((k : Nat) : Int)) ∧ Hid (Pw a b k (ys.map (·.1))) ∧ Below H w W
theorem pwAt_abid (H K a : Nat) (w : World) (top n₀ : Nat) (hH : H < n₀) (hK : K < n₀) : Abid n₀ (PwAt H K a w (top := top)) := by
  rintro s W W' row ⟨v, b, k, h1, h2, h3, h4, h5⟩ hg hr
  have ne : ∀ j, j < n₀ → some j ≠ row := fun j hj e => by have := (hr j e.symm).1; omega
  refine ⟨v, b, k, h1.kept hg (ne H hH), h2.grown hg (fun r e => (hr r e).2), h3.kept hg (ne K hK), h4, h5.grown hg (by have := h1.lt; omega) (fun k e => by have := (hr k e).1; omega)⟩

set_option maxHeartbeats 2000000 in
theorem root_Power2 (w : World) (va : Value) (a : Nat) (ha : IsN w va a) (h : 2 ≤ a) (hb : bl a ≤ 50000000) (hF : Ok (2 * bl a)) :
    Calls Tryd.prog 18 #[va] w (AnsPw w a) := by
  obtain ⟨A, c, hva⟩ := ha.slice
  subst hva
  have HA := Lib.hid ha
  obtain ⟨z, hz⟩ : ∃ z, z = cmp3 a 1 := ⟨_, rfl⟩
  have HZ := Lib.hid hz
  have hz0 : ¬ z ≤ 0 := by rw [hz]; have := (@cmp3_pos a 1).2 (by omega); omega
  have b1 : bl 1 ≤ 1 := by decide
  have KC : Hid (∀ X, Below (w.alloc (.cells #[.slice A (nl a) c] 22)).heap.size (w.alloc (.cells #[.slice A (nl a) c] 22)) X → Boxed X w.heap.size 22 (.slice A (nl a) c) ∧ IsN X (.slice A (nl a) c) a) := Lib.hid fun X hX => ⟨(hX.block w.heap.size (by simp)).trans (Boxed.new w 22 _), (ha.al _).up hX⟩
  have HF := Lib.hid hF
  have H2 := Lib.hid h
  clear hz hF h
  refine (callsIn_wide (n := 3)).1 ?_
  refine callsIn_of_wp_marks Tryd.func18 rfl trivial ?_ rfl
  simp only [Tryd.ntmps18, List.size_toArray, List.length_cons, List.length_nil, Nat.reduceAdd, Nat.reduceSub, Array.replicate_succ, Array.replicate_zero, List.push_toArray, List.append_toArray, List.nil_append, List.cons_append]
  have k0 := (KC.out _ (Below.refl _ _)).1.cell
  refine wpIn_wide.2 ?_
  go_wp2_with fail
  go_region_held3 (fun X => X.cell? ⟨w.heap.size, 0, none⟩ = some (.slice A (nl a) c)) (first | exact (KC.out _ (Below.refl _ _).drew).1.cell | exact (KC.out _ (Below.refl _ _)).1.cell | exact (KC.out _ ((Below.refl _ _).drew.trans c1)).1.cell | exact (KC.out _ (up_then ((Below.refl _ _).drew.trans c1) c2)).1.cell)
    ((first | (go_at_call 45; refine (root_unit _).mono ?_; rintro e w1 ⟨v1, rfl, i1, c1⟩) | (go_at_call 44; refine (kCmp (x := a) (y := 1) (ha := (KC.out _ (Below.refl _ _).drew).2.up c1) (hb := i1)).mono ?_; rintro e w2 ⟨rfl, c2⟩; rw [← HZ.out])))
  have hB2 := up_then (dr_then c1) c2
  have k2 := (KC.out w2 hB2).1.cell
  have hsz : w.heap.size < w2.heap.size := by have := hB2.size; simp at this; omega
  have k3 : ∀ o, (w2.alloc o).cell? ⟨w.heap.size, 0, none⟩ = some (.slice A (nl a) c) := fun o => ((KC.out w2 hB2).1.alloc o).cell
  go_wp2_with fail
  refine (kBits (x := a) (ha := ((KC.out w2 hB2).2.al _))).mono ?_
  rintro e w3 ⟨rfl, rfl⟩
  go_wp2_with fail
  refine (primes_any _ _).mono ?_
  rintro e w3 ⟨rfl, rfl⟩
  obtain ⟨W0, hW0⟩ : ∃ W0, W0 = (w2.alloc (.cells #[.int .i64 1] 3)).alloc (.cells #[.int .i64 (bl a : Nat)] 3) := ⟨_, rfl⟩
  have q1 : Boxed W0 w.heap.size 22 (.slice A (nl a) c) := by rw [hW0]; exact ((KC.out w2 hB2).1.alloc _).alloc _
  have q2 : IsN W0 (.slice A (nl a) c) a := by rw [hW0]; exact (((KC.out w2 hB2).2.al _).al _)
  have q3 : Boxed W0 w2.heap.size 3 (.int .i64 ((1 : Nat) : Int)) := by rw [hW0]; exact (Boxed.new w2 3 _).alloc _
  have q4 : Boxed W0 (w2.heap.size + 1) 3 (.int .i64 (bl a : Nat)) := by
    rw [hW0]
    have := Boxed.new (w2.alloc (.cells #[.int .i64 1] 3)) 3 (.int .i64 (bl a : Nat))
    simpa using this
  have q5 : Below w.heap.size w W0 := by rw [hW0]; exact up_alloc (up_alloc (up_then (up_alloc (Below.refl _ _) _) hB2) _) _
  have q6 : W0.heap.size = w2.heap.size + 2 := by rw [hW0]; simp
  rw [World.size_alloc, ← hW0]
  clear hW0
  go_wp2_with fail
  refine (wpIn_wide (n := 3)).1 ?_
  have HB := Lib.hid (And.intro q5 (And.intro q6 hsz))
  have hF1 := fun (b k : Nat) (hb : bl b ≤ bl a) (hk : k ≤ bl a) => HF.out.le (show bl b + k ≤ 2 * bl a by omega)
  have HF1 := Lib.hid hF1
  clear hF1 q5 KC k0 k2 k3 c1 c2 i1 hB2
  obtain ⟨n₀, hn₀⟩ : ∃ n, n = W0.heap.size := ⟨_, rfl⟩
  have hK₀ : w2.heap.size < n₀ := by omega
  have hP₀ : w2.heap.size + 1 < n₀ := by omega
  have hH₀ : w.heap.size < n₀ := by omega
  have HN := Lib.hid hn₀
  have hba := hb
  refine range_off (n := 3) (by decide) (gf := 62) (lb := #[.pointer (some ⟨w2.heap.size + 1, 0, none⟩)]) rfl (enters_of Tryd.func62 (by kernel_rfl) rfl) (encs := encP (top := bl a)) (p := w2.heap.size + 1) (S := AllP)
    (primes1 2 (by omega) (w2.heap.size + 1) (bl a) (by omega) W0 q4.cell) (by omega) (fun _ => rfl) (PwAt w.heap.size w2.heap.size a w) (pwAt_abid _ _ _ _ _ _ (by omega) (by omega)) ⟨_, a, 1, q1, q2, q3, Lib.hid (pw_start H2.out), HB.out.1⟩ ?a1 ?assign ?body ?done
  case assign =>
    intro l x W K hK
    simp only [encP]
    gi_wp2
    exact hK
  case body =>
    rintro l pre x W ⟨v, b, k, h1, h2, h3, h4, h5⟩ hgt
    (try dsimp only)
    rw [← HN.out] at hgt ⊢
    obtain ⟨p, hp2, hpt⟩ := x
    (try dsimp only)
    obtain ⟨A1, d1, rfl⟩ := h2.slice
    gi_wp2
    obtain ⟨wo, rfl⟩ : ∃ wo : World, wo = W := ⟨_, rfl⟩
    gi_loopw [] (fun wr => ∃ (A1 : Option Addr) (d1 b k : Nat), Boxed wr w.heap.size 22 (.slice A1 (nl b) d1) ∧ IsN wr (.slice A1 (nl b) d1) b ∧ Boxed wr w2.heap.size 3 (.int .i64 ((k : Nat) : Int)) ∧ Hid (Pw a b k (pre.map (·.1))) ∧ Below w.heap.size w wr ∧
      Hid (wo.heap.size ≤ wr.heap.size ∧ (∀ r, (r = w2.heap.size + 1 ∨ n₀ ≤ r) → r < wo.heap.size → wr.heap[r]? = wo.heap[r]?))) (fun wr => bl a - (intOf ((wr.cell? ⟨w2.heap.size, 0, none⟩).getD undef)).toNat)
    case atStart => exact ⟨A1, d1, b, k, h1, h2, h3, h4, h5, Lib.hid ⟨Nat.le_refl _, fun _ _ _ => rfl⟩⟩
    case round =>
      obtain ⟨A1, d1, b, k, h1, h2, h3, h4, h5, h6⟩ := hrel
      have hle := h4.out.le
      have hbb : bl b ≤ bl a := bl_mono hle.1
      have hb2 := h4.out.two
      have hIs := isP_eq (b := b) (k := (p : Int)) hb2 (by omega)
      rw [Int.toNat_natCast] at hIs
      have HIs := Lib.hid (root_Is wr (.slice A1 (nl b) d1) b (p : Int) h2 (by omega) (by omega) (by omega) (by rw [Int.toNat_natCast]; intro hh; exact HF1.out b p hbb (by omega)))
      rw [hIs] at HIs
      have c1 := h1.cell
      have hkl := hle.2
      clear hIs hle
      by_cases hP : rt b p ^ p = b
      · rw [decide_eq_true hP] at HIs
        have NX := Lib.hid (pw_step h4.out hp2 hP)
        obtain ⟨kp, hkp⟩ : ∃ kp, kp = k * p := ⟨_, rfl⟩
        have hkpi : (k : Int) * (p : Int) = (kp : Int) := by rw [hkp]; simp
        rw [← hkp] at NX
        have hkpb := NX.out.le.2
        have hkk : k < kp := by
          rw [hkp]
          have := Nat.mul_le_mul_left k hp2
          have := h4.out.pos
          omega
        have hF2 := HF1.out b p hbb (by omega)
        have HC := fun W (h : IsN W (.slice A1 (nl b) d1) b) => Lib.hid (root_cut W _ b p h (by omega) (by omega) (by omega) (fun _ _ => hF2))
        clear hkp hP
        gi_wp2_with fail
        refine ⟨trivial, ?_⟩
        refine (CallsIn.inRound l (callsIn_wide.2 HIs.out)).mono ?_
        rintro e w3 ⟨rfl, b3⟩
        have e1 : Boxed w3 w.heap.size 22 (.slice A1 (nl b) d1) := (b3.block _ h1.lt).trans h1
        have e3 : Boxed w3 w2.heap.size 3 (.int .i64 ((k : Nat) : Int)) := (b3.block _ h3.lt).trans h3
        have c1' := e1.cell
        gi_wp2_with fail
        refine ⟨trivial, ?_⟩
        refine (CallsIn.inRound l (callsIn_wide.2 (HC _ (h2.up b3)).out)).mono ?_
        rintro e w4 ⟨v4, rfl, i4, b4⟩
        obtain ⟨A4, d4, rfl⟩ := i4.slice
        have e1' : Boxed w4 w.heap.size 22 (.slice A1 (nl b) d1) := (b4.block _ e1.lt).trans e1
        have e3' : Boxed w4 w2.heap.size 3 (.int .i64 ((k : Nat) : Int)) := (b4.block _ e3.lt).trans e3
        have hne : w2.heap.size ≠ w.heap.size := by omega
        have hne' : w.heap.size ≠ w2.heap.size := by omega
        have c2 := e1'.cell
        have f2 := e1'.frozen
        have e3'' := fun u => e3'.other hne u
        have c3 := fun u => (e3'' u).cell
        have f3 := fun u => (e3'' u).frozen
        have HE1 := Lib.hid e1'
        have HE3 := Lib.hid e3''
        have HB5 := Lib.hid (up_then (up_then h5 b3) b4)
        have HB6 := Lib.hid (up_then b3 b4)
        have HC1 := Lib.hid h3
        clear h1 h2 h3 h5 e1 e3 e1' e3' e3'' c1 c1' b3 b4
        gi_wp2_with fail
        refine ⟨⟨A4, d4, rt b p, kp, (HE1.out.set _).other hne' _, (i4.setN (fun x => by rw [c2]; simp)).setN (fun x => by rw [c3]; simp), (HE3.out _).set _, NX,
          (HB5.out.setCell (p := ⟨w.heap.size, 0, none⟩) (Nat.le_refl _) _).setCell (p := ⟨w2.heap.size, 0, none⟩) (by dsimp only; omega) _, Lib.hid ⟨?_, fun r hr hlt => ?_⟩⟩, ?_⟩
        · have := h6.out.1
          have := HB6.out.size
          simp [World.setCell]
          omega
        · have h7 := h6.out.2 r hr hlt
          rw [Below.heap_setCell _ _ _ _ (by dsimp only; omega), Below.heap_setCell _ _ _ _ (by dsimp only; omega), ← h7]
          exact HB6.out.block r (by have := h6.out.1; omega)
        · rw [((HE3.out _).set _).cell, HC1.out.cell]
          simp [intOf]
          omega
      · rw [decide_eq_false hP] at HIs
        have NX := Lib.hid (pw_next h4.out hP)
        gi_wp2_with fail
        refine ⟨trivial, ?_⟩
        refine (CallsIn.inRound l (callsIn_wide.2 HIs.out)).mono ?_
        rintro e w3 ⟨rfl, b3⟩
        gi_wp2_with fail
        refine ⟨Nat.le_trans h6.out.1 b3.size, fun r hr hlt => ?_, _, b, k, (b3.block _ h1.lt).trans h1, h2.up b3, (b3.block _ h3.lt).trans h3, ?_, up_then h5 b3⟩
        · exact (b3.block r (by have := h6.out.1; omega)).trans (h6.out.2 r hr hlt)
        · rw [List.map_append]; exact NX
  case done =>
    rintro D ys W hD hS ⟨v, b, k, h1, h2, h3, h4, h5⟩ hK
    obtain ⟨A1, d1, rfl⟩ := h2.slice
    have c1 := h1.cell
    have c2 := h3.cell
    have HP := Lib.hid (pw_end h4.out (fun q hq hlt => by
      obtain ⟨y, hy, e⟩ := hS q hq hlt
      exact List.mem_map.2 ⟨y, hy, e⟩))
    have H4 := Lib.hid h4.out
    have hDlt : D < W.heap.size := (Array.getElem?_eq_some_iff.1 hK).1
    clear h4
    go_wp2_with fail
    (try refine wpIn_wide.2 ?_)
    go_region_held3 (fun X => X.cell? ⟨w.heap.size, 0, none⟩ = some (.slice A1 (nl b) d1) ∧ X.cell? ⟨w2.heap.size, 0, none⟩ = some (.int .i64 ((k : Nat) : Int))) (exact ⟨c1, c2⟩) (fail)
    go_wp2_with fail
    have hK1 : W.drew.heap[D]? = some (.deferred (some [])) := hK
    refine ⟨by simp, .inl ⟨_, _, rfl, run_takeDeferred hK1, ?_⟩⟩
    exact ⟨_, results_tmp2 rfl _ _ _, _, rfl, ⟨_, b, k, rfl, h2.dr.put _ hK1 rfl, HP.out, H4.out.pos, H4.out.pow⟩, (up_then h5 (dr_then (Below.refl _ _))).trans (belowK_b (w := w) (Nat.le_refl _) W.drew D _ _ (by omega) hK1 rfl rfl)⟩
end Go.Proofs.YtffkedepffjobaaDoor

