/- The contracts of nat.Add, nat.Sub and mul.School. By an AI agent. -/
import Derived.Test.YtffkedepffjobaaDoorM0
import Derived.RangeFuncNested
import Derived.RangeFuncBound
import Derived.RangeFuncCalls
import Derived.RangeFuncLeaves
import Derived.RangeFuncBox
import Derived.OwnWalkIn
import Derived.TacticsInMore
import Derived.LoopNIn
import Derived.LoopIn
import Derived.Shelf.RegionOpen
import Derived.Laws.EntriesVeiled
namespace Go.Proofs.YtffkedepffjobaaDoor
open Go.RowKit
set_option maxRecDepth 100000
attribute [local go_sem] Oper.semAt_some

/-- A step of limbs: what it tells. -/
def Steps32 (f : Nat) (σ : Nat → Nat → Nat → Nat × Nat) : Prop :=
  ∀ (x y c : Nat) (w : World), x < 4294967296 → y < 4294967296 → c ≤ 1 →
    Calls Tryd.prog f #[.int .u32 x, .int .u32 y, .int .u32 c] w fun e w' => e = .returned (.tuple #[.int .u32 (σ x y c).1, .int .u32 (σ x y c).2]) ∧ w = w'

theorem carried1 (f : Nat) (σ : Nat → Nat → Nat → Nat × Nat) (hσ : Steps32 f σ) (hf : f = 70 ∨ f = 72) (x y c S C : Nat) (w : World) (hx : x < 4294967296) (hy : y < 4294967296) (hc : c ≤ 1)
    (hS : Boxed w S 80 (.func (.func f) #[] #[])) (hC : Boxed w C 36 (.int .u32 c)) :
    Calls Tryd.prog 91 #[.int .u32 x, .int .u32 y, .pointer (some ⟨S, 0, none⟩), .pointer (some ⟨C, 0, none⟩)] w fun e w' => e = .returned (.int .u32 (σ x y c).1) ∧ w' = w.setCell ⟨C, 0, none⟩ (.int .u32 (σ x y c).2) := by
  have h1 := hS.cell
  have h2 := hC.cell
  have h3 := hC.frozen
  rcases hf with rfl | rfl
  all_goals
    go_enter Tryd.func91, Tryd.ntmps91
    go_wp2_with (first | (go_at_call 70; refine (hσ x y c _ hx hy hc).mono ?_; rintro e w' ⟨rfl, rfl⟩) | (go_at_call 72; refine (hσ x y c _ hx hy hc).mono ?_; rintro e w' ⟨rfl, rfl⟩))
    go_ret
    exact ⟨rfl, rfl⟩

theorem carried_any (f : Nat) (w : World) :
    Calls Tryd.prog 81 #[.func (.func f) #[] #[]] w fun e w' => e = .returned (.func (.func 91) #[] #[.pointer (some ⟨w.heap.size, 0, none⟩), .pointer (some ⟨w.heap.size + 1, 0, none⟩)]) ∧
      w' = (w.alloc (.cells #[.func (.func f) #[] #[]] 80)).alloc (.cells #[.int .u32 0] 36) := by
  go_enter Tryd.func81, Tryd.ntmps81
  go_wp2
  go_ret
  exact ⟨rfl, rfl⟩

theorem pairs_any (A : Option Addr) (l c : Nat) (A' : Option Addr) (l' c' : Nat) (n : Int) (w : World) :
    Calls Tryd.prog 82 #[.slice A l c, .slice A' l' c', .int .i64 n] w fun e w' => e = .returned (.func (.func 92) #[] #[.pointer (some ⟨w.heap.size + 2, 0, none⟩), .pointer (some ⟨w.heap.size, 0, none⟩), .pointer (some ⟨w.heap.size + 1, 0, none⟩)]) ∧
      w' = ((w.alloc (.cells #[.slice A l c] 22)).alloc (.cells #[.slice A' l' c'] 22)).alloc (.cells #[.int .i64 n] 3) := by
  go_enter Tryd.func82, Tryd.ntmps82
  go_wp2
  go_ret
  exact ⟨rfl, rfl⟩

/-- Two limbs. -/
abbrev Two := { p : Nat × Nat // p.1 < 4294967296 ∧ p.2 < 4294967296 }
def two (la lm : List Nat) (h : Lim la) (k : Lim lm) (i : Nat) : Two := ⟨(lb la i, lb lm i), h.at i, k.at i⟩
def twos (la lm : List Nat) (h : Lim la) (k : Lim lm) (n : Nat) : List Two := (List.range n).map (two la lm h k)
theorem twos_succ (la lm : List Nat) (h : Lim la) (k : Lim lm) (n : Nat) : twos la lm h k (n + 1) = twos la lm h k n ++ [two la lm h k n] := by simp [twos, List.range_succ]
def KpP (n₀ p : Nat) (X Y : World) : Prop := Below n₀ X Y ∧ Y.heap[p]? = X.heap[p]? ∧ Y.heap[p + 1]? = X.heap[p + 1]?
def encT (x : Two) : Array Value := #[.int .u32 x.1.1, .int .u32 x.1.2]

set_option maxHeartbeats 1000000 in
theorem pairs1 (n : Nat) (hn : 1 ≤ n) (l p n₀ N : Nat) (hN : N ≤ 100000000000) (va vb : Value) (la lm : List Nat) (hla : Lim la) (hlm : Lim lm) (bla : la.length ≤ 281474976710656) (blm : lm.length ≤ 281474976710656) (J Jx : List Two → World → Prop)
    (hY : ∀ pre x W, J pre W → pre.length < N → YieldAt Fence.wide (n - 1) Tryd.prog l (encT x) W fun e W' =>
      (e = .returned (.bool true) ∧ J (pre ++ [x]) W' ∧ KpP n₀ p W W') ∨ (e = .returned (.bool false) ∧ Jx (pre ++ [x]) W'))
    (W : World) (hBn : W.cell? ⟨p + 2, 0, none⟩ = some (.int .i64 N)) (hBa : W.cell? ⟨p, 0, none⟩ = some va) (hBb : W.cell? ⟨p + 1, 0, none⟩ = some vb)
    (hRa : ∀ X, Below n₀ W X → Rd X .u32 va la) (hRb : ∀ X, Below n₀ W X → Rd X .u32 vb lm) (hJd : ∀ pre X, J pre X → J pre X.drew) (h0 : J [] W) :
    CallsIn Fence.wide n Tryd.prog 92 #[.func (.yield l) #[] #[], .pointer (some ⟨p + 2, 0, none⟩), .pointer (some ⟨p, 0, none⟩), .pointer (some ⟨p + 1, 0, none⟩)] W fun e W' => (∃ v, e = .returned v) ∧
      ((∃ ys, ys = twos la lm hla hlm N ∧ J ys W') ∨ (∃ pre, True ∧ Jx pre W')) := by
  have HRa := Lib.hid hRa
  have HRb := Lib.hid hRb
  clear hRa hRb
  refine callsIn_of_wp Tryd.func92 rfl trivial ?_ rfl
  simp only [Tryd.ntmps92, List.size_toArray, List.length_cons, List.length_nil, Nat.reduceAdd, Nat.reduceSub, Array.replicate_succ, Array.replicate_zero, List.push_toArray, List.append_toArray, List.nil_append, List.cons_append]
  gi_wp2
  gi_loopw [7] (fun i wr => ∃ k : Nat, k ≤ N ∧ i = .int .i64 k ∧ J (twos la lm hla hlm k) wr ∧ KpP n₀ p W wr) (fun i _ => N - (intOf i).toNat)
  case atStart => exact ⟨0, Nat.zero_le _, rfl, h0, Below.refl _ _, rfl, rfl⟩
  case round =>
    obtain ⟨k, hk, rfl, hJ, hB, hp0, hp1⟩ := hrel
    have e0 : wr.cell? ⟨p, 0, none⟩ = some va := (World.cell?_of_block (a := ⟨p, 0, none⟩) hp0).trans hBa
    have e1 : wr.cell? ⟨p + 1, 0, none⟩ = some vb := (World.cell?_of_block (a := ⟨p + 1, 0, none⟩) hp1).trans hBb
    by_cases hlt : k < N
    · obtain ⟨fn, tmps, assign, body, hy, hR⟩ := hY _ (two la lm hla hlm k) wr.drew (hJd _ _ hJ) (by simp [twos]; exact hlt)
      dsimp only [encT, two] at hy
      have hR2 := hR.mono (R' := fun e W' => ∃ b : Bool, e = .returned (.bool b) ∧ Hid ((b = true ∧ J (twos la lm hla hlm (k + 1)) W' ∧ KpP n₀ p wr.drew W') ∨ (b = false ∧ Jx (twos la lm hla hlm (k + 1)) W'))) (by
        rintro e W' (⟨rfl, h1, h2⟩ | ⟨rfl, h1⟩)
        · exact ⟨true, rfl, .inl ⟨rfl, by rw [twos_succ]; exact h1, h2⟩⟩
        · exact ⟨false, rfl, .inr ⟨rfl, by rw [twos_succ]; exact h1⟩⟩)
      clear hR
      have hmix : Tryd.prog.follows .mixedOrders = true := by kernel_rfl
      gi_wp2
      gi_region_with_o ((first | (refine ⟨trivial, ?_⟩; gi_at_call 56; refine (callsIn_wide.2 (nat_at _ _ _ k (by first | exact HRa.out _ hB.drew | exact HRb.out _ hB.drew) (by first | exact bla | exact blm))).mono ?_; rintro e w1 ⟨rfl, rfl⟩) | (refine hR2.mono ?_; rintro e W3 ⟨b, rfl, hb⟩)))
      all_goals
        rcases hb.out with ⟨rfl, h1, h2⟩ | ⟨rfl, h1⟩
        · gi_wp2
          go_roundw
          case rel => exact ⟨k + 1, by omega, by go_num, h1, hB.drew.trans h2.1, h2.2.1.trans hp0, h2.2.2.trans hp1⟩
          case measure => simp [intOf]; omega
        · gi_wp2
          refine bodyPost_ret (results_none rfl _ _ _) rfl ?_
          first | exact ⟨⟨_, rfl⟩, .inr ⟨_, h1⟩⟩ | exact ⟨⟨_, rfl⟩, .inr ⟨_, trivial, h1⟩⟩
    · obtain rfl : k = N := by omega
      gi_wp2
      go_end0
      exact ⟨⟨_, rfl⟩, .inl ⟨_, rfl, hJ⟩⟩

end Go.Proofs.YtffkedepffjobaaDoor

namespace Go.Proofs.YtffkedepffjobaaDoor
open Go.RowKit
set_option maxRecDepth 100000

/-- An append within a round of a loop, kept from the walk's own steps. -/
def AppIn (F : Fence) (n : Nat) (P : Program) (d : Option Tmp) (xs : Array Operand) (ts : Array TypeId) (t : TypeId) (p : String) (af : Array Edge) (a : Act) (w : World) (K : Act → World → Prop) (Q : Exit → Act → World → Prop) : Prop :=
  Oper.wpIn F n P { dst := d, op := .call { callee := .builtin .append, args := xs, argTypes := ts }, type := t, pos := p, after := af, guard := none } a w K Q
theorem appIn_mark (F : Fence) (n : Nat) (P : Program) (d : Option Tmp) (xs : Array Operand) (ts : Array TypeId) (t : TypeId) (p : String) (af : Array Edge) (a : Act) (w : World) (K : Act → World → Prop) (Q : Exit → Act → World → Prop) :
    Oper.wpIn F n P { dst := d, op := .call { callee := .builtin .append, args := xs, argTypes := ts }, type := t, pos := p, after := af, guard := none } a w K Q = AppIn F n P d xs ts t p af a w K Q := rfl
theorem wpIn_at_zero {F : Fence} {m : Nat} {P : Program} {o : Oper} {l : List Oper} {h : 0 < (o :: l).toArray.size} {a : Act} {w : World} {K : Act → World → Prop} {Q : Exit → Act → World → Prop} : Oper.wpIn F m P ((o :: l).toArray[0]'h) a w K Q = Oper.wpIn F m P o a w K Q := rfl
theorem wpIn_at_succ {F : Fence} {m : Nat} {P : Program} {o : Oper} {l : List Oper} {n : Nat} {h : n + 1 < (o :: l).toArray.size} {a : Act} {w : World} {K : Act → World → Prop} {Q : Exit → Act → World → Prop} :
    Oper.wpIn F m P ((o :: l).toArray[n + 1]'h) a w K Q = Oper.wpIn F m P (l.toArray[n]'(by simpa using h)) a w K Q := rfl
theorem appIn32 {F : Fence} {n : Nat} {d : Option Tmp} {t : TypeId} {p : String} {af : Array Edge} {a : Act} {K : Act → World → Prop} {Q : Exit → Act → World → Prop} {w : World} (s x : Operand)
    (B : Nat) (v : Value) (l : List Nat) (hs : a.eval s = v) (hown : Own w B 36 .u32 v l)
    (ad : Addr) (m c : Nat) (news : List Nat) (hx : a.eval x = .slice (some ad) m c) (hm : news.length = m)
    (hc : ∀ j u, (ints .u32 news)[j]? = some u → w.cell? (ad.add j) = some u) (hb : l.length + m ≤ 35184372088832) (hB : B ≤ w.heap.size)
    (h : ∀ v' w', Own w' B 36 .u32 v' (l ++ news) → w.grownBy w' v.ownBlock → Below B w w' → K (a.put d v') w') :
    AppIn F n Tryd.prog d #[s, x] #[22, 22] t p af a w K Q := by
  obtain ⟨i, hi, hz0, hz1, hz2⟩ := info_parts inf32
  obtain ⟨v', w', hrun, r1, r2, r3⟩ := run_append_own (P := Tryd.prog) w B 22 t 36 i (.int .u32 0) 1 4 Tryd.underlying22 hi hz0 hz1 hz2 rfl (by decide) v l.length (ints .u32 l) hown ad m c (ints .u32 news) (by rw [ints_length]; omega) hc (by
    intro u hu
    obtain ⟨y, _, rfl⟩ := List.mem_map.1 hu
    rfl) (by unfold maxLen; omega) (by omega) hB
  unfold AppIn Oper.wpIn
  refine ⟨?_, ?_⟩
  · simp [Oper.about, resolve, Target.leads, Sem.run_pure]
  · rw [Oper.semAt_plain F _ _ (by intro c hc'; cases hc')]
    simp [execOp, resolve, invoke, builtin, hs, hx, hrun, Result.andThen]
    refine h v' w' ?_ r2 (hown.below r2 hB)
    unfold Own
    rw [ints_app, List.length_append, hm]
    exact r1

/-- The limbs, and what is carried, behind so many steps. -/
def cr (σ : Nat → Nat → Nat → Nat × Nat) (ps : List Two) : List Nat × Nat := ps.foldl (fun (o : List Nat × Nat) p => (o.1 ++ [(σ p.1.1 p.1.2 o.2).1], (σ p.1.1 p.1.2 o.2).2)) ([], 0)
theorem cr_nil (σ : Nat → Nat → Nat → Nat × Nat) : cr σ [] = ([], 0) := rfl
theorem cr_snoc (σ : Nat → Nat → Nat → Nat × Nat) (ps : List Two) (p : Two) : cr σ (ps ++ [p]) = ((cr σ ps).1 ++ [(σ p.1.1 p.1.2 (cr σ ps).2).1], (σ p.1.1 p.1.2 (cr σ ps).2).2) := by simp [cr]
theorem cr_len (σ : Nat → Nat → Nat → Nat × Nat) (ps : List Two) : (cr σ ps).1.length = ps.length := by
  have : ∀ (ps : List Two) (o : List Nat × Nat), (ps.foldl (fun (o : List Nat × Nat) p => (o.1 ++ [(σ p.1.1 p.1.2 o.2).1], (σ p.1.1 p.1.2 o.2).2)) o).1.length = o.1.length + ps.length := by
    intro ps
    induction ps with
    | nil => intro o; rfl
    | cons p ps ih => intro o; rw [List.foldl_cons, ih]; simp; omega
  have h := this ps ([], 0)
  rw [List.length_nil, Nat.zero_add] at h
  exact h

/-- Between two rounds: the row, its box, what is carried. -/
def RowAt (H f : Nat) (σ : Nat → Nat → Nat → Nat × Nat) (va vb : Value) (w : World) (pre : List Two) (W : World) : Prop :=
  (∃ v, Boxed W (H + 4) 22 v ∧ Own W (H + 2) 36 .u32 v (cr σ pre).1) ∧ Boxed W (H + 1) 36 (.int .u32 (cr σ pre).2) ∧
    Boxed W H 80 (.func (.func f) #[] #[]) ∧
    Boxed W (H + 2) 94 (.func (.func 91) #[] #[.pointer (some ⟨H, 0, none⟩), .pointer (some ⟨H + 1, 0, none⟩)]) ∧
    Boxed W (H + 5) 22 va ∧ Boxed W (H + 6) 22 vb ∧ Below H w W

theorem rowAt_own (H f : Nat) (σ : Nat → Nat → Nat → Nat × Nat) (va vb : Value) (w : World) (B : Nat) (hH : H ≤ w.heap.size) (hB : H ≤ B) : OwnFrom B (RowAt H f σ va vb w) :=
  OwnFrom.and (Own.from (fun s W W' row ⟨v, h1, h2⟩ hg hr => by
      obtain ⟨v', k1, k2, _⟩ := holdsRow_own (H + 2) (H + 4) 22 36 1 (fun s => (cr σ s).1.length) (fun s => ints .u32 (cr σ s).1) (fun _ _ => True) s W W' row ⟨v, h1, h2, trivial⟩ hg hr
      exact ⟨v', k1, k2⟩) _)
    (OwnFrom.and (Own.from (boxed_own _ _ (fun s => .int .u32 (cr σ s).2)) _) (OwnFrom.and (Own.from (boxed_own _ _ (fun _ => _)) _) (OwnFrom.and (Own.from (boxed_own _ _ (fun _ => _)) _) (OwnFrom.and (Own.from (boxed_own _ _ (fun _ => _)) _) (OwnFrom.and (Own.from (boxed_own _ _ (fun _ => _)) _) (ownFrom_below hH hB))))))

/-- Whatever a step makes are limbs, and a carry. -/
def Tame (σ : Nat → Nat → Nat → Nat × Nat) : Prop := ∀ x y c, x < 4294967296 → y < 4294967296 → c ≤ 1 → (σ x y c).1 < 4294967296 ∧ (σ x y c).2 ≤ 1
theorem cr_tame (σ : Nat → Nat → Nat → Nat × Nat) (hσ : Tame σ) (ps : List Two) : Lim (cr σ ps).1 ∧ (cr σ ps).2 ≤ 1 := by
  have : ∀ (ps : List Two) (o : List Nat × Nat), Lim o.1 ∧ o.2 ≤ 1 → Lim (ps.foldl (fun (o : List Nat × Nat) p => (o.1 ++ [(σ p.1.1 p.1.2 o.2).1], (σ p.1.1 p.1.2 o.2).2)) o).1 ∧ (ps.foldl (fun (o : List Nat × Nat) p => (o.1 ++ [(σ p.1.1 p.1.2 o.2).1], (σ p.1.1 p.1.2 o.2).2)) o).2 ≤ 1 := by
    intro ps
    induction ps with
    | nil => intro o h; exact h
    | cons p ps ih =>
      intro o h
      rw [List.foldl_cons]
      obtain ⟨h1, h2⟩ := hσ p.1.1 p.1.2 o.2 p.2.1 p.2.2 h.2
      exact ih _ ⟨h.1.snoc h1, h2⟩
  exact this ps ([], 0) ⟨Lim.nil, by simp⟩

theorem boxed_dr {W : World} {B : Nat} {t : TypeId} {v : Value} (h : Boxed W B t v) : Boxed W.drew B t v := h
theorem round_app {F : Fence} {n : Nat} {d : Option Tmp} {t : TypeId} {p : String} {af : Array Edge} {a : Act} {K : Act → World → Prop} {Q : Exit → Act → World → Prop} {s x : Operand}
    {W : World} {H c z : Nat} {v : Value} {o : List Nat} (hv : Boxed W (H + 4) 22 v) (ho : Own W (H + 2) 36 .u32 v o) (hlen : o.length ≤ 10000000000) (hH : H + 2 ≤ W.heap.size)
    (hs : a.eval s = v) (hx : a.eval x = .slice (some ⟨W.heap.size, 0, none⟩) 1 1)
    (h : ∀ g cap w1, Hid (Boxed w1 (H + 4) 22 v ∧ Own w1 (H + 2) 36 .u32 (.slice (some ⟨g, 0, none⟩) (o.length + 1) cap) (o ++ [z]) ∧
        (((W.setCell ⟨H + 1, 0, none⟩ (.int .u32 (c : Nat))).alloc (.cells #[.int .u32 (z : Nat)] 36)).drew).grownBy w1 v.ownBlock) → K (a.put d (.slice (some ⟨g, 0, none⟩) (o.length + 1) cap)) w1) :
    AppIn F n Tryd.prog d #[s, x] #[22, 22] t p af a (((W.setCell ⟨H + 1, 0, none⟩ (.int .u32 (c : Nat))).alloc (.cells #[.int .u32 (z : Nat)] 36)).drew) K Q := by
  have hown : Own (((W.setCell ⟨H + 1, 0, none⟩ (.int .u32 (c : Nat))).alloc (.cells #[.int .u32 (z : Nat)] 36)).drew) (H + 2) 36 .u32 v o :=
    Own.dr (World.ownsRow.alloc (ownsRow_setCell_below ho (by simp) _) _)
  have hcell : ∀ j u, (ints .u32 [z])[j]? = some u → (((W.setCell ⟨H + 1, 0, none⟩ (.int .u32 (c : Nat))).alloc (.cells #[.int .u32 (z : Nat)] 36)).drew).cell? ((⟨W.heap.size, 0, none⟩ : Addr).add j) = some u := by
    have := cell_one_new (W.setCell ⟨H + 1, 0, none⟩ (.int .u32 (c : Nat))) (.int .u32 (z : Nat)) 36
    simp only [World.size_setCell] at this
    exact this
  refine appIn32 s x (H + 2) v o hs hown _ 1 1 [z] hx rfl hcell (by omega) ?_ ?_
  · simp; omega
  · intro v' w1 ho1 hg hb
    obtain ⟨g, cap, rfl⟩ := ownsRow_succ (k := o.length) (by simpa [Own] using ho1)
    refine h g cap w1 ⟨?_, ho1, hg⟩
    exact (boxed_dr ((hv.other (B' := H + 1) (by omega) _).alloc _)).kept hg (hv.not_row (by decide) ho)

theorem round_end {H f c' z : Nat} {σ : Nat → Nat → Nat → Nat × Nat} {va vb v : Value} {w W w1 : World} {pre : List Two} {p : Two} {g cap : Nat} (hH : H = w.heap.size)
    (h : Hid (Boxed w1 (H + 4) 22 v ∧ Own w1 (H + 2) 36 .u32 (.slice (some ⟨g, 0, none⟩) ((cr σ pre).1.length + 1) cap) ((cr σ pre).1 ++ [z]) ∧
        (((W.setCell ⟨H + 1, 0, none⟩ (.int .u32 (c' : Nat))).alloc (.cells #[.int .u32 (z : Nat)] 36)).drew).grownBy w1 v.ownBlock))
    (hz : z = (σ p.1.1 p.1.2 (cr σ pre).2).1) (hc' : c' = (σ p.1.1 p.1.2 (cr σ pre).2).2)
    (hv : Boxed W (H + 4) 22 v) (ho : Own W (H + 2) 36 .u32 v (cr σ pre).1) (hc : Boxed W (H + 1) 36 (.int .u32 (cr σ pre).2)) (hf : Boxed W H 80 (.func (.func f) #[] #[]))
    (hd : Boxed W (H + 2) 94 (.func (.func 91) #[] #[.pointer (some ⟨H, 0, none⟩), .pointer (some ⟨H + 1, 0, none⟩)])) (hp : Boxed W (H + 5) 22 va ∧ Boxed W (H + 6) 22 vb) (hB : Below H w W) :
    KeepsOthers W (w1.setCell ⟨H + 4, 0, none⟩ (.slice (some ⟨g, 0, none⟩) ((cr σ pre).1.length + 1) cap)) ∧ KpP H (H + 5) W (w1.setCell ⟨H + 4, 0, none⟩ (.slice (some ⟨g, 0, none⟩) ((cr σ pre).1.length + 1) cap)) ∧
      RowAt H f σ va vb w (pre ++ [p]) (w1.setCell ⟨H + 4, 0, none⟩ (.slice (some ⟨g, 0, none⟩) ((cr σ pre).1.length + 1) cap)) := by
  obtain ⟨h1, h2, hg⟩ := h.out
  have keep : ∀ {B t u}, Boxed W B t u → B ≠ H + 1 → B ≠ H + 4 → some B ≠ v.ownBlock → Boxed (w1.setCell ⟨H + 4, 0, none⟩ (.slice (some ⟨g, 0, none⟩) ((cr σ pre).1.length + 1) cap)) B t u := fun hb n1 n2 n3 =>
    ((boxed_dr ((hb.other n1 _).alloc _)).kept hg n3).other n2 _
  have nr : ∀ {B t u}, Boxed W B t u → t ≠ 36 → some B ≠ v.ownBlock := fun hb ht => hb.not_row ht ho
  have hrowlt : ∀ k, v.ownBlock = some k → H + 2 ≤ k := fun k hk => ho.base k hk
  have hbel : Below H W (w1.setCell ⟨H + 4, 0, none⟩ (.slice (some ⟨g, 0, none⟩) ((cr σ pre).1.length + 1) cap)) := by
    have e1 : Below H W (((W.setCell ⟨H + 1, 0, none⟩ (.int .u32 (c' : Nat))).alloc (.cells #[.int .u32 (z : Nat)] 36)).drew) :=
      (((Below.refl H W).setCell (p := ⟨H + 1, 0, none⟩) (by show H ≤ H + 1; omega) _).alloc (by simp; have := hB.size; omega) _).drew
    exact (e1.grown hg (by simp; have := hB.size; omega) (fun k hk => by have := hrowlt k hk; omega)).setCell (p := ⟨H + 4, 0, none⟩) (by show H ≤ H + 4; omega) _
  have k5 := keep hp.1 (by omega) (by omega) (nr hp.1 (by decide))
  have k6 := keep hp.2 (by omega) (by omega) (nr hp.2 (by decide))
  refine ⟨?_, ⟨hbel, k5.trans hp.1.symm, k6.trans hp.2.symm⟩, ⟨⟨_, h1.set _, ?_⟩, ?_, keep hf (by omega) (by omega) (nr hf (by decide)), keep hd (by omega) (by omega) (nr hd (by decide)), k5, k6, hB.trans hbel⟩⟩
  · refine ((((KeepsOthers.setCell W _ _).trans (KeepsOthers.alloc _ _)).trans (KeepsOthers.drew _)).trans (KeepsOthers.of_grownBy hg ?_)).trans (KeepsOthers.setCell _ _ _)
    intro j o hj hh
    rcases (Own.dr (World.ownsRow.alloc (ownsRow_setCell_below ho (a := ⟨H + 1, 0, none⟩) (by simp) (.int .u32 (c' : Nat))) (.cells #[.int .u32 (z : Nat)] 36))).2 with ⟨rfl, _⟩ | ⟨g0, cap0, cur0, rfl, _, hgb, _⟩
    · simp [Value.ownBlock] at hj
    · obtain rfl : g0 = j := by simpa [Value.ownBlock] using hj
      rw [hh] at hgb
      injection hgb with hgb
      rw [hgb]
      rfl
  · rw [cr_snoc, ← hz]
    exact World.ownsRow.kept (row := some (H + 4)) h2 (grownBy_setCell' w1 (H + 4) _) (.inr (h1.not_row (by decide) h2).symm)
  · rw [cr_snoc, ← hc']
    exact ((boxed_dr ((hc.set _).alloc _)).kept hg (fun e => by have := hrowlt _ e.symm; omega)).other (by omega) _

/-- Behind the turn of a block that is no cells. -/
theorem Rd.put {w : World} {k v l} (h : Rd w k v l) {D : Nat} {o : Obj} (o' : Obj) (ho : w.heap[D]? = some o) (hc : o.isCells = false) : Rd (w.putObj D o') k v l := by
  obtain ⟨A, c, e, hc', hz, hr⟩ := h
  refine ⟨A, c, e, hc', hz, fun h0 => ?_⟩
  obtain ⟨ad, e, hr⟩ := hr h0
  exact ⟨ad, e, fun j hj => cell_kept (hr j hj) (grownBy_putObj' w D o') (fun r e => by cases e; exact ⟨o, ho, hc⟩)⟩
theorem IsN.put {w : World} {v n} (h : IsN w v n) {D : Nat} {o : Obj} (o' : Obj) (ho : w.heap[D]? = some o) (hc : o.isCells = false) : IsN (w.putObj D o') v n := by
  obtain ⟨l, h, k⟩ := h
  exact ⟨l, h.put o' ho hc, k⟩
end Go.Proofs.YtffkedepffjobaaDoor

namespace Go.Proofs.YtffkedepffjobaaDoor
open Go.RowKit
set_option maxRecDepth 100000

attribute [local go_sem] Oper.semAt_some
attribute [local go_sem ↓] appIn_mark wpIn_at_zero wpIn_at_succ

/-- The world where the loop of nat.all begins. -/
def allW (f N : Nat) (va vb : Value) (w : World) : World :=
  (((((((w.alloc (.cells #[.func (.func f) #[] #[]] 80)).alloc (.cells #[.int .u32 0] 36)).alloc
    (.cells #[.func (.func 91) #[] #[.pointer (some ⟨w.heap.size, 0, none⟩), .pointer (some ⟨w.heap.size + 1, 0, none⟩)]] 94)).alloc (.cells (madeCells #[.int .u32 0] N) 36)).alloc
    (.cells #[.slice (some ⟨w.heap.size + 3, 0, none⟩) 0 N] 22)).alloc (.cells #[va] 22)).alloc (.cells #[vb] 22)).alloc (.cells #[.int .i64 N] 3)
theorem allW_size (f N : Nat) (va vb : Value) (w : World) : (allW f N va vb w).heap.size = w.heap.size + 8 := by simp [allW]
theorem allW_below (f N : Nat) (va vb : Value) (w : World) : Below w.heap.size w (allW f N va vb w) := by
  unfold allW
  repeat (first | exact Below.refl _ _ | apply up_alloc)
theorem heap_alloc' (w : World) (o : Obj) : (w.alloc o).heap = w.heap.push o := rfl
theorem allW_args (f N : Nat) (va vb : Value) (w : World) : Boxed (allW f N va vb w) (w.heap.size + 5) 22 va ∧ Boxed (allW f N va vb w) (w.heap.size + 6) 22 vb ∧ Boxed (allW f N va vb w) (w.heap.size + 7) 3 (.int .i64 N) := by
  refine ⟨?_, ?_, ?_⟩ <;> (unfold Boxed allW; simp only [heap_alloc', Array.getElem?_push, Array.size_push, Nat.add_assoc, Nat.reduceAdd]; simp)
theorem allW_row (f N : Nat) (hN : N ≤ 10000000000) (σ : Nat → Nat → Nat → Nat × Nat) (va vb : Value) (w : World) : RowAt w.heap.size f σ va vb w [] (allW f N va vb w) := by
  refine ⟨⟨.slice (some ⟨w.heap.size + 3, 0, none⟩) 0 N, ?_, ⟨?_, .inr ⟨w.heap.size + 3, N, madeCells #[.int .u32 0] N, ?_, ?_, ?_, ?_, ?_, ?_, ?_⟩⟩⟩, ?_, ?_, ?_, (allW_args f N va vb w).1, (allW_args f N va vb w).2.1, allW_below f N va vb w⟩
  · unfold Boxed allW; simp only [heap_alloc', Array.getElem?_push, Array.size_push, Nat.add_assoc, Nat.reduceAdd]; simp
  · simp [cr_nil, ints]
  · simp [cr_nil]
  · omega
  · unfold allW; simp only [heap_alloc', Array.getElem?_push, Array.size_push, Nat.add_assoc, Nat.reduceAdd]; simp
  · simp [cr_nil]
  · unfold maxLen; omega
  · simp [size_madeCells]
  · simp [cr_nil, ints]
  · unfold Boxed allW; simp only [heap_alloc', Array.getElem?_push, Array.size_push, Nat.add_assoc, Nat.reduceAdd]; simp [cr_nil]
  · unfold Boxed allW; simp only [heap_alloc', Array.getElem?_push, Array.size_push, Nat.add_assoc, Nat.reduceAdd]; simp
  · unfold Boxed allW; simp only [heap_alloc', Array.getElem?_push, Array.size_push, Nat.add_assoc, Nat.reduceAdd]; simp

set_option maxHeartbeats 4000000 in
theorem all_any (f : Nat) (σ : Nat → Nat → Nat → Nat × Nat) (hσ : Steps32 f σ) (hf : f = 70 ∨ f = 72) (hT : Tame σ) (va vb : Value) (la lm : List Nat) (w : World)
    (ha : Rd w .u32 va la) (hb : Rd w .u32 vb lm) (hla : Lim la) (hlm : Lim lm) (bla : la.length ≤ 281474976710656) (blm : lm.length ≤ 281474976710656) (N : Nat) (hN : N ≤ 10000000000) :
    Calls Tryd.prog 69 #[va, vb, .int .i64 N, .func (.func f) #[] #[]] w (AnsN w (val (cr σ (twos la lm hla hlm N)).1)) := by
  have HRa := Lib.hid ha
  have HRb := Lib.hid hb
  obtain ⟨A, c, rfl, _⟩ := ha
  obtain ⟨A', c', rfl, _⟩ := hb
  refine (callsIn_wide (n := 3)).1 ?_
  refine callsIn_of_wp_marks Tryd.func69 rfl trivial ?_ rfl
  simp only [Tryd.ntmps69, List.size_toArray, List.length_cons, List.length_nil, Nat.reduceAdd, Nat.reduceSub, Array.replicate_succ, Array.replicate_zero, List.push_toArray, List.append_toArray, List.nil_append, List.cons_append]
  have hmk : ∀ w, (Instr.makeSlice 22 (.int .i64 0) (.int .i64 (N : Int))).run Tryd.prog w = .ok (.slice (some ⟨w.heap.size, 0, none⟩) 0 N) (w.alloc (.cells (madeCells #[.int .u32 0] N) 36)) := fun w => by
    obtain ⟨i, hi, hz0, hz1, hz2⟩ := info_parts inf32
    have hr := run_make (P := Tryd.prog) w 22 36 i (.int .u32 0) Tryd.underlying22 hi hz0 .i64 .i64 0 N (by omega) (by omega) (by rw [hz2]; omega) (by omega)
    rw [hz1] at hr
    simpa [Value.cells] using hr
  gi_wp2_with (first | (refine ⟨trivial, ?_⟩; gi_at_call 81; refine (callsIn_wide.2 (carried_any f _)).mono ?_; rintro e w1 ⟨rfl, rfl⟩) | (refine ⟨trivial, ?_⟩; gi_at_call 82; refine (callsIn_wide.2 (pairs_any _ _ _ _ _ _ _ _)).mono ?_; rintro e w1 ⟨rfl, rfl⟩))
  simp only [Nat.add_assoc, Nat.reduceAdd]
  change Code.wpIn _ _ _ _ _ _ (allW f N (.slice A la.length c) (.slice A' lm.length c') w)
  have hs0 := allW_size f N (.slice A la.length c) (.slice A' lm.length c') w
  obtain ⟨ba, bb, bn⟩ := allW_args f N (.slice A la.length c) (.slice A' lm.length c') w
  have hr0 := allW_row f N hN σ (.slice A la.length c) (.slice A' lm.length c') w
  have hB0 := allW_below f N (.slice A la.length c) (.slice A' lm.length c') w
  generalize allW f N (.slice A la.length c) (.slice A' lm.length c') w = W0 at hs0 ba bb bn hr0 hB0 ⊢
  clear hmk
  refine wpIn_rangeFunc_ownF rfl (by decide) (gf := 92) (lb := #[.pointer (some ⟨w.heap.size + 7, 0, none⟩), .pointer (some ⟨w.heap.size + 5, 0, none⟩), .pointer (some ⟨w.heap.size + 6, 0, none⟩)]) rfl trivial (enters_of Tryd.func92 (by kernel_rfl) rfl)
    (encs := encT) (Kp := KpP w.heap.size (w.heap.size + 5)) (S := fun ys => ys = twos la lm hla hlm N) (Sp := fun _ => True) (N := N) (w0 := W0) ?seq ?kt ?kb (Below.refl _ _) (fun _ => rfl)
    (RowAt w.heap.size f σ (.slice A la.length c) (.slice A' lm.length c') w) (fun _ _ _ => False) (rowAt_own _ _ _ _ _ _ _ (Nat.le_refl _) (by omega)) (fun _ _ _ _ _ hs _ _ => hs) hr0
    (fun x => { tmps := #[.slice A la.length c, .slice A' lm.length c', .int .i64 N, .func (.func f) #[] #[], undef, undef, undef, undef, .slice none 0 0, .pointer (some ⟨w.heap.size + 2, 0, none⟩), .pointer (some ⟨w.heap.size + 4, 0, none⟩), .int .u32 x.1.1, .int .u32 x.1.2, .func (.func f) #[] #[], .func (.func 91) #[] #[.pointer (some ⟨w.heap.size, 0, none⟩), .pointer (some ⟨w.heap.size + 1, 0, none⟩)], .int .i64 N, .slice (some ⟨w.heap.size + 3, 0, none⟩) 0 N, .slice A la.length c, .slice A' lm.length c', .int .i64 N, .func (.func 92) #[] #[.pointer (some ⟨w.heap.size + 7, 0, none⟩), .pointer (some ⟨w.heap.size + 5, 0, none⟩), .pointer (some ⟨w.heap.size + 6, 0, none⟩)], .int .u32 x.1.1, .int .u32 x.1.2, undef, undef, undef, undef, undef, undef, undef, undef, undef], defers := [] }) ?assign ?body ?done ?stop
  case seq =>
    intro l J Jx W hW hJ hJx hY h0
    have hWH : Below w.heap.size w W := hB0.trans (hW.mono (by omega))
    exact pairs1 2 (by omega) l (w.heap.size + 5) w.heap.size N (by omega) _ _ la lm hla hlm bla blm J Jx hY W
      ((hW.cell (p := ⟨w.heap.size + 5 + 2, 0, none⟩) (by dsimp only; omega)).trans bn.cell) ((hW.cell (p := ⟨w.heap.size + 5, 0, none⟩) (by dsimp only; omega)).trans ba.cell) ((hW.cell (p := ⟨w.heap.size + 5 + 1, 0, none⟩) (by dsimp only; omega)).trans bb.cell)
      (fun X hX => HRa.out.up (hWH.trans hX)) (fun X hX => HRb.out.up (hWH.trans hX))
      (fun pre X h => hJ pre X X.drew none h ⟨rfl, rfl, rfl, Nat.le_refl _, fun _ _ _ => rfl⟩ (fun r e => by cases e)) h0
  case kt =>
    rintro X Y Z ⟨h1, h2, h3⟩ ⟨k1, k2, k3⟩
    exact ⟨h1.trans k1, k2.trans h2, k3.trans h3⟩
  case kb =>
    intro W l o o' hl ho h1 h2
    exact ⟨belowK_b (by omega) W l o o' hl ho h1 h2, World.putObj_heap_other (by omega), World.putObj_heap_other (by omega)⟩
  case assign =>
    intro l x W K hK
    simp only [encT]
    gi_wp2
    exact hK
  case body =>
    rintro l pre x W ⟨⟨v, hv, hrow⟩, hc, hfb, hd, hpa, hpb, hB⟩ hlt
    have hmix : Tryd.prog.follows .mixedOrders = true := by kernel_rfl
    have hcr := cr_tame σ hT pre
    have hlen : (cr σ pre).1.length ≤ 10000000000 := by rw [cr_len]; omega
    obtain ⟨x, hx1, hx2⟩ := x
    have c1 := hv.cell
    have c2 := hd.cell
    have f1 := hv.frozen
    have c3 : ∀ u, (W.setCell ⟨w.heap.size + 1, 0, none⟩ u).cell? ⟨w.heap.size + 4, 0, none⟩ = some v := fun u => (hv.other (by omega) u).cell
    have c4 : ∀ u o, ((W.setCell ⟨w.heap.size + 1, 0, none⟩ u).alloc o).cell? ⟨w.heap.size + 4, 0, none⟩ = some v := fun u o => ((hv.other (by omega) u).alloc o).cell
    have HV := Lib.hid hv
    have HO := Lib.hid hrow
    have HC := Lib.hid hc
    have HF := Lib.hid hfb
    have HD := Lib.hid hd
    have HX := Lib.hid (And.intro hx1 hx2)
    have HR := Lib.hid hcr
    have HP := Lib.hid (And.intro hpa hpb)
    clear hv hrow hc hfb hd hcr hpa hpb
    gi_wp2
    gi_region_with_o ((first
      | (refine ⟨trivial, ?_⟩; gi_at_call 91; refine (CallsIn.inRound l (callsIn_wide.2 (carried1 f σ hσ hf x.1 x.2 (cr σ pre).2 w.heap.size (w.heap.size + 1) _ HX.out.1 HX.out.2 HR.out.2 (boxed_dr HF.out) (boxed_dr HC.out)))).mono ?_; rintro e w1 ⟨rfl, rfl⟩)
      | (refine round_app HV.out HO.out hlen (by have := HV.out.lt; omega) (by rfl) (by rfl) ?_; intro g' cap' w1 HW; have g1 := HW.out.1.cell; have g2 := HW.out.1.frozen)))
    all_goals
      gi_wp2
      exact round_end rfl HW rfl rfl HV.out HO.out HC.out HF.out HD.out HP.out hB
  case done =>
    rintro D ys W hD rfl ⟨⟨v, hv, hrow⟩, hc, hfb, hd, hpa, hpb, hB⟩ hK
    have hcr := cr_tame σ hT (twos la lm hla hlm N)
    have hlen : (cr σ (twos la lm hla hlm N)).1.length ≤ 10000000000 := by rw [cr_len]; simp [twos]; omega
    have c1 := hv.cell
    have HO := Lib.hid hrow
    have HB := Lib.hid hB
    have HR := Lib.hid hcr
    clear hv hc hfb hd hpa hpb hrow hcr
    gi_wp2_with (refine ⟨trivial, ?_⟩; gi_at_call 54; refine (callsIn_wide.2 (nat_Make _ _ _ HO.out.rd HR.out.1 (by omega))).mono ?_; rintro e w1 ⟨v1, rfl, hn1, hb1⟩)
    have hDlt : D < W.heap.size := (Array.getElem?_eq_some_iff.1 hK).1
    have hK1 : w1.heap[D]? = some (.deferred (some [])) := (hb1.block D hDlt).trans hK
    refine ⟨by simp, .inl ⟨_, _, rfl, run_takeDeferred hK1, ?_⟩⟩
    exact ⟨_, results_tmp rfl _ _ _, v1, rfl, hn1.put _ hK1 rfl, (up_then HB.out hb1).trans (belowK_b (w := w) (Nat.le_refl _) w1 D _ _ (by omega) hK1 rfl rfl)⟩
  case stop =>
    rintro D c pre W _ _ h _
    exact h.elim

end Go.Proofs.YtffkedepffjobaaDoor

namespace Go.Proofs.YtffkedepffjobaaDoor
open Go.RowKit
set_option maxRecDepth 100000

theorem take_lb (l : List Nat) (k : Nat) : val (l.take (k + 1)) = val (l.take k) + 2 ^ (32 * k) * lb l k := by
  by_cases h : k < l.length
  · rw [List.take_succ_eq_append_getElem h, val_snoc, List.length_take, Nat.min_eq_left (by omega)]
    simp [lb, h]
  · have h0 : lb l k = 0 := by simp [lb, show l.length ≤ k by omega]
    rw [List.take_of_length_le (by omega), List.take_of_length_le (by omega), h0, Nat.mul_zero, Nat.add_zero]

def σa (x y c : Nat) : Nat × Nat := ((x + y + c) % 4294967296, (x + y + c) / 4294967296)
def σs (x y c : Nat) : Nat × Nat := ((4294967296 + x - y - c) % 4294967296, if x < y + c then 1 else 0)
theorem σa_tame : Tame σa := fun x y c hx hy hc => by
  unfold σa
  exact ⟨Nat.mod_lt _ (by omega), by dsimp only; omega⟩
theorem σs_tame : Tame σs := fun x y c hx hy hc => by
  unfold σs
  refine ⟨Nat.mod_lt _ (by omega), ?_⟩
  dsimp only
  split <;> omega
theorem σa_steps : Steps32 70 σa := fun x y c w hx hy hc => bits_Add32 x y c w hx hy (by omega)
theorem σs_steps : Steps32 72 σs := fun x y c w hx hy hc => bits_Sub32 x y c w hx hy hc

theorem cr_add (la lm : List Nat) (h : Lim la) (k : Lim lm) (n : Nat) :
    val (cr σa (twos la lm h k n)).1 + 2 ^ (32 * n) * (cr σa (twos la lm h k n)).2 = val (la.take n) + val (lm.take n) := by
  induction n with
  | zero => simp [twos, cr, val]
  | succ n ih =>
    rw [twos_succ, cr_snoc, take_lb, take_lb]
    have hl : (cr σa (twos la lm h k n)).1.length = n := by rw [cr_len]; simp [twos]
    generalize cr σa (twos la lm h k n) = o at *
    dsimp only [two, σa]
    rw [val_snoc, hl, pow32_succ, Nat.mul_assoc]
    have e : ∀ s, 2 ^ (32 * n) * (s % 4294967296) + 2 ^ (32 * n) * (4294967296 * (s / 4294967296)) = 2 ^ (32 * n) * s := fun s => by rw [← Nat.mul_add, Nat.mod_add_div]
    have := e (lb la n + lb lm n + o.2)
    rw [Nat.mul_add, Nat.mul_add] at this
    omega
theorem cr_sub (la lm : List Nat) (h : Lim la) (k : Lim lm) (n : Nat) :
    val (cr σs (twos la lm h k n)).1 + val (lm.take n) = val (la.take n) + 2 ^ (32 * n) * (cr σs (twos la lm h k n)).2 := by
  induction n with
  | zero => simp [twos, cr, val]
  | succ n ih =>
    rw [twos_succ, cr_snoc, take_lb, take_lb]
    have hl : (cr σs (twos la lm h k n)).1.length = n := by rw [cr_len]; simp [twos]
    have hc := (cr_tame σs σs_tame (twos la lm h k n)).2
    have h1 := h.at n
    have h2 := k.at n
    generalize cr σs (twos la lm h k n) = o at *
    dsimp only [two, σs]
    rw [val_snoc, hl, pow32_succ]
    generalize hP : 2 ^ (32 * n) = P at *
    change lb la n < 4294967296 at h1
    change lb lm n < 4294967296 at h2
    generalize lb la n = x at *
    generalize lb lm n = y at *
    have hz : (4294967296 + x - y - o.2) % 4294967296 + (y + o.2) = x + 4294967296 * (if x < y + o.2 then 1 else 0) := by split <;> omega
    have := congrArg (fun t => P * t) hz
    simp only [Nat.mul_add] at this
    rw [Nat.mul_assoc]
    omega

theorem nat_Add (w : World) (va vb : Value) (x y : Nat) (ha : IsN w va x) (hb : IsN w vb y) (bx : bl x ≤ 100000000000) (by_ : bl y ≤ 100000000000) :
    Calls Tryd.prog 52 #[va, vb] w (AnsN w (x + y)) := by
  obtain ⟨l, hR, hl, rfl⟩ := ha
  obtain ⟨m, hR', hm, rfl⟩ := hb
  have hll : l.length ≤ 4000000000 := by have := hl.len; omega
  have hml : m.length ≤ 4000000000 := by have := hm.len; omega
  have HE : Hid (val (cr σa (twos l m hl.1 hm.1 (max l.length m.length + 1))).1 = val l + val m) := by
    have h := cr_add l m hl.1 hm.1 (max l.length m.length + 1)
    rw [List.take_of_length_le (by omega), List.take_of_length_le (by omega)] at h
    have h1 := val_lt hl.1
    have h2 := val_lt hm.1
    have h3 : 2 ^ (32 * l.length) ≤ 2 ^ (32 * max l.length m.length) := Nat.pow_le_pow_right (by omega) (by omega)
    have h4 : 2 ^ (32 * m.length) ≤ 2 ^ (32 * max l.length m.length) := Nat.pow_le_pow_right (by omega) (by omega)
    rw [pow32_succ] at h
    generalize (cr σa (twos l m hl.1 hm.1 (max l.length m.length + 1))).2 = c at h
    generalize 2 ^ (32 * max l.length m.length) = P at *
    cases c with
    | zero => rw [Nat.mul_zero] at h; exact h
    | succ c => rw [Nat.mul_succ] at h; exfalso; omega
  have HC := fun w (h : Rd w .u32 va l) (h' : Rd w .u32 vb m) => all_any 70 σa σa_steps (.inl rfl) σa_tame va vb l m w h h' hl.1 hm.1 (by omega) (by omega) (max l.length m.length + 1) (by omega)
  have HR := Lib.hid hR
  have HR' := Lib.hid hR'
  have HCH := Lib.hid HC
  clear HC bx by_
  obtain ⟨A, c, rfl, _⟩ := hR
  obtain ⟨A', c', rfl, _⟩ := hR'
  have hmx : max (l.length : Int) (m.length : Int) = ((max l.length m.length : Nat) : Int) := by omega
  go_enter Tryd.func52, Tryd.ntmps52
  go_wp2_with (go_at_call 69; refine (HCH.out _ HR.out HR'.out).mono ?_; rintro e w' ⟨v, rfl, h, hb⟩)
  go_ret
  exact ⟨_, rfl, by rw [← HE.out]; exact h, hb⟩

theorem cmp3_neg {x y : Nat} : cmp3 x y < 0 ↔ x < y := by
  unfold cmp3
  split <;> (try split) <;> omega

/-- A difference, or none. -/
def AnsSub (w : World) (x y : Nat) : Ending → World → Prop := Ans w fun v w' => ∃ u, v = .tuple #[u, .bool (decide (y ≤ x))] ∧ IsN w' u (x - y)

theorem nat_Sub (w : World) (va vb : Value) (x y : Nat) (ha : IsN w va x) (hb : IsN w vb y) (bx : bl x ≤ 100000000000) (by_ : bl y ≤ 100000000000) :
    Calls Tryd.prog 57 #[va, vb] w (AnsSub w x y) := by
  have HA := Lib.hid ha
  have HB := Lib.hid hb
  obtain ⟨l, hR, hl, rfl⟩ := ha
  obtain ⟨m, hR', hm, rfl⟩ := hb
  have hll : l.length ≤ 4000000000 := by have := hl.len; omega
  have hml : m.length ≤ 4000000000 := by have := hm.len; omega
  have HR := Lib.hid hR
  have HR' := Lib.hid hR'
  have HC := Lib.hid (nat_Cmp w va vb (val l) (val m) HA.out HB.out (by omega) (by omega))
  clear bx by_
  by_cases hlt : val l < val m
  · have hc : cmp3 (val l) (val m) < 0 := cmp3_neg.2 hlt
    have HL := Lib.hid hlt
    obtain ⟨A, c, rfl, _⟩ := hR
    obtain ⟨A', c', rfl, _⟩ := hR'
    clear hlt
    go_enter Tryd.func57, Tryd.ntmps57
    go_wp2_with (go_at_call 44; refine HC.out.mono ?_; rintro e w' ⟨rfl, hb⟩)
    go_ret2
    have := HL.out
    have hd : decide (val m ≤ val l) = false := decide_eq_false (by omega)
    exact ⟨_, rfl, ⟨_, by rw [hd]; rfl, by rw [Nat.sub_eq_zero_of_le (by omega)]; exact ⟨[], Rd.nil _ _ _ _ (fun _ => rfl), Nrm.nil, rfl⟩⟩, hb⟩
  · have hc : ¬ cmp3 (val l) (val m) < 0 := fun h => hlt (cmp3_neg.1 h)
    have HL := Lib.hid hlt
    have HE : Hid (val (cr σs (twos l m hl.1 hm.1 l.length)).1 = val l - val m) := by
      refine Lib.hid ?_
      have hmll : m.length ≤ l.length := Nat.le_of_not_lt (fun h => hlt (val_lt_of_len hl.1 hm h))
      have h := cr_sub l m hl.1 hm.1 l.length
      rw [List.take_of_length_le (by omega), List.take_of_length_le (by omega)] at h
      have h1 := val_lt (cr_tame σs σs_tame (twos l m hl.1 hm.1 l.length)).1
      rw [cr_len, show (twos l m hl.1 hm.1 l.length).length = l.length by simp [twos]] at h1
      generalize cr σs (twos l m hl.1 hm.1 l.length) = o at *
      generalize 2 ^ (32 * l.length) = P at *
      cases hc : o.2 with
      | zero => rw [hc, Nat.mul_zero] at h; omega
      | succ c =>
        rw [hc, Nat.mul_succ] at h
        have := Nat.zero_le (P * c)
        exfalso
        omega
    have HCH := Lib.hid (fun w (h : Rd w .u32 va l) (h' : Rd w .u32 vb m) => all_any 72 σs σs_steps (.inr rfl) σs_tame va vb l m w h h' hl.1 hm.1 (by omega) (by omega) l.length (by omega))
    obtain ⟨A, c, rfl, _⟩ := hR
    obtain ⟨A', c', rfl, _⟩ := hR'
    clear hlt
    go_enter Tryd.func57, Tryd.ntmps57
    go_wp2_with (first | (go_at_call 44; refine HC.out.mono ?_; rintro e w' ⟨rfl, hb⟩) | (go_at_call 69; refine (HCH.out _ (HR.out.up hb) (HR'.out.up hb)).mono ?_; rintro e w'' ⟨v, rfl, h, hb2⟩))
    go_ret2
    have := HL.out
    have hd : decide (val m ≤ val l) = true := decide_eq_true (by omega)
    exact ⟨_, rfl, ⟨_, by rw [hd]; rfl, by rw [← HE.out]; exact h⟩, up_then hb hb2⟩

end Go.Proofs.YtffkedepffjobaaDoor

namespace Go.Proofs.YtffkedepffjobaaDoor
open Go.RowKit
set_option maxRecDepth 100000

/-- make of so many noughts, and where they lie -/
theorem mk32e {ops : Array Oper} {rest : List Oper} {o : Oper} {a : Act} {Q : Exit → Act → World → Prop} {w : World} (hgd : o.guard = none) (x y : Operand)
    (ho : o.op = .makeSlice 22 x y) (l c : Nat) (hx : a.eval x = .int .i64 l) (hy : a.eval y = .int .i64 c) (hlc : l ≤ c) (hb : c ≤ 35184372088832) (B : Nat) (hB : B ≤ w.heap.size)
    (h : ∀ w', Own w' B 36 .u32 (.slice (some ⟨w.heap.size, 0, none⟩) l c) (List.replicate l 0) → Below w.heap.size w w' → w.heap.size < w'.heap.size → wpList Tryd.prog ops Q rest (a.put o.dst (.slice (some ⟨w.heap.size, 0, none⟩) l c)) w') :
    wpList Tryd.prog ops Q (o :: rest) a w := by
  obtain ⟨i, hi, hz0, hz1, hz2⟩ := info_parts inf32
  refine wpList_plain hgd fun K hK => ?_
  have hr := run_make (P := Tryd.prog) w 22 36 i (.int .u32 0) Tryd.underlying22 hi hz0 .i64 .i64 l c (by omega) (by omega) (by rw [hz2]; omega) (by omega)
  unfold Oper.wp execOp
  simp only [ho, Sem.run_bind, Sem.run_pure, Result.andThen_ok, hx, hy, hr]
  simp only [Int.toNat_natCast]
  refine hK _ _ (h _ ⟨?_, .inr ⟨w.heap.size, c, _, ?_, hB, heap_alloc_new w _, ?_, ?_, ?_, ?_⟩⟩ (up_alloc (Below.refl _ _) _) (by simp))
  · simp [ints]
  · simp
  · simp; omega
  · unfold maxLen; omega
  · simp [size_madeCells, hz1]
  · simp only [ints, List.map_replicate, List.length_replicate, Nat.mul_one, hz1, Value.cells, madeCells]
    apply List.ext_getElem
    · simp; omega
    · intro j h1 h2
      simp [Nat.mod_one]
end Go.Proofs.YtffkedepffjobaaDoor

namespace Go.Proofs.YtffkedepffjobaaDoor
open Go.RowKit
set_option maxRecDepth 100000

/-- So far: i rows, k limbs of the next one. -/
structure Sch (la lm out : List Nat) (i k c : Nat) : Prop where
  lim : Lim out
  len : out.length = la.length + lm.length
  car : c < 4294967296
  zero : ∀ j, i + lm.length ≤ j → lb out j = 0
  val : val out + 2 ^ (32 * (i + k)) * c = val (la.take i) * val lm + 2 ^ (32 * i) * (lb la i * val (lm.take k))

theorem sch_step {la lm out : List Nat} {i k c : Nat} (h : Sch la lm out i k c) (hi : i < la.length) (hk : k < lm.length) (hla : Lim la) (hlm : Lim lm) :
    Sch la lm (out.set (i + k) ((c + (lb la i * lb lm k + lb out (i + k))) % 4294967296)) i (k + 1) ((c + (lb la i * lb lm k + lb out (i + k))) / 4294967296) ∧ c + (lb la i * lb lm k + lb out (i + k)) < 18446744073709551616 := by
  have h1 := hla.at i
  have h2 := hlm.at k
  have h3 := h.lim.at (i + k)
  change lb la i < _ at h1
  change lb lm k < _ at h2
  change lb out (i + k) < _ at h3
  have h4 : lb la i * lb lm k ≤ 4294967295 * 4294967295 := Nat.mul_le_mul (by omega) (by omega)
  have hc := h.car
  have hlt : c + (lb la i * lb lm k + lb out (i + k)) < 18446744073709551616 := by omega
  refine ⟨⟨h.lim.set _ _ (Nat.mod_lt _ (by omega)), by rw [List.length_set]; exact h.len, by omega, ?_, ?_⟩, hlt⟩
  · intro j hj
    have := h.zero j hj
    unfold lb at this ⊢
    rw [List.getElem?_set_ne (by omega)]
    exact this
  · have hs := val_set out (i + k) ((c + (lb la i * lb lm k + lb out (i + k))) % 4294967296) (by rw [h.len]; omega)
    change _ + _ * lb out (i + k) = _ at hs
    rw [take_lb lm k, show i + (k + 1) = i + k + 1 by omega, pow32_succ]
    have hv := h.val
    have e1 : 2 ^ (32 * i) * (lb la i * (val (lm.take k) + 2 ^ (32 * k) * lb lm k)) = 2 ^ (32 * i) * (lb la i * val (lm.take k)) + 2 ^ (32 * (i + k)) * (lb la i * lb lm k) := by
      rw [Nat.mul_add, Nat.mul_add, Nat.mul_add 32 i k, Nat.pow_add]; congr 1; ac_rfl
    rw [e1, Nat.mul_assoc (2 ^ (32 * (i + k))) 4294967296]
    generalize 2 ^ (32 * (i + k)) = P at *
    generalize lb la i * lb lm k = q at *
    generalize lb out (i + k) = o at *
    have e2 : P * ((c + (q + o)) % 4294967296) + P * (4294967296 * ((c + (q + o)) / 4294967296)) = P * c + P * q + P * o := by
      rw [← Nat.mul_add, Nat.mod_add_div, Nat.mul_add, Nat.mul_add]; omega
    generalize val (List.take i la) * val lm = X1 at *
    generalize 2 ^ (32 * i) * (lb la i * val (List.take k lm)) = X2 at *
    omega
theorem sch_row {la lm out : List Nat} {i c : Nat} (h : Sch la lm out i lm.length c) (hi : i < la.length) :
    Sch la lm (out.set (i + lm.length) c) (i + 1) 0 0 := by
  refine ⟨h.lim.set _ _ h.car, by rw [List.length_set]; exact h.len, by omega, ?_, ?_⟩
  · intro j hj
    have := h.zero j (by omega)
    unfold lb at this ⊢
    rw [List.getElem?_set_ne (by omega)]
    exact this
  · have hs := val_set out (i + lm.length) c (by rw [h.len]; omega)
    change _ + _ * lb out (i + lm.length) = _ at hs
    rw [h.zero _ (Nat.le_refl _)] at hs
    have hv := h.val
    rw [List.take_of_length_le (Nat.le_refl lm.length)] at hv
    rw [take_lb la i, Nat.add_mul, List.take_zero, val_nil, Nat.mul_assoc]
    simp only [Nat.mul_zero, Nat.add_zero] at *
    omega
theorem sch_start (la lm : List Nat) : Sch la lm (List.replicate (la.length + lm.length) 0) 0 0 0 := by
  refine ⟨Lim.rep _, by simp, by omega, ?_, by simp [val_rep, val]⟩
  intro j _
  unfold lb
  rw [List.getElem?_replicate]
  split <;> rfl
theorem sch_end {la lm out : List Nat} (h : Sch la lm out la.length 0 0) : val out = val la * val lm := by
  have hv := h.val
  rw [List.take_of_length_le (Nat.le_refl _)] at hv
  simpa [val] using hv

set_option maxHeartbeats 1000000 in
theorem mul_School (w : World) (va vb : Value) (x y : Nat) (ha : IsN w va x) (hb : IsN w vb y) (bx : bl x ≤ 100000000000) (by_ : bl y ≤ 100000000000) :
    Calls Tryd.prog 61 #[va, vb] w (AnsN w (x * y)) := by
  obtain ⟨la, hR, hl, rfl⟩ := ha
  obtain ⟨lm, hR', hm, rfl⟩ := hb
  have hll : la.length ≤ 4000000000 := by have := hl.len; omega
  have hml : lm.length ≤ 4000000000 := by have := hm.len; omega
  have HL := Lib.hid (And.intro hl.1 hm.1)
  clear bx by_ hl hm
  obtain ⟨A, c, rfl, hc1, hz1, hr1⟩ := hR
  obtain ⟨A', c', rfl, hc2, hz2, hr2⟩ := hR'
  have HR1 := Lib.hid hr1
  have HR2 := Lib.hid hr2
  clear hr1 hr2 hz1 hz2
  go_enter Tryd.func61, Tryd.ntmps61
  go_wp2_with (at_make; refine mk32e rfl _ _ rfl (la.length + lm.length) (la.length + lm.length) (val_int (by omega)) (val_int (by omega)) (Nat.le_refl _) (by omega) w.heap.size (Nat.le_refl _) ?_; intro w1 ho hb1 hsz)
  have hB := hb1
  go_loopw [19] (fun i wr => ∃ (k : Nat) (out : List Nat), k ≤ la.length ∧ i = .int .i64 k ∧ Own wr w.heap.size 36 .u32 (.slice (some ⟨w.heap.size, 0, none⟩) (la.length + lm.length) (la.length + lm.length)) out ∧ Hid (Sch la lm out k 0 0) ∧ Below w.heap.size w wr) (fun i _ => la.length - (intOf i).toNat)
  case atStart => exact ⟨0, _, Nat.zero_le _, rfl, ho, sch_start la lm, hB⟩
  case round =>
    clear hB ho hb1
    obtain ⟨i, out, hi, rfl, ho, HS, hB⟩ := hrel
    by_cases hlt : i < la.length
    · obtain ⟨ad, rfl, hs⟩ := HR1.out (by omega)
      have hx := hs i hlt
      replace hx := (hB.cell (World.block_lt_of_cell? w _ hx)).trans hx
      clear hs
      have hli : i < la.length := hlt
      obtain ⟨x, hxe⟩ : ∃ x, x = lb la i := ⟨_, rfl⟩
      have hx2 : wr.cell? (ad.add i) = some (.int .u32 (x : Nat)) := by rw [hxe]; exact hx
      have hx32 : x < 4294967296 := by rw [hxe]; exact HL.out.1.at i
      have HX := Lib.hid hxe
      clear hx hxe
      go_wp2
      obtain ⟨wo, rfl⟩ : ∃ wo : World, wo = wr := ⟨_, rfl⟩
      go_loopw [8, 26] (fun cv kv wr => ∃ (k c : Nat) (out : List Nat), k ≤ lm.length ∧ kv = .int .i64 k ∧ cv = .int .u64 c ∧
          Own wr w.heap.size 36 .u32 (.slice (some ⟨w.heap.size, 0, none⟩) (la.length + lm.length) (la.length + lm.length)) out ∧ Hid (Sch la lm out i k c) ∧ Below w.heap.size w wr) (fun _ kv _ => lm.length - (intOf kv).toNat)
      case atStart => exact ⟨0, 0, out, Nat.zero_le _, rfl, rfl, ho, HS, hB⟩
      case round =>
        clear hB HS ho hx2
        obtain ⟨k, c, out, hk, rfl, rfl, ho, HS, hB⟩ := hrel
        have hol := HS.out.len
        have hcar := HS.out.car
        by_cases hltk : k < lm.length
        · obtain ⟨ad', rfl, hs'⟩ := HR2.out (by omega)
          obtain ⟨y, hye⟩ : ∃ y, y = lb lm k := ⟨_, rfl⟩
          have hy2 : wr.cell? (ad'.add k) = some (.int .u32 (y : Nat)) := by
            rw [hye]
            have hy := hs' k hltk
            exact (hB.cell (World.block_lt_of_cell? w _ hy)).trans hy
          have hy32 : y < 4294967296 := by rw [hye]; exact HL.out.2.at k
          obtain ⟨o, hoe⟩ : ∃ o, o = lb out (i + k) := ⟨_, rfl⟩
          have ho2 : wr.cell? ⟨w.heap.size, i + k, none⟩ = some (.int .u32 (o : Nat)) := by rw [hoe]; exact ho.cell hol.symm (i + k) (by omega)
          have ho32 : o < 4294967296 := by rw [hoe]; exact HS.out.lim.at _
          have hof := ho.froz hol.symm (i + k)
          obtain ⟨p, hp⟩ : ∃ p, p = x * y := ⟨_, rfl⟩
          have hp64 : p ≤ 18446744065119617025 := by have := Nat.mul_le_mul (show x ≤ 4294967295 by omega) (show y ≤ 4294967295 by omega); omega
          have hpi : (x : Int) * (y : Int) = (p : Int) := by rw [hp]; simp
          obtain ⟨s, hse⟩ : ∃ s, s = (c + (p + o)) % 4294967296 := ⟨_, rfl⟩
          obtain ⟨c', hce⟩ : ∃ c', c' = (c + (p + o)) / 4294967296 := ⟨_, rfl⟩
          have hsi : ((c : Int) + ((p : Int) + (o : Int))) % 4294967296 = (s : Int) := by omega
          have hci : ((c : Int) + ((p : Int) + (o : Int))) / 4294967296 = (c' : Int) := by omega
          have NX : Hid (Sch la lm (out.set (i + k) s) i (k + 1) c') := by
            have := (sch_step HS.out hli hltk HL.out.1 HL.out.2).1
            rw [← HX.out, ← hye, ← hoe, ← hp, ← hse, ← hce] at this
            exact this
          have HO := Lib.hid (ho.set hol.symm (i + k) s)
          clear hye hoe hp hse hce hs' ho hol
          go_wp2
          go_roundw
          case rel => exact ⟨k + 1, c', _, by omega, by go_num, rfl, HO.out, NX, hB.setCell (p := ⟨w.heap.size, i + k, none⟩) (Nat.le_refl _) _⟩
          case measure => simp [intOf]; omega
        · obtain rfl : k = lm.length := by omega
          have hof := ho.froz hol.symm (i + lm.length)
          have NX := Lib.hid (sch_row HS.out hli)
          have HO := Lib.hid (ho.set hol.symm (i + lm.length) c)
          have ho2 := ho.cell hol.symm (i + lm.length) (by omega)
          clear ho hol
          go_wp2
          go_roundw
          case rel => exact ⟨i + 1, _, by omega, by go_num, HO.out, NX, hB.setCell (p := ⟨w.heap.size, i + lm.length, none⟩) (Nat.le_refl _) _⟩
          case measure => simp [intOf]; omega
    · obtain rfl : i = la.length := by omega
      have HE := Lib.hid (sch_end HS.out)
      have hlo := HS.out.lim
      have hol := HS.out.len
      clear hlt
      go_wp2_with (go_at_call 54; refine (nat_Make _ _ _ ho.rd hlo (by omega)).mono ?_; rintro e w3 ⟨v3, rfl, h3, hb3⟩)
      go_ret
      exact ⟨_, rfl, by rw [← HE.out]; exact h3, up_then hB hb3⟩

end Go.Proofs.YtffkedepffjobaaDoor

namespace Go.Proofs.YtffkedepffjobaaDoor
open Go.RowKit
set_option maxRecDepth 100000

theorem val_drop {l : List Nat} (h : Lim l) (n : Nat) : val (l.drop n) = val l / 2 ^ (32 * n) := by
  by_cases hn : n ≤ l.length
  · have h1 := val_lt (h.take n)
    rw [List.length_take, Nat.min_eq_left hn] at h1
    rw [val_take_drop l n hn, Nat.add_mul_div_left _ _ (Nat.two_pow_pos _), Nat.div_eq_of_lt h1, Nat.zero_add]
  · have h1 := val_lt h
    rw [List.drop_of_length_le (by omega), Nat.div_eq_of_lt (Nat.lt_of_lt_of_le h1 (Nat.pow_le_pow_right (by omega) (by omega)))]
    rfl
theorem val_take {l : List Nat} (h : Lim l) (n : Nat) : val (l.take n) = val l % 2 ^ (32 * n) := by
  by_cases hn : n ≤ l.length
  · have h1 := val_lt (h.take n)
    rw [List.length_take, Nat.min_eq_left hn] at h1
    conv => rhs; rw [val_take_drop l n hn]
    rw [Nat.add_mul_mod_self_left, Nat.mod_eq_of_lt h1]
  · have h1 := val_lt h
    rw [List.take_of_length_le (by omega), Nat.mod_eq_of_lt (Nat.lt_of_lt_of_le h1 (Nat.pow_le_pow_right (by omega) (by omega)))]

theorem add_add (a : Addr) (i j : Nat) : (a.add i).add j = a.add (i + j) := by
  unfold Addr.add
  by_cases hi : i = 0
  · subst hi; simp
  · by_cases hj : j = 0
    · subst hj; simp
    · simp [hi, hj, Nat.add_assoc]
theorem Rd.cut {w : World} {k A c} {l : List Nat} (h : Rd w k (.slice A l.length c) l) (f t C : Nat) (hf : f ≤ t) (ht : t ≤ l.length) (hC : t - f ≤ C) (hz : A = none → C = 0) : Rd w k (.slice (Option.map (fun x => x.add f) A) (t - f) C) ((l.take t).drop f) := by
  obtain ⟨A', c', e, hc, _, hr⟩ := h
  cases e
  have hl : ((l.take t).drop f).length = t - f := by rw [List.length_drop, List.length_take, Nat.min_eq_left ht]
  refine ⟨_, C, by rw [hl], by omega, fun e => ?_, fun h0 => ?_⟩
  · cases A with
    | none => exact hz rfl
    | some a => cases e
  · rw [hl] at h0 ⊢
    obtain ⟨ad, rfl, hs⟩ := hr (by omega)
    refine ⟨ad.add f, rfl, fun j hj => ?_⟩
    rw [add_add, hs (f + j) (by omega)]
    simp [show f + j < t by omega]
theorem val_cut {l : List Nat} (h : Lim l) (f t : Nat) (hft : f ≤ t) : val ((l.take (min t l.length)).drop (min f l.length)) = val l / 2 ^ (32 * f) % 2 ^ (32 * (t - f)) := by
  have e : (l.take (min t l.length)).drop (min f l.length) = (l.drop f).take (t - f) := by
    apply List.ext_getElem?
    intro i
    simp only [List.getElem?_drop, List.getElem?_take]
    by_cases h1 : f + i < l.length
    · rw [Nat.min_eq_left (show f ≤ l.length by omega)]
      by_cases h2 : i < t - f
      · rw [if_pos (by omega), if_pos h2]
      · rw [if_neg (by omega), if_neg h2]
    · by_cases h2 : i < t - f
      · rw [if_pos h2]
        by_cases h3 : min f l.length + i < min t l.length
        · rw [if_pos h3, List.getElem?_eq_none (by omega), List.getElem?_eq_none (by omega)]
        · rw [if_neg h3, List.getElem?_eq_none (by omega)]
      · rw [if_neg h2]
        by_cases h3 : min f l.length + i < min t l.length
        · rw [if_pos h3, List.getElem?_eq_none (by omega)]
        · rw [if_neg h3]
  rw [e, val_take (h.drop f), val_drop h]

theorem mul_part (w : World) (va : Value) (x f t : Nat) (ha : IsN w va x) (bx : bl x ≤ 100000000000) (hft : f ≤ t) (_ht : t ≤ 100000000000) :
    Calls Tryd.prog 73 #[va, .int .i64 f, .int .i64 t] w (AnsN w (x / 2 ^ (32 * f) % 2 ^ (32 * (t - f)))) := by
  obtain ⟨l, hR, hl, rfl⟩ := ha
  have hll : l.length ≤ 4000000000 := by have := hl.len; omega
  have HR := Lib.hid hR
  have HL := Lib.hid hl.1
  obtain ⟨A, c, rfl, hc, hz, hr⟩ := hR
  clear bx hl hr
  have m1 : min (f : Int) (l.length : Int) = ((min f l.length : Nat) : Int) := by omega
  have m2 : min (t : Int) (l.length : Int) = ((min t l.length : Nat) : Int) := by omega
  obtain ⟨f', hf'⟩ : ∃ f', f' = min f l.length := ⟨_, rfl⟩
  obtain ⟨t', ht'⟩ : ∃ t', t' = min t l.length := ⟨_, rfl⟩
  rw [← hf'] at m1
  rw [← ht'] at m2
  have h1 : f' ≤ t' := by omega
  have h2 : t' ≤ c := by omega
  have HM := Lib.hid (And.intro hf' ht')
  have HF := Lib.hid hft
  clear hf' ht' hft
  have HV : Hid (val ((l.take t').drop f') = val l / 2 ^ (32 * f) % 2 ^ (32 * (t - f))) := by
    rw [HM.out.1, HM.out.2]; exact val_cut HL.out f t HF.out
  by_cases he : t' = f'
  · have HZ : Hid (val l / 2 ^ (32 * f) % 2 ^ (32 * (t - f)) = 0) := by
      have : (l.take t').drop f' = [] := List.drop_of_length_le (by rw [List.length_take]; omega)
      rw [← HV.out, this]; rfl
    subst he
    have HC := Lib.hid (nat_Make w (.slice A 0 0) [] (Rd.nil _ _ _ _ (fun _ => rfl)) Lim.nil (by simp))
    go_enter Tryd.func73, Tryd.ntmps73
    go_wp2_with (go_at_call 54; refine HC.out.mono ?_; rintro e w' ⟨v, rfl, h, hb⟩)
    go_ret
    exact ⟨_, rfl, by rw [HZ.out]; exact h, hb⟩
  · have HC := Lib.hid (nat_Make w _ _ (HR.out.cut f' t' (t' - f') h1 (by have := HM.out; omega) (Nat.le_refl _) (fun e => by have := hz e; omega)) ((HL.out.take _).drop _) (by simp; omega))
    go_enter Tryd.func73, Tryd.ntmps73
    go_wp2_with (go_at_call 54; refine HC.out.mono ?_; rintro e w' ⟨v, rfl, h, hb⟩)
    go_ret
    exact ⟨_, rfl, by rw [← HV.out]; exact h, hb⟩

theorem mul_less (w : World) (va vb : Value) (x y : Nat) (ha : IsN w va x) (hb : IsN w vb y) (bx : bl x ≤ 100000000000) (by_ : bl y ≤ 100000000000) :
    Calls Tryd.prog 78 #[va, vb] w (AnsN w (x - y)) := by
  have HC := Lib.hid (nat_Sub w va vb x y ha hb bx by_)
  go_enter Tryd.func78, Tryd.ntmps78
  go_wp2_with (go_at_call 57; refine HC.out.mono ?_; rintro e w' ⟨v, rfl, ⟨u, rfl, h⟩, hb⟩)
  go_ret
  exact ⟨_, rfl, h, hb⟩

end Go.Proofs.YtffkedepffjobaaDoor

