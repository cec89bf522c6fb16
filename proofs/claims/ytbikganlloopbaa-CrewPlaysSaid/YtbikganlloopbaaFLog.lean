/-
  What stands here: what a log's All and Len answer. Under no condition but that the world holds it.
-/
import Derived.Test.YtbikganlloopbaaFRow
import Derived.Test.YtbikganlloopbaaRangeA
namespace Go.Proofs.Ytbikganlloopbaa
set_option linter.unusedVariables false
set_option linter.unusedSimpArgs false
open Go.RowKit Go.Proofs
attribute [local go_sem] Oper.semAt_some
def encF (x : FiringV) : Array Value := #[x.v]
/-- a log in a world, its firings, and the function that is asked, in a box -/
structure GIn (T g A : Nat) (R : Value) (F : FuncId) (xs : List FiringV) (W : World) : Prop where
  blk : Blk W g #[R] 137
  row : FRow (· ≠ T) W R xs
  ask : Blk W A #[.func (.func F) #[] #[]] 105
  gT : g ≠ T
  aT : A ≠ T
theorem GIn.keep {T g A : Nat} {R : Value} {F : FuncId} {xs : List FiringV} {W W' : World} {S : Nat → Prop} (h : GIn T g A R F xs W) (k : Kept S W W') (hS : ∀ b, b < W.heap.size → b ≠ T → ¬ S b) : GIn T g A R F xs W' :=
  ⟨h.blk.kept k (hS _ h.blk.lt h.gT), h.row.keep k (fun b h1 hb => hS b hb h1), h.ask.kept k (hS _ h.ask.lt h.aT), h.gT, h.aT⟩
/-- a function that says yes to each firing -/
def AskYes (F : FuncId) : Prop := Callable Try.prog F ∧ ∀ (x : FiringV) (W : World), Calls Try.prog F #[x.v] W fun e w' => e = .returned (.bool true) ∧ Still W w'
set_option maxHeartbeats 1000000 in
set_option maxRecDepth 100000 in
theorem those_in (n : Nat) (hn : 1 ≤ n) (li T g A : Nat) (R : Value) (F : FuncId) (hF : AskYes F) (hFf : Fence.wide.fn F) (xs : List FiringV) (hbig : xs.length < 1000000) (tt : TypeId) (J Jx : List FiringV → World → Prop)
    (W : World) (hT : Blk W T #[.pointer (some ⟨g, 0, none⟩)] tt) (hQ : ∀ s B, J s B → GIn T g A R F xs B) (hJ : ∀ s B C, J s B → Only T B C → J s C) (hJx : ∀ s B C, Jx s B → Only T B C → Jx s C)
    (hY : ∀ pre x W1, J pre W1 → T < W1.heap.size → (pre ++ [x]) <+: xs → pre.length < xs.length → YieldAt Fence.wide (n - 1) Try.prog li (encF x) W1 fun e W' =>
      (e = .returned (.bool true) ∧ J (pre ++ [x]) W' ∧ Kept (· ≠ T) W1 W') ∨ (e = .returned (.bool false) ∧ Jx (pre ++ [x]) W'))
    (h0 : J [] W) :
    CallsIn Fence.wide n Try.prog 66 #[.func (.yield li) #[] #[], .pointer (some ⟨T, 0, none⟩), .pointer (some ⟨A, 0, none⟩)] W fun e W' => (∃ v, e = .returned v) ∧ ((∃ ys, ys = xs ∧ J ys W') ∨ (∃ pre, pre <+: xs ∧ Jx pre W')) := by
  have c0 : W.cell? ⟨T, 0, none⟩ = some (.pointer (some ⟨g, 0, none⟩)) := hT.cell 0
  have hTl := hT.lt
  have gin := hQ [] W h0
  have cg : W.cell? ⟨g, 0, none⟩ = some R := gin.blk.cell 0
  have hcf := fun args wx => run_callFunc (P := Try.prog) hF.1 args wx
  obtain ⟨a, cap, rfl, hlc, hm, -⟩ := gin.row
  refine callsIn_of_wp Try.func66 rfl trivial ?_ rfl
  simp only [Try.ntmps66, List.size_toArray, List.length_cons, List.length_nil, Nat.reduceAdd, Nat.reduceSub, Array.replicate_succ, Array.replicate_zero, List.push_toArray, List.append_toArray, List.nil_append, List.cons_append]
  have HF := Lib.hid hF
  clear gin
  gi_wp2
  gi_loopw [13] (fun p wr => ∃ j : Nat, p = .int .i64 j ∧ j ≤ xs.length ∧ J (xs.take j) wr ∧ T < wr.heap.size) (fun p _ => xs.length - (intOf p).toNat)
  case atStart => exact ⟨0, rfl, Nat.zero_le _, h0, hTl⟩
  case round =>
    obtain ⟨j, rfl, hj, hJj, hlt⟩ := hrel
    by_cases hjl : j < xs.length
    · obtain ⟨x, hx⟩ : ∃ x, xs[j]? = some x := ⟨_, List.getElem?_eq_getElem hjl⟩
      have htk : xs.take (j + 1) = xs.take j ++ [x] := by rw [List.take_add_one, hx]; rfl
      have hpre : xs.take j ++ [x] <+: xs := by rw [← htk]; exact List.take_prefix _ _
      have hpl : (xs.take j).length < xs.length := by rw [List.length_take]; omega
      have gin := hQ _ _ hJj
      obtain ⟨a', cap', hv, -, -, h9⟩ := gin.row
      simp only [Value.slice.injEq] at hv
      obtain ⟨rfl, -, rfl⟩ := hv
      obtain ⟨b, o, rfl, hbl, -, hc⟩ := h9 (by omega)
      have d0 : wr.cell? ⟨b, o + j * 4, none⟩ = some (.int .u64 x.id) := hc j x hx 0 (by omega)
      have d1 : wr.cell? ⟨b, o + j * 4 + 1, none⟩ = some (.int .u64 x.gen) := hc j x hx 1 (by omega)
      have d2 : wr.cell? ⟨b, o + j * 4 + 2, none⟩ = some (.int .u64 x.dl) := hc j x hx 2 (by omega)
      have d3 : wr.cell? ⟨b, o + j * 4 + 3, none⟩ = some (.int .u64 x.tick) := hc j x hx 3 (by omega)
      have ca : wr.cell? ⟨A, 0, none⟩ = some (.func (.func F) #[] #[]) := gin.ask.cell 0
      have HTK := Lib.hid htk
      have HPRE := Lib.hid hpre
      have HQ := Lib.hid hQ
      have HJJ := Lib.hid hJj
      have HJ := Lib.hid hJ
      have HY := Lib.hid hY
      have HPL := Lib.hid hpl
      obtain ⟨w1, hw1⟩ : ∃ w1, w1 = wr.alloc (.cells #[.int .u64 x.id, .int .u64 x.gen, .int .u64 x.dl, .int .u64 x.tick] 40) := ⟨_, rfl⟩
      obtain ⟨X, hX⟩ : ∃ X, X = wr.heap.size := ⟨_, rfl⟩
      have k1 : Still wr w1 := by rw [hw1]; exact (still_refl wr).alloc _
      have bx : Blk w1 X #[.int .u64 x.id, .int .u64 x.gen, .int .u64 x.dl, .int .u64 x.tick] 40 := by rw [hw1, hX]; exact Blk.new _ _ _
      have ca1 : (wr.alloc (.cells #[.int .u64 x.id, .int .u64 x.gen, .int .u64 x.dl, .int .u64 x.tick] 40)).cell? ⟨A, 0, none⟩ = some (.func (.func F) #[] #[]) := by rw [← hw1]; exact (gin.ask.still k1).cell 0
      have e0 : (wr.alloc (.cells #[.int .u64 x.id, .int .u64 x.gen, .int .u64 x.dl, .int .u64 x.tick] 40)).cell? ⟨wr.heap.size, 0, none⟩ = some (.int .u64 x.id) := by rw [← hw1, ← hX]; exact bx.cell 0
      have e1 : (wr.alloc (.cells #[.int .u64 x.id, .int .u64 x.gen, .int .u64 x.dl, .int .u64 x.tick] 40)).cell? ⟨wr.heap.size, 1, none⟩ = some (.int .u64 x.gen) := by rw [← hw1, ← hX]; exact bx.cell 1
      have e2 : (wr.alloc (.cells #[.int .u64 x.id, .int .u64 x.gen, .int .u64 x.dl, .int .u64 x.tick] 40)).cell? ⟨wr.heap.size, 2, none⟩ = some (.int .u64 x.dl) := by rw [← hw1, ← hX]; exact bx.cell 2
      have e3 : (wr.alloc (.cells #[.int .u64 x.id, .int .u64 x.gen, .int .u64 x.dl, .int .u64 x.tick] 40)).cell? ⟨wr.heap.size, 3, none⟩ = some (.int .u64 x.tick) := by rw [← hw1, ← hX]; exact bx.cell 3
      have HW1 := Lib.hid hw1
      have HX := Lib.hid hX
      clear htk hpre hc hx hQ hJx h9 hw1 hX hJ hY hJj hpl
      gi_wp2_with fail
      refine callsIn_wide.2 ((HF.out.2 x _).mono ?_)
      rintro e w2 ⟨rfl, k2⟩
      rw [← HW1.out] at k2
      have hXl := bx.lt
      have bx2 := bx.still k2
      rw [← HX.out]
      have k02 : Only T wr w2 := (k1.trans k2).mono (fun _ _ f => f.elim)
      have hJ2 := HJ.out _ _ _ HJJ.out k02
      obtain ⟨fn, tmps, assign, body, hy, hR⟩ := HY.out (xs.take j) x w2 hJ2 (Nat.lt_of_lt_of_le hlt k02.size) HPRE.out HPL.out
      dsimp only [encF] at hy
      have g0 : w2.cell? ⟨X, 0, none⟩ = some (.int .u64 x.id) := bx2.cell 0
      have g1 : w2.cell? ⟨X, 1, none⟩ = some (.int .u64 x.gen) := bx2.cell 1
      have g2 : w2.cell? ⟨X, 2, none⟩ = some (.int .u64 x.dl) := bx2.cell 2
      have g3 : w2.cell? ⟨X, 3, none⟩ = some (.int .u64 x.tick) := bx2.cell 3
      have K02 := Lib.hid k02
      clear ca1 e0 e1 e2 e3 ca d0 d1 d2 d3 k1 k2 bx bx2 gin hJ2 k02
      gi_wp2_with fail
      refine hR.mono ?_
      rintro e W3 (⟨rfl, hJ3, hk3⟩ | ⟨rfl, hJx3⟩)
      · gi_wp2
        go_roundw
        case rel => exact ⟨j + 1, by go_num, hjl, by rw [HTK.out]; exact hJ3, Nat.lt_of_lt_of_le hlt (Nat.le_trans K02.out.size hk3.size)⟩
        case measure => simp [intOf]; omega
      · gi_wp2
        refine bodyPost_ret (results_none rfl _ _ _) rfl ?_
        exact ⟨⟨_, rfl⟩, .inr ⟨_, HPRE.out, hJx3⟩⟩
    · obtain rfl : j = xs.length := by omega
      rw [List.take_length] at hJj
      gi_wp2
      go_end0
      exact ⟨⟨_, rfl⟩, .inl ⟨_, rfl, hJj⟩⟩
theorem those_stops (n : Nat) (hn : 1 ≤ n) (T g A : Nat) (R : Value) (F : FuncId) (hF : AskYes F) (hFf : Fence.wide.fn F) (xs : List FiringV) (hbig : xs.length < 1000000) (tt : TypeId) :
    IterC Fence.wide n Try.prog 66 #[.pointer (some ⟨T, 0, none⟩), .pointer (some ⟨A, 0, none⟩)] encF (fun ys => ys = xs) (fun pre => pre <+: xs) xs.length T (fun W => Blk W T #[.pointer (some ⟨g, 0, none⟩)] tt) (fun _ => GIn T g A R F xs) :=
  fun li J Jx W hT hQ hJ hJx hY h0 => those_in n hn li T g A R F hF hFf xs hbig tt J Jx W hT hQ hJ hJx hY h0
theorem those_of (g : Nat) (F : FuncId) (w : World) : Calls Try.prog 42 #[.pointer (some ⟨g, 0, none⟩), .func (.func F) #[] #[]] w fun e w' => e = .returned (.func (.func 66) #[] #[.pointer (some ⟨w.heap.size, 0, none⟩), .pointer (some ⟨w.heap.size + 1, 0, none⟩)]) ∧ Still w w' ∧ Blk w' w.heap.size #[.pointer (some ⟨g, 0, none⟩)] 43 ∧ Blk w' (w.heap.size + 1) #[.func (.func F) #[] #[]] 105 := by
  go_enter Try.func42, Try.ntmps42
  go_wp2
  go_ret
  exact ⟨rfl, by (repeat (first | (with_reducible exact Kept.refl _ _) | (with_reducible refine Kept.drewN ?_ _) | (with_reducible refine Kept.drew ?_) | (with_reducible refine Kept.put ?_ _ _) | (with_reducible refine Kept.alloc ?_ _))), (Blk.new _ _ _).alloc _, Blk.newAt _ _ _ (by simp)⟩
theorem all_yes : AskYes 43 := by
  refine ⟨⟨_, Try.func43, by kernel_rfl, by kernel_rfl⟩, fun x W => ?_⟩
  obtain ⟨vi, vg, vd, vt⟩ := x
  go_enter Try.func43, Try.ntmps43
  go_wp2
  go_ret
  exact ⟨rfl, by (repeat (first | (with_reducible exact Kept.refl _ _) | (with_reducible refine Kept.drewN ?_ _) | (with_reducible refine Kept.drew ?_) | (with_reducible refine Kept.put ?_ _ _) | (with_reducible refine Kept.alloc ?_ _)))⟩
set_option maxHeartbeats 2000000 in
set_option maxRecDepth 100000 in
theorem appseq_f (T g A : Nat) (R : Value) (F : FuncId) (hF : AskYes F) (hFf : Fence.wide.fn F) (xs : List FiringV) (hbig : xs.length < 1000000) (tt : TypeId) (w : World) (hin : GIn T g A R F xs w) (b1 : Blk w T #[.pointer (some ⟨g, 0, none⟩)] tt) :
    Calls Try.prog 65 #[.slice none 0 0, .func (.func 66) #[] #[.pointer (some ⟨T, 0, none⟩), .pointer (some ⟨A, 0, none⟩)]] w fun e w' => (∃ v, e = .returned v ∧ w'.ownsRow w.heap.size 40 4 v xs.length (cells4 xs)) ∧ Kept (fun k => k = T ∨ w.heap.size ≤ k) w w' := by
  obtain ⟨i0, hi, hz0, hz1, hz2⟩ := info_parts infoFiring
  have hTl := b1.lt
  refine (callsIn_wide (n := 4)).1 ?_
  refine callsIn_of_wp_marks Try.func65 rfl trivial ?_ rfl
  simp only [Try.ntmps65, List.size_toArray, List.length_cons, List.length_nil, Nat.reduceAdd, Nat.reduceSub, Array.replicate_succ, Array.replicate_zero, List.push_toArray, List.append_toArray, List.nil_append, List.cons_append]
  gi_wp2_with fail
  obtain ⟨w1, hw1⟩ : ∃ w1, w1 = w.alloc (.cells #[.slice none 0 0] 22) := ⟨_, rfl⟩
  have bR0 : Blk w1 w.heap.size #[.slice none 0 0] 22 := hw1 ▸ Blk.new w _ _
  have z1 : w.heap.size < w1.heap.size ∧ w1.heap.size < w.heap.size + 2 := by rw [hw1]; simp
  have kw : Below w.heap.size w w1 := hw1 ▸ (Below.refl _ w).alloc (Nat.le_refl _) _
  have b2 : Blk w1 T #[.pointer (some ⟨g, 0, none⟩)] tt := hw1 ▸ b1.alloc _
  rw [← hw1]
  clear hw1
  have kw2 : Kept (fun k => k = T ∨ w.heap.size ≤ k) w w1 := (kept_of_below kw).mono (fun _ _ h => .inr h)
  have hown : ∀ (A B : World) (c : Array Value) (X : Nat) (T' : TypeId), Looped T w1.heap.size A B → Blk A X c T' → X ≠ T → X < w1.heap.size → Blk B X c T' := fun A B c X T' h hb hne hlt => hb.kept h (by omega)
  have hrow : ∀ (A B : World) (v : Value) (n : Nat) (xs : List Value), Looped T w1.heap.size A B → A.ownsRow (w1.heap.size + 2) 40 4 v n xs → B.ownsRow (w1.heap.size + 2) 40 4 v n xs := fun A B v n xs h ho => owns_kept ho h (by omega)
  refine wpIn_range_alloc (T := T) rfl (by omega) (gf := 66) (lb := #[.pointer (some ⟨T, 0, none⟩), .pointer (some ⟨A, 0, none⟩)]) rfl trivial (enters_of Try.func66 (by kernel_rfl) rfl)
    (those_stops 3 (by omega) T g A R F hF hFf xs hbig tt) (by omega) (fun W h => h.trans b2) (fun _ => rfl)
    (fun pre W => ∃ v, Blk W w.heap.size #[v] 22 ∧ W.ownsRow (w1.heap.size + 2) 40 4 v pre.length (cells4 pre) ∧ Kept (fun k => k = T ∨ w.heap.size ≤ k) w W)
    (fun c pre W => False)
    (fun s W h => by
      obtain ⟨v, _, _, h3⟩ := h
      exact hin.keep h3 (fun b hb hne h9 => by omega))
    (fun s A B h k => by
      obtain ⟨v, h1, h2, h3⟩ := h
      exact ⟨v, hown _ _ _ _ _ k h1 (by omega) (by omega), hrow _ _ _ _ _ k h2, h3.step k (fun i hi h => by omega)⟩)
    (fun c s A B h k => h.elim)
    ⟨_, bR0, World.ownsRow_nil _ _ _ _, kw2⟩
    (fun x B => { tmps := #[.slice none 0 0, .func (.func 66) #[] #[.pointer (some ⟨T, 0, none⟩), .pointer (some ⟨A, 0, none⟩)], .pointer (some ⟨w.heap.size, 0, none⟩), undef, .slice none 0 0, .pointer (some ⟨B.heap.size, 0, none⟩), .func (.func 66) #[] #[.pointer (some ⟨T, 0, none⟩), .pointer (some ⟨A, 0, none⟩)], x.v, undef, undef, undef, undef, undef], defers := [] }) (fun x B => B.alloc (.cells #[.int .u64 x.id, .int .u64 x.gen, .int .u64 x.dl, .int .u64 x.tick] 40)) (fun x B => (Kept.refl _ B).alloc _) ?assign ?body ?done ?stop
  case assign =>
    intro l x W K hK
    simp only [encF]
    gi_wp2_with fail
    exact hK
  case body =>
    rintro l pre x W0 W hsz kA ⟨v, hb, ho, hw⟩ ⟨rest, he⟩ hpl
    have bA := (Blk.new W0 #[.int .u64 x.id, .int .u64 x.gen, .int .u64 x.dl, .int .u64 x.tick] 40).kept kA (by omega)
    obtain ⟨B, hB⟩ : ∃ B, B = W0.heap.size := ⟨_, rfl⟩
    rw [← hB] at bA hsz ⊢
    have f0 := hb.free 0
    have c0 : W.cell? ⟨w.heap.size, 0, none⟩ = some v := hb.cell 0
    have d0 : W.cell? ⟨B, 0, none⟩ = some (.int .u64 x.id) := bA.cell 0
    have d1 : W.cell? ⟨B, 1, none⟩ = some (.int .u64 x.gen) := bA.cell 1
    have d2 : W.cell? ⟨B, 2, none⟩ = some (.int .u64 x.dl) := bA.cell 2
    have d3 : W.cell? ⟨B, 3, none⟩ = some (.int .u64 x.tick) := bA.cell 3
    have hbA := bA.lt
    clear kA hB
    have hoa := ho.alloc (.cells #[.int .u64 x.id, .int .u64 x.gen, .int .u64 x.dl, .int .u64 x.tick] 40)
    gi_wp2_with (first | (gi_at_builtin; refine wpListIn_append_own _ rfl _ _ 22 rfl (w1.heap.size + 2) 40 i0 (.agg #[.int .u64 0, .int .u64 0, .int .u64 0, .int .u64 0]) 4 32 Try.underlying22 hi hz0 hz1 hz2 rfl (by decide) _ _ _ rfl (hoa) ⟨W.heap.size, 0, none⟩ 1 1 [.int .u64 x.id, .int .u64 x.gen, .int .u64 x.dl, .int .u64 x.tick] rfl rfl (by intro j u hj; rw [addr_add, Nat.zero_add]; exact ((Blk.newAt _ _ _ (by simp)).cell j).trans (by simpa using hj)) (by intro u hu; simp at hu; rcases hu with rfl | rfl | rfl | rfl <;> rfl) (by unfold maxLen; omega) (by omega) (by first | omega | (simp; omega) | simp) ?_) | fail)
    intro v' w2 ho2 hg2 _
    have hk2 : Kept (fun k => w1.heap.size + 2 ≤ k) W w2 := kept_append (Kept.refl _ W) ho hg2 (fun k _ h => h)
    have hb2 := hb.kept hk2 (by omega)
    have f2 := hb2.free 0
    have c2 := hb2.cell 0
    obtain ⟨a', c', rfl⟩ := owns_slice ho2
    gi_wp2
    refine ⟨Kept.setCell (hk2.mono (fun k _ h => by omega)) (fun _ => ⟨by simp only; omega, by simp only; omega, by simp only; omega⟩) _, _, hb2.set 0 _, ?_, ?_⟩
    · rw [List.length_append, cells4_snoc]
      exact owns_kept ho2 (Kept.setCell (S := fun k => k = w.heap.size) (Kept.refl _ _) (fun _ => rfl) _) (by omega)
    · exact (hw.step hk2 (fun i hi h => by omega)).setCell (p := ⟨w.heap.size, 0, none⟩) (fun _ => .inr (Nat.le_refl _)) _
  case done =>
    rintro ys W hxs ⟨v, hb, ho, hw⟩ hK
    have c0 : W.cell? ⟨w.heap.size, 0, none⟩ = some v := hb.cell 0
    subst hxs
    gi_wp2
    have hk3 := Kept.putObj (S := fun k => k = w1.heap.size) (l := w1.heap.size) (Kept.refl _ W) (.deferred none) rfl
    refine ⟨by simp, .inl ⟨_, _, rfl, run_takeDeferred hK, ?_⟩⟩
    refine ⟨v, ?_, ⟨v, rfl, ?_⟩, hw.step hk3 (fun i hi h => by omega)⟩
    · simp [results, Try.f65, go_sem]
    · exact owns_base (owns_kept ho hk3 (by omega)) (by omega)
  case stop =>
    rintro c pre W hpre h hK
    exact h.elim
theorem collect_f (T g A : Nat) (R : Value) (F : FuncId) (hF : AskYes F) (hFf : Fence.wide.fn F) (xs : List FiringV) (hbig : xs.length < 1000000) (tt : TypeId) (w : World) (hin : GIn T g A R F xs w) (b1 : Blk w T #[.pointer (some ⟨g, 0, none⟩)] tt) :
    Calls Try.prog 41 #[.func (.func 66) #[] #[.pointer (some ⟨T, 0, none⟩), .pointer (some ⟨A, 0, none⟩)]] w fun e w' => (∃ v, e = .returned v ∧ w'.ownsRow w.heap.size 40 4 v xs.length (cells4 xs)) ∧ Kept (fun k => k = T ∨ w.heap.size ≤ k) w w' := by
  go_enter Try.func41, Try.ntmps41
  go_wp2_with fail
  refine (appseq_f T g A R F hF hFf xs hbig tt w hin b1).mono ?_
  rintro e w2 ⟨⟨v, rfl, hr⟩, k2⟩
  obtain ⟨a, cap, rfl⟩ := owns_slice hr
  go_wp2_with fail
  go_ret
  exact ⟨⟨_, rfl, hr⟩, k2⟩
/-- All: a row of one's own -/
theorem gall {g : Nat} {R : Value} {xs : List FiringV} {w : World} (hb : Blk w g #[R] 137) (hr : FRow (fun _ => True) w R xs) (hbig : xs.length < 1000000) :
    Calls Try.prog 18 #[.pointer (some ⟨g, 0, none⟩)] w fun e w' => ∃ v, e = .returned v ∧ w'.ownsRow w.heap.size 40 4 v xs.length (cells4 xs) ∧ Still w w' := by
  go_enter Try.func18, Try.ntmps18
  go_wp2_with fail
  refine (those_of g 43 w).mono ?_
  rintro e w1 ⟨rfl, k1, b1, b2⟩
  have hz := b2.lt
  have gin : GIn w.heap.size g (w.heap.size + 1) R 43 xs w1 := ⟨hb.still k1, ((hr.inside).still k1).mono (fun b _ h9 => by omega), b2, by have := hb.lt; omega, by omega⟩
  go_wp2_with fail
  refine (collect_f w.heap.size g (w.heap.size + 1) R _ all_yes trivial xs hbig _ w1 gin b1).mono ?_
  rintro e w2 ⟨⟨v, rfl, hr2⟩, k2⟩
  obtain ⟨a, cap, rfl⟩ := owns_slice hr2
  go_wp2_with fail
  go_ret
  exact ⟨_, rfl, owns_base hr2 (by omega), Kept.step k1 k2 (fun i hi h => by omega)⟩
theorem len_yes : AskYes 49 := by
  refine ⟨⟨_, Try.func49, by kernel_rfl, by kernel_rfl⟩, fun x W => ?_⟩
  obtain ⟨vi, vg, vd, vt⟩ := x
  go_enter Try.func49, Try.ntmps49
  go_wp2
  go_ret
  exact ⟨rfl, by (repeat (first | (with_reducible exact Kept.refl _ _) | (with_reducible refine Kept.drewN ?_ _) | (with_reducible refine Kept.drew ?_) | (with_reducible refine Kept.put ?_ _ _) | (with_reducible refine Kept.alloc ?_ _)))⟩
set_option maxHeartbeats 1000000 in
set_option maxRecDepth 100000 in
theorem glen {g : Nat} {R : Value} {xs : List FiringV} {w : World} (hb : Blk w g #[R] 137) (hr : FRow (fun _ => True) w R xs) (hbig : xs.length < 1000000) :
    Calls Try.prog 28 #[.pointer (some ⟨g, 0, none⟩)] w fun e w' => e = .returned (.int .i64 xs.length) ∧ Still w w' := by
  refine (callsIn_wide (n := 4)).1 ?_
  refine callsIn_of_wp_marks Try.func28 rfl trivial ?_ rfl
  simp only [Try.ntmps28, List.size_toArray, List.length_cons, List.length_nil, Nat.reduceAdd, Nat.reduceSub, Array.replicate_succ, Array.replicate_zero, List.push_toArray, List.append_toArray, List.nil_append, List.cons_append]
  obtain ⟨w0, hw0⟩ : ∃ w0, w0 = (w.alloc (.cells #[.int .i64 0] 3)) := ⟨_, rfl⟩
  have k0 : Still w w0 := by rw [hw0]; exact (still_refl w).alloc _
  have n0 : Blk w0 w.heap.size #[.int .i64 0] 3 := by rw [hw0]; exact Blk.new _ _ _
  have hth := those_of g 49 w0
  have HW0 := Lib.hid hw0
  have K0 := Lib.hid k0
  have N0 := Lib.hid n0
  clear hw0 k0 n0
  gi_wp2_with fail
  rw [← HW0.out]
  refine ⟨trivial, callsIn_wide.2 (hth.mono ?_)⟩
  rintro e w1 ⟨rfl, k1, b1, b2⟩
  have hz := b2.lt
  have hz0 := N0.out.lt
  obtain ⟨T, hT⟩ : ∃ T, T = w0.heap.size := ⟨_, rfl⟩
  obtain ⟨A, hA⟩ : ∃ A, A = T + 1 := ⟨_, rfl⟩
  obtain ⟨C, hC⟩ : ∃ C, C = w.heap.size := ⟨_, rfl⟩
  have hgl := hb.lt
  have nb := N0.out.still k1
  rw [← hT] at b1 b2 hz ⊢
  rw [← hA] at b2 hz ⊢
  rw [← hC] at nb hz0 ⊢
  have hTA : T < A := by omega
  have hCT : C < T := by omega
  have gin : GIn T g A R 49 xs w1 := ⟨(hb.still K0.out).still k1, (hr.inside.still (K0.out.trans k1)).mono (fun b _ h9 => by omega), b2, by omega, by omega⟩
  have hAz : A < w1.heap.size := hz
  have row1 := hr.inside.still (K0.out.trans k1)
  have hgC : g < C := by omega
  have hgz : C ≤ w.heap.size ∧ w.heap.size ≤ C := by omega
  have K1 := Lib.hid (K0.out.trans k1)
  have HC := Lib.hid hC
  clear hT hA hC hgl k1 hz hth b2
  gi_wp2_with fail
  refine wpIn_range_cell (T := T) rfl (by omega) (gf := 66) (lb := #[.pointer (some ⟨T, 0, none⟩), .pointer (some ⟨A, 0, none⟩)]) rfl trivial (enters_of Try.func66 (by kernel_rfl) rfl)
    (those_stops 3 (by omega) T g A R _ len_yes trivial xs hbig 43) (by omega) (fun W h => h.trans b1) (fun _ => rfl)
    (fun pre W => Blk W C #[.int .i64 pre.length] 3 ∧ Kept (fun k => k = C ∨ k = T ∨ w1.heap.size ≤ k) w1 W)
    (fun c pre W => False)
    (fun s W h => ⟨gin.blk.kept h.2 (by omega), (row1.keep h.2 (fun b h9 hb h8 => by omega)).mono (fun b _ h9 => by omega), gin.ask.kept h.2 (by omega), gin.gT, gin.aT⟩)
    (fun s A B h k => ⟨h.1.kept k (by omega), h.2.step k (fun i hi h9 => by omega)⟩)
    (fun c s A B h k => h.elim)
    ⟨nb, Kept.refl _ _⟩
    (fun x => { tmps := #[.pointer (some ⟨g, 0, none⟩), undef, .int .i64 0, .pointer (some ⟨C, 0, none⟩), .pointer (some ⟨g, 0, none⟩), .func (.func 66) #[] #[.pointer (some ⟨T, 0, none⟩), .pointer (some ⟨A, 0, none⟩)], x.v, undef, undef, undef], defers := [] }) ?assign ?body ?done ?stop
  case assign =>
    intro l x W K hK
    simp only [encF]
    gi_wp2
    simpa using hK
  case body =>
    rintro l pre x W hsz ⟨hc, hw⟩ ⟨rest, he⟩ hpl
    have f0 := hc.free 0
    have c0 : W.cell? ⟨C, 0, none⟩ = some (.int .i64 pre.length) := hc.cell 0
    have hle : pre.length < 1000000 := by omega
    have HL : Hid ((pre ++ [x]).length = pre.length + 1) := Lib.hid (by simp)
    gi_wp2
    have kc : Kept (fun k => k = C) W (W.setCell ⟨C, 0, none⟩ (.int .i64 ((pre.length : Int) + 1))) := (only_refl C W).put 0 _
    exact ⟨kc.mono (fun k _ h => by omega), by rw [HL.out]; exact hc.set' (by simp), hw.step kc (fun i hi h9 => .inl h9)⟩
  case done =>
    rintro ys W hys ⟨hc, hw⟩ hK
    subst hys
    have c0 : W.cell? ⟨C, 0, none⟩ = some (.int .i64 ys.length) := hc.cell 0
    have k2 := Kept.putObj (S := fun k => k = w1.heap.size) (l := w1.heap.size) (Kept.refl _ W) (.deferred none) rfl
    gi_wp2
    refine ⟨by simp, .inl ⟨_, _, rfl, run_takeDeferred hK, ?_⟩⟩
    refine ⟨.int .i64 ys.length, ?_, rfl, Kept.step K1.out (hw.step k2 (fun i hi h => by omega)) (fun i hi h => by have := HC.out; omega)⟩
    simp [results, Try.f28, go_sem]
  case stop =>
    rintro c pre W hp h
    exact h.elim
end Go.Proofs.Ytbikganlloopbaa
