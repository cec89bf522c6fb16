/-
  What stands here: the tasks of a row of entries, gone through and collected; what a turn of a shard does. Under no condition but that the world holds them.
-/
import Derived.Test.YthamdbfilpegjaaShardFns
import Derived.Test.YthamdbfilpegjaaRow
import Derived.Test.YthamdbfilpegjaaRangeA
namespace Go.Proofs.Ythamdbfilpegjaa
set_option linter.unusedVariables false
set_option linter.unusedSimpArgs false
open Go.RowKit Go.Proofs
attribute [local go_sem] Oper.semAt_some
theorem infoTask : (Try.prog.info? 31).map (fun i => (i.zero, i.size, i.bytes)) = some (some (.agg #[.int .u64 0, .int .i64 0, .int .u64 0, .int .u64 0, .int .u64 0]), 5, 40) := by kernel_rfl
/-- a task's cells -/
def TaskV.cl (z : TaskV) : List Value := [.int .u64 z.id, .int .i64 z.slot, .int .u64 z.gen, .int .u64 z.dl, .int .u64 z.per]
def encT (Z : Nat → TaskV) (x : Nat) : Array Value := #[(Z x).v]
/-- a row of entries whose tasks are Z -/
structure TIn (R : Value) (es : List Nat) (Z : Nat → TaskV) (W : World) : Prop where
  row : VRow (fun _ => True) W R (ptrs es)
  ent : ∀ e, e ∈ es → ∀ i, i < 5 → W.cell? ⟨e, 1 + i, none⟩ = some (vcell_t (Z e) i)
theorem TIn.kept {R : Value} {es : List Nat} {Z : Nat → TaskV} {W W' : World} (h : TIn R es Z W) (k : Below W.heap.size W W') : TIn R es Z W' :=
  ⟨h.row.below k, fun e he i hi => (World.cell?_of_block (a := ⟨e, 1 + i, none⟩) ((kept_of_below k).block _ (lt_of_cell (h.ent e he i hi)) (by have := lt_of_cell (h.ent e he i hi); simp only at this ⊢; omega))).trans (h.ent e he i hi)⟩
set_option maxHeartbeats 1000000 in
set_option maxRecDepth 100000 in
theorem tasks1_in (n : Nat) (hn : 1 ≤ n) (li T : Nat) (R : Value) (es : List Nat) (Z : Nat → TaskV) (hbig : es.length < 100000) (tt : TypeId) (J Jx : List Nat → World → Prop)
    (W : World) (hT : Blk W T #[R] tt) (hQ : ∀ s A, J s A → TIn R es Z A) (hJ : ∀ s A B, J s A → Only T A B → J s B) (hJx : ∀ s A B, Jx s A → Only T A B → Jx s B)
    (hY : ∀ pre x W1, J pre W1 → T < W1.heap.size → (pre ++ [x]) <+: es → pre.length < es.length → YieldAt Fence.wide (n - 1) Try.prog li (encT Z x) W1 fun e W' =>
      (e = .returned (.bool true) ∧ J (pre ++ [x]) W' ∧ Kept (· ≠ T) W1 W') ∨ (e = .returned (.bool false) ∧ Jx (pre ++ [x]) W'))
    (h0 : J [] W) :
    CallsIn Fence.wide n Try.prog 54 #[.func (.yield li) #[] #[], .pointer (some ⟨T, 0, none⟩)] W fun e W' => (∃ v, e = .returned v) ∧ ((∃ ys, ys = es ∧ J ys W') ∨ (∃ pre, pre <+: es ∧ Jx pre W')) := by
  have c0 : W.cell? ⟨T, 0, none⟩ = some R := hT.cell 0
  have hTl := hT.lt
  have hlen : (ptrs es).length = es.length := by simp [ptrs]
  obtain ⟨a, cap, rfl⟩ : ∃ a cap, R = .slice a es.length cap := by
    obtain ⟨a, cap, h9⟩ := (hQ [] W h0).row.len
    rw [hlen] at h9
    exact ⟨a, cap, h9⟩
  refine callsIn_of_wp Try.func54 rfl trivial ?_ rfl
  simp only [Try.ntmps54, List.size_toArray, List.length_cons, List.length_nil, Nat.reduceAdd, Nat.reduceSub, Array.replicate_succ, Array.replicate_zero, List.push_toArray, List.append_toArray, List.nil_append, List.cons_append]
  gi_wp2
  gi_loopw [7] (fun p wr => ∃ j : Nat, p = .int .i64 j ∧ j ≤ es.length ∧ J (es.take j) wr ∧ T < wr.heap.size) (fun p _ => es.length - (intOf p).toNat)
  case atStart => exact ⟨0, rfl, Nat.zero_le _, h0, hTl⟩
  case round =>
    obtain ⟨j, rfl, hj, hJj, hlt⟩ := hrel
    by_cases hjl : j < es.length
    · obtain ⟨x, hx⟩ : ∃ x, es[j]? = some x := ⟨_, List.getElem?_eq_getElem hjl⟩
      have htk : es.take (j + 1) = es.take j ++ [x] := by rw [List.take_add_one, hx]; rfl
      have hpre : es.take j ++ [x] <+: es := by rw [← htk]; exact List.take_prefix _ _
      have hpl : (es.take j).length < es.length := by rw [List.length_take]; omega
      have tin := hQ _ _ hJj
      obtain ⟨-, -, -, h9⟩ := tin.row.at_
      rw [hlen] at h9
      obtain ⟨b, o, rfl, -, -, hc⟩ := h9 (by omega)
      have hcj : wr.cell? ⟨b, o + j, none⟩ = some (.pointer (some ⟨x, 0, none⟩)) := by rw [hc j hjl]; unfold ptrs; rw [List.getElem?_map, hx]; rfl
      have hxm : x ∈ es := List.mem_of_getElem? hx
      have d0 : wr.cell? ⟨x, 1, none⟩ = some (.int .u64 (Z x).id) := tin.ent x hxm 0 (by omega)
      have d1 : wr.cell? ⟨x, 2, none⟩ = some (.int .i64 (Z x).slot) := tin.ent x hxm 1 (by omega)
      have d2 : wr.cell? ⟨x, 3, none⟩ = some (.int .u64 (Z x).gen) := tin.ent x hxm 2 (by omega)
      have d3 : wr.cell? ⟨x, 4, none⟩ = some (.int .u64 (Z x).dl) := tin.ent x hxm 3 (by omega)
      have d4 : wr.cell? ⟨x, 5, none⟩ = some (.int .u64 (Z x).per) := tin.ent x hxm 4 (by omega)
      obtain ⟨fn, tmps, assign, body, hy, hR⟩ := hY (es.take j) x wr hJj hlt hpre hpl
      dsimp only [encT] at hy
      clear hlen
      have HTK := Lib.hid htk
      have HPRE := Lib.hid hpre
      have HQ := Lib.hid hQ
      clear htk hpre hpl tin hc hx hQ hY hJ hJx
      gi_wp2_with fail
      refine hR.mono ?_
      rintro e W3 (⟨rfl, hJ3, hk3⟩ | ⟨rfl, hJx3⟩)
      · gi_wp2
        go_roundw
        case rel => exact ⟨j + 1, rfl, hjl, by rw [HTK.out]; exact hJ3, Nat.lt_of_lt_of_le hlt hk3.size⟩
        case measure => simp [intOf]; omega
      · gi_wp2
        refine bodyPost_ret (results_none rfl _ _ _) rfl ?_
        exact ⟨⟨_, rfl⟩, .inr ⟨_, HPRE.out, hJx3⟩⟩
    · obtain rfl : j = es.length := by omega
      rw [List.take_length] at hJj
      gi_wp2
      go_end0
      exact ⟨⟨_, rfl⟩, .inl ⟨_, rfl, hJj⟩⟩
theorem tasks_stops (n : Nat) (hn : 1 ≤ n) (T : Nat) (R : Value) (es : List Nat) (Z : Nat → TaskV) (hbig : es.length < 100000) (tt : TypeId) :
    IterC Fence.wide n Try.prog 54 #[.pointer (some ⟨T, 0, none⟩)] (encT Z) (fun ys => ys = es) (fun pre => pre <+: es) es.length T (fun W => Blk W T #[R] tt) (fun _ => TIn R es Z) :=
  fun li J Jx W hT hQ hJ hJx hY h0 => tasks1_in n hn li T R es Z hbig tt J Jx W hT hQ hJ hJx hY h0
theorem tasks_of (a : Option Addr) (m c : Nat) (w : World) : Calls Try.prog 30 #[.slice a m c] w fun e w' => e = .returned (.func (.func 54) #[] #[.pointer (some ⟨w.heap.size, 0, none⟩)]) ∧ Still w w' ∧ Blk w' w.heap.size #[.slice a m c] 70 := by
  go_enter Try.func30, Try.ntmps30
  go_wp2
  go_ret
  exact ⟨rfl, by (repeat (first | (with_reducible exact Kept.refl _ _) | (with_reducible refine Kept.drewN ?_ _) | (with_reducible refine Kept.drew ?_) | (with_reducible refine Kept.put ?_ _ _) | (with_reducible refine Kept.alloc ?_ _))), Blk.new _ _ _⟩
/-- a row of tasks, cell by cell -/
def cells5 (Z : Nat → TaskV) (es : List Nat) : List Value := es.flatMap fun e => (Z e).cl
theorem cells5_snoc (Z : Nat → TaskV) (es : List Nat) (e : Nat) : cells5 Z (es ++ [e]) = cells5 Z es ++ (Z e).cl := by unfold cells5; simp
set_option maxHeartbeats 2000000 in
set_option maxRecDepth 100000 in
theorem appseq_t (T : Nat) (R : Value) (es : List Nat) (Z : Nat → TaskV) (hbig : es.length < 100000) (tt : TypeId) (w0 w : World) (hin : TIn R es Z w0) (hk0 : Below w0.heap.size w0 w) (hT0 : w0.heap.size ≤ T) (b1 : Blk w T #[R] tt) :
    Calls Try.prog 53 #[.slice none 0 0, .func (.func 54) #[] #[.pointer (some ⟨T, 0, none⟩)]] w fun e w' => (∃ v, e = .returned v ∧ w'.ownsRow w.heap.size 31 5 v es.length (cells5 Z es)) ∧ Kept (fun k => k = T ∨ w.heap.size ≤ k) w w' := by
  obtain ⟨i0, hi, hz0, hz1, hz2⟩ := info_parts infoTask
  have hTl := b1.lt
  refine (callsIn_wide (n := 4)).1 ?_
  refine callsIn_of_wp_marks Try.func53 rfl trivial ?_ rfl
  simp only [Try.ntmps53, List.size_toArray, List.length_cons, List.length_nil, Nat.reduceAdd, Nat.reduceSub, Array.replicate_succ, Array.replicate_zero, List.push_toArray, List.append_toArray, List.nil_append, List.cons_append]
  gi_wp2_with fail
  obtain ⟨w1, hw1⟩ : ∃ w1, w1 = w.alloc (.cells #[.slice none 0 0] 37) := ⟨_, rfl⟩
  have bR0 : Blk w1 w.heap.size #[.slice none 0 0] 37 := hw1 ▸ Blk.new w _ _
  have z1 : w.heap.size < w1.heap.size ∧ w1.heap.size < w.heap.size + 2 := by rw [hw1]; simp
  have kw : Below w.heap.size w w1 := hw1 ▸ (Below.refl _ w).alloc (Nat.le_refl _) _
  have b2 : Blk w1 T #[R] tt := hw1 ▸ b1.alloc _
  rw [← hw1]
  clear hw1
  have kw2 : Kept (fun k => k = T ∨ w.heap.size ≤ k) w w1 := (kept_of_below kw).mono (fun _ _ h => .inr h)
  have hown : ∀ (A B : World) (c : Array Value) (X : Nat) (T' : TypeId), Looped T w1.heap.size A B → Blk A X c T' → X ≠ T → X < w1.heap.size → Blk B X c T' := fun A B c X T' h hb hne hlt => hb.kept h (by omega)
  have hrow : ∀ (A B : World) (v : Value) (n : Nat) (xs : List Value), Looped T w1.heap.size A B → A.ownsRow (w1.heap.size + 2) 31 5 v n xs → B.ownsRow (w1.heap.size + 2) 31 5 v n xs := fun A B v n xs h ho => owns_kept ho h (by omega)
  refine wpIn_range_alloc (T := T) rfl (by omega) (gf := 54) (lb := #[.pointer (some ⟨T, 0, none⟩)]) rfl trivial (enters_of Try.func54 (by kernel_rfl) rfl)
    (tasks_stops 3 (by omega) T R es Z hbig tt) (by omega) (fun W h => h.trans b2) (fun _ => rfl)
    (fun pre W => ∃ v, Blk W w.heap.size #[v] 37 ∧ W.ownsRow (w1.heap.size + 2) 31 5 v pre.length (cells5 Z pre) ∧ Kept (fun k => k = T ∨ w.heap.size ≤ k) w W)
    (fun c pre W => False)
    (fun s W h => by
      obtain ⟨v, _, _, h3⟩ := h
      have := hk0.size
      exact hin.kept (below_step hk0 h3 (Nat.le_refl _) (by omega)))
    (fun s A B h k => by
      obtain ⟨v, h1, h2, h3⟩ := h
      exact ⟨v, hown _ _ _ _ _ k h1 (by omega) (by omega), hrow _ _ _ _ _ k h2, h3.step k (fun i hi h => by omega)⟩)
    (fun c s A B h k => h.elim)
    ⟨_, bR0, World.ownsRow_nil _ _ _ _, kw2⟩
    (fun x A => { tmps := #[.slice none 0 0, .func (.func 54) #[] #[.pointer (some ⟨T, 0, none⟩)], .pointer (some ⟨w.heap.size, 0, none⟩), undef, .slice none 0 0, .pointer (some ⟨A.heap.size, 0, none⟩), .func (.func 54) #[] #[.pointer (some ⟨T, 0, none⟩)], (Z x).v, undef, undef, undef, undef, undef], defers := [] }) (fun x A => A.alloc (.cells #[.int .u64 (Z x).id, .int .i64 (Z x).slot, .int .u64 (Z x).gen, .int .u64 (Z x).dl, .int .u64 (Z x).per] 31)) (fun x A => (Kept.refl _ A).alloc _) ?assign ?body ?done ?stop
  case assign =>
    intro l x W K hK
    simp only [encT]
    gi_wp2_with fail
    exact hK
  case body =>
    rintro l pre x W0 W hsz kA ⟨v, hb, ho, hw⟩ ⟨rest, he⟩ hpl
    have bA := (Blk.new W0 #[.int .u64 (Z x).id, .int .i64 (Z x).slot, .int .u64 (Z x).gen, .int .u64 (Z x).dl, .int .u64 (Z x).per] 31).kept kA (by omega)
    obtain ⟨B, hB⟩ : ∃ B, B = W0.heap.size := ⟨_, rfl⟩
    rw [← hB] at bA hsz ⊢
    have f0 := hb.free 0
    have c0 : W.cell? ⟨w.heap.size, 0, none⟩ = some v := hb.cell 0
    have d0 : W.cell? ⟨B, 0, none⟩ = some (.int .u64 (Z x).id) := bA.cell 0
    have d1 : W.cell? ⟨B, 1, none⟩ = some (.int .i64 (Z x).slot) := bA.cell 1
    have d2 : W.cell? ⟨B, 2, none⟩ = some (.int .u64 (Z x).gen) := bA.cell 2
    have d3 : W.cell? ⟨B, 3, none⟩ = some (.int .u64 (Z x).dl) := bA.cell 3
    have d4 : W.cell? ⟨B, 4, none⟩ = some (.int .u64 (Z x).per) := bA.cell 4
    have hbA := bA.lt
    clear kA hB
    have hoa := ho.alloc (.cells #[.int .u64 (Z x).id, .int .i64 (Z x).slot, .int .u64 (Z x).gen, .int .u64 (Z x).dl, .int .u64 (Z x).per] 31)
    gi_wp2_with (first | (gi_at_builtin; refine wpListIn_append_own _ rfl _ _ 37 rfl (w1.heap.size + 2) 31 i0 (.agg #[.int .u64 0, .int .i64 0, .int .u64 0, .int .u64 0, .int .u64 0]) 5 40 Try.underlying37 hi hz0 hz1 hz2 rfl (by decide) _ _ _ rfl (hoa) ⟨W.heap.size, 0, none⟩ 1 1 [.int .u64 (Z x).id, .int .i64 (Z x).slot, .int .u64 (Z x).gen, .int .u64 (Z x).dl, .int .u64 (Z x).per] rfl rfl (by intro j u hj; rw [addr_add, Nat.zero_add]; exact ((Blk.newAt _ _ _ (by simp)).cell j).trans (by simpa using hj)) (by intro u hu; simp at hu; rcases hu with rfl | rfl | rfl | rfl | rfl <;> rfl) (by unfold maxLen; omega) (by omega) (by first | omega | (simp; omega) | simp) ?_) | fail)
    intro v' w2 ho2 hg2 _
    have hk2 : Kept (fun k => w1.heap.size + 2 ≤ k) W w2 := kept_append (Kept.refl _ W) ho hg2 (fun k _ h => h)
    have hb2 := hb.kept hk2 (by omega)
    have f2 := hb2.free 0
    have c2 := hb2.cell 0
    obtain ⟨a', c', rfl⟩ := owns_slice ho2
    gi_wp2
    refine ⟨Kept.setCell (hk2.mono (fun k _ h => by omega)) (fun _ => ⟨by simp only; omega, by simp only; omega, by simp only; omega⟩) _, _, hb2.set 0 _, ?_, ?_⟩
    · rw [List.length_append, cells5_snoc]
      exact owns_kept ho2 (Kept.setCell (S := fun k => k = w.heap.size) (Kept.refl _ _) (fun _ => rfl) _) (by omega)
    · exact (hw.step hk2 (fun i hi h => by omega)).setCell (p := ⟨w.heap.size, 0, none⟩) (fun h => absurd h (Nat.lt_irrefl _)) _
  case done =>
    rintro xs W hxs ⟨v, hb, ho, hw⟩ hK
    have c0 : W.cell? ⟨w.heap.size, 0, none⟩ = some v := hb.cell 0
    subst hxs
    gi_wp2
    have hk3 := Kept.putObj (S := fun k => k = w1.heap.size) (l := w1.heap.size) (Kept.refl _ W) (.deferred none) rfl
    refine ⟨by simp, .inl ⟨_, _, rfl, run_takeDeferred hK, ?_⟩⟩
    refine ⟨v, ?_, ⟨v, rfl, ?_⟩, hw.step hk3 (fun i hi h => by omega)⟩
    · simp [results, Try.f53, go_sem]
    · exact owns_base (owns_kept ho hk3 (by omega)) (by omega)
  case stop =>
    rintro c pre W hpre h hK
    exact h.elim
theorem cells5_at (Z : Nat → TaskV) : ∀ (es : List Nat) (j e i : Nat), es[j]? = some e → i < 5 → (cells5 Z es)[5 * j + i]? = some (vcell_t (Z e) i)
  | [], _, _, _, h, _ => by simp at h
  | x :: es, 0, e, i, h, hi => by
    simp at h
    subst h
    show ((Z x).cl ++ cells5 Z es)[5 * 0 + i]? = _
    rw [List.getElem?_append_left (by show 5 * 0 + i < 5; omega), Nat.mul_zero, Nat.zero_add]
    match i, hi with
    | 0, _ => rfl
    | 1, _ => rfl
    | 2, _ => rfl
    | 3, _ => rfl
    | 4, _ => rfl
  | x :: es, j + 1, e, i, h, hi => by
    show ((Z x).cl ++ cells5 Z es)[5 * (j + 1) + i]? = _
    have h5 : (Z x).cl.length = 5 := rfl
    rw [List.getElem?_append_right (by omega), show 5 * (j + 1) + i - (Z x).cl.length = 5 * j + i by omega]
    exact cells5_at Z es j e i (by simpa using h) hi
/-- the value is a slice of tasks, in a block that Q tells -/
def TRow (Q : Nat → Prop) (w : World) (v : Value) (ts : List TaskV) : Prop :=
  ∃ a cap, v = .slice a ts.length cap ∧ ts.length ≤ cap ∧ cap ≤ maxLen ∧ (0 < ts.length → ∃ b, a = some ⟨b, 0, none⟩ ∧ b < w.heap.size ∧ Q b ∧ ∀ j t, ts[j]? = some t → ∀ i, i < 5 → w.cell? ⟨b, 5 * j + i, none⟩ = some (vcell_t t i))
theorem TRow.of_owns {w : World} {base : Nat} {v : Value} {Z : Nat → TaskV} {es : List Nat} (h : w.ownsRow base 31 5 v es.length (cells5 Z es)) : TRow (base ≤ ·) w v (es.map Z) := by
  obtain ⟨hl, ⟨rfl, h0⟩ | ⟨g, cap, cur, rfl, hb, hg, hn, hm, hc, ht⟩⟩ := h
  · obtain rfl : es = [] := List.eq_nil_of_length_eq_zero h0
    exact ⟨none, 0, rfl, Nat.le_refl _, Nat.zero_le _, fun h9 => absurd h9 (by simp)⟩
  · refine ⟨some ⟨g, 0, none⟩, cap, by rw [List.length_map], by rw [List.length_map]; exact hn, hm, fun _ => ⟨g, rfl, lt_of_block hg, hb, fun j t hj i hi => ?_⟩⟩
    rw [List.getElem?_map] at hj
    obtain ⟨e, he, rfl⟩ := Option.map_eq_some_iff.1 hj
    have h9 := cells5_at Z es j e i he hi
    rw [← ht] at h9
    have hlt := (List.getElem?_eq_some_iff.1 h9).1
    rw [List.length_take] at hlt
    rw [List.getElem?_take_of_lt (by omega)] at h9
    simp only [World.cell?, hg]
    simpa using h9
theorem TRow.keep {Q : Nat → Prop} {S : Nat → Prop} {w w' : World} {v : Value} {ts : List TaskV} (h : TRow Q w v ts) (k : Kept S w w') (hn : ∀ b, Q b → b < w.heap.size → ¬ S b) : TRow Q w' v ts := by
  obtain ⟨a, cap, hv, hl, hm, h0⟩ := h
  refine ⟨a, cap, hv, hl, hm, fun hp => ?_⟩
  obtain ⟨b, ha, hb, hq, hc⟩ := h0 hp
  exact ⟨b, ha, Nat.lt_of_lt_of_le hb k.size, hq, fun j t hj i hi => (World.cell?_of_block (a := ⟨b, 5 * j + i, none⟩) (k.block b hb (hn b hq hb))).trans (hc j t hj i hi)⟩
theorem TRow.mono {Q R : Nat → Prop} {w : World} {v : Value} {ts : List TaskV} (h : TRow Q w v ts) (hq : ∀ b, b < w.heap.size → Q b → R b) : TRow R w v ts := by
  obtain ⟨a, cap, hv, hl, hm, h0⟩ := h
  exact ⟨a, cap, hv, hl, hm, fun hp => by obtain ⟨b, ha, hb, h1, hc⟩ := h0 hp; exact ⟨b, ha, hb, hq b hb h1, hc⟩⟩
theorem collect_t (T : Nat) (R : Value) (es : List Nat) (Z : Nat → TaskV) (hbig : es.length < 100000) (tt : TypeId) (w0 w : World) (hin : TIn R es Z w0) (hk0 : Below w0.heap.size w0 w) (hT0 : w0.heap.size ≤ T) (b1 : Blk w T #[R] tt) :
    Calls Try.prog 29 #[.func (.func 54) #[] #[.pointer (some ⟨T, 0, none⟩)]] w fun e w' => (∃ v, e = .returned v ∧ w'.ownsRow w.heap.size 31 5 v es.length (cells5 Z es)) ∧ Kept (fun k => k = T ∨ w.heap.size ≤ k) w w' := by
  go_enter Try.func29, Try.ntmps29
  go_wp2_with fail
  refine (appseq_t T R es Z hbig tt w0 w hin hk0 hT0 b1).mono ?_
  rintro e w2 ⟨⟨v, rfl, hr⟩, k2⟩
  obtain ⟨a, cap, rfl⟩ := owns_slice hr
  go_wp2_with fail
  go_ret
  exact ⟨⟨_, rfl, hr⟩, k2⟩
/-- what a turn of a shard does, in a law -/
structure XTurn (ls ls' : LS) (S S' : WSt) (es : List Nat) (W W' : World) : Prop where
  now : S'.now = S.now + 1
  eq : es = outOf S.due (S.now + 1) S.pl
  pl : S'.pl = restOf S.due (S.now + 1) S.pl
  due : S'.due = S.due
  dl : S'.dl = S.dl
  val : S'.val = S.val
  kd : ∀ y, y < W.heap.size → ls'.kd y = ls.kd y
  nodup : es.Nodup
  mem : ∀ e, e ∈ es ↔ Stands S.pl e ∧ S.due e = S.now + 1
  st : ∀ e, Stands S'.pl e ↔ Stands S.pl e ∧ S.due e ≠ S.now + 1
  cnt : nAll S'.pl + es.length = nAll S.pl
  kept : Kept (fun y => ls.kd y ≠ 0) W W'
set_option maxRecDepth 100000 in
set_option maxHeartbeats 1000000 in
theorem shturn {ls : LS} {v : Nat} {lv : Nat → Nat} {sl : Nat → Nat → Nat} {bd : Nat} {S : WSt} {s r l : Nat} {w W : World} (h : SX ls v lv sl bd S s r l w W) (Z : Nat → TaskV) (hZ : ∀ e, Stands S.pl e → S.val e = vcell_t (Z e)) (ho : S.now < 18446744073709551615) (hbig : nAll S.pl < 80000) :
    Calls Try.prog 9 #[.pointer (some ⟨s, 0, none⟩)] W fun e w' => ∃ ls' S' es R, e = .returned (.tuple #[R, .int .i64 0]) ∧ SX ls' v lv sl bd S' s r l w w' ∧ XTurn ls ls' S S' es W w' ∧ TRow (fun b => W.heap.size ≤ b ∧ ls'.kd b = 0) w' R (es.map Z) := by
  have H := Lib.hid h
  have HO := Lib.hid ho
  have HB := Lib.hid hbig
  have HZ := Lib.hid hZ
  clear h ho hbig hZ
  have hf2 := field2 (some ⟨r, 0, none⟩) (some ⟨l, 0, none⟩) (some ⟨v, 0, none⟩)
  go_enter Try.func9, Try.ntmps9
  go_wp2_with fail
  refine (parts_any s r l v W H.out.sh).mono ?_
  rintro e w1 ⟨rfl, k1⟩
  have h1 := H.out.still k1
  go_wp2_with fail
  refine (xadv_t h1.x HB.out HO.out).mono ?_
  rintro e w2 ⟨ls2, S2, es, R, rfl, x2, a2⟩
  have h2 := h1.turn x2 a2.kd a2.kept
  have hlen : (ptrs es).length = es.length := by simp [ptrs]
  have hes : es.length < 80000 := by have := a2.cnt; have := HB.out; omega
  have hin : TIn R es Z w2 := ⟨a2.row.mono (fun _ _ => trivial), fun e he i hi => by
    obtain ⟨g1, g2⟩ := (a2.mem e).1 he
    rcases x2.wb.out e (a2.six e he) with h9 | h9 | h9
    · exact absurd g2 ((a2.st e).1 h9).2
    · cases h9
    · unfold EB_t at h9
      rw [a2.val, HZ.out e g1] at h9
      match i, hi with
      | 0, _ => exact Blk.cell h9 1
      | 1, _ => exact Blk.cell h9 2
      | 2, _ => exact Blk.cell h9 3
      | 3, _ => exact Blk.cell h9 4
      | 4, _ => exact Blk.cell h9 5⟩
  obtain ⟨a, cap, rfl⟩ := a2.row.len
  rw [hlen] at *
  have HH := Lib.hid h2
  have HA := Lib.hid a2
  have HI := Lib.hid hin
  clear h1 h2 a2 hin x2 hlen
  go_wp2_with fail
  refine (tasks_of a es.length cap w2).mono ?_
  rintro e w3 ⟨rfl, k3, b3⟩
  go_wp2_with fail
  refine (collect_t w2.heap.size _ es Z (by omega) _ w2 w3 HI.out (below_still (Below.refl _ w2) k3 (Nat.le_refl _)) (Nat.le_refl _) b3).mono ?_
  rintro e w4 ⟨⟨v4, rfl, r4⟩, k4⟩
  obtain ⟨a4, c4, hv4⟩ := owns_slice r4
  have k34 : Below w2.heap.size w2 w4 := below_step (below_still (Below.refl _ w2) k3 (Nat.le_refl _)) k4 (Nat.le_refl _) (fun i hi h9 => by have := k3.size; omega)
  have hfin : SX ls2 v lv sl bd S2 s r l w w4 := HH.out.below k34
  have A := HA.out
  have hkW : W.heap.size ≤ w2.heap.size := Nat.le_trans k1.size A.kept.size
  have hT : XTurn ls ls2 S S2 es W w4 := ⟨A.now, A.eq, A.pl, A.due, A.dl, A.val, fun y hy => A.kd y (Nat.lt_of_lt_of_le hy k1.size), A.nodup, A.mem, A.st, A.cnt, ((lstill_kept k1).step A.kept (fun _ _ h9 => h9)).step (kept_of_below k34) (fun y hy h9 => by omega)⟩
  have hR : TRow (fun b => W.heap.size ≤ b ∧ ls2.kd b = 0) w4 v4 (es.map Z) := (TRow.of_owns r4).mono (fun b _ hb => ⟨by have := k3.size; omega, HH.out.x.fr (Nat.le_trans k3.size hb)⟩)
  subst hv4
  have HF := Lib.hid (And.intro hfin (And.intro hT hR))
  clear hfin hT hR A
  go_wp2_with fail
  go_ret2
  exact ⟨ls2, S2, es, _, rfl, HF.out⟩
end Go.Proofs.Ythamdbfilpegjaa
