/-
  What stands here: all slots of a word, by the program. Under the condition that the library's table is as its initialiser lays it.
-/
import Derived.Test.YtpgkfmfdkbhljaaDoorBitsRef
namespace Go.Proofs.YtpgkfmfdkbhljaaDoor
set_option linter.unusedVariables false
set_option linter.unusedSimpArgs false
open Go.RowKit Go.Proofs
attribute [local go_sem] Oper.semAt_some

set_option maxHeartbeats 1000000 in
theorem appseq_any (m : Nat) (hm : m < 18446744073709551616) (T : Nat) (tt : TypeId) (w : World) (hT : Tab w) (b1 : Blk w T #[.int .u64 m] tt) (hT0 : 0 < T) :
    Calls Tryd.prog 26 #[.slice none 0 0, .func (.func 24) #[] #[.pointer (some ⟨T, 0, none⟩)]] w fun e w' => (∃ v, e = .returned v ∧ IRow (w.heap.size ≤ ·) w' v (ints (slots m))) ∧ Kept (fun k => k = T ∨ w.heap.size ≤ k) w w' := by
  obtain ⟨i0, hi, hz0, hz1, hz2⟩ := info_parts infoInt
  have hpos := hT.lt
  have hTl := b1.lt
  refine (callsIn_wide (n := 4)).1 ?_
  refine callsIn_of_wp_marks Tryd.func26 rfl trivial ?_ rfl
  simp only [Tryd.ntmps26, List.size_toArray, List.length_cons, List.length_nil, Nat.reduceAdd, Nat.reduceSub, Array.replicate_succ, Array.replicate_zero, List.push_toArray, List.append_toArray, List.nil_append, List.cons_append]
  gi_wp2_with fail
  obtain ⟨w1, hw1⟩ : ∃ w1, w1 = w.alloc (.cells #[.slice none 0 0] 31) := ⟨_, rfl⟩
  have bR0 : Blk w1 w.heap.size #[.slice none 0 0] 31 := hw1 ▸ Blk.new w _ _
  have z1 : w.heap.size < w1.heap.size ∧ w1.heap.size < w.heap.size + 2 := by rw [hw1]; simp
  have kw : Below w.heap.size w w1 := hw1 ▸ (Below.refl _ w).alloc (Nat.le_refl _) _
  have b2 : Blk w1 T #[.int .u64 m] tt := hw1 ▸ b1.alloc _
  have hT1 := hT.below kw hpos
  rw [← hw1]
  clear hw1
  have kw2 : Kept (fun k => k = T ∨ w.heap.size ≤ k) w w1 := (kept_of_below kw).mono (fun _ _ h => .inr h)
  have hown : ∀ (A B : World) (c : Array Value) (X : Nat) (T' : TypeId), Looped T w1.heap.size A B → Blk A X c T' → X ≠ T → X < w1.heap.size → Blk B X c T' := fun A B c X T' h hb hne hlt => hb.kept h (by omega)
  have hrow : ∀ (A B : World) (v : Value) (n : Nat) (xs : List Value), Looped T w1.heap.size A B → A.ownsRow (w1.heap.size + 2) 3 1 v n xs → B.ownsRow (w1.heap.size + 2) 3 1 v n xs := fun A B v n xs h ho => owns_kept ho h (by omega)
  refine wpIn_range_cell (T := T) rfl (by omega) (gf := 24) (lb := #[.pointer (some ⟨T, 0, none⟩)]) rfl trivial (enters_of Tryd.func24 (by kernel_rfl) rfl)
    (all_stops 3 (by omega) T m hm tt) (by omega) (fun W h => h.trans b2) (fun _ => rfl)
    (fun pre W => ∃ v, Blk W w.heap.size #[v] 31 ∧ W.ownsRow (w1.heap.size + 2) 3 1 v pre.length (vals pre) ∧ Kept (fun k => k = T ∨ w.heap.size ≤ k) w W)
    (fun c pre W => False)
    (fun s W h => by obtain ⟨v, _, _, h3⟩ := h; exact hT.kept h3 (by omega))
    (fun s A B h k => by
      obtain ⟨v, h1, h2, h3⟩ := h
      exact ⟨v, hown _ _ _ _ _ k h1 (by omega) (by omega), hrow _ _ _ _ _ k h2, h3.step k (fun i hi h => by omega)⟩)
    (fun c s A B h k => h.elim)
    ⟨_, bR0, World.ownsRow_nil _ _ _ _, kw2⟩
    (fun x => { tmps := #[.slice none 0 0, .func (.func 24) #[] #[.pointer (some ⟨T, 0, none⟩)], .pointer (some ⟨w.heap.size, 0, none⟩), undef, .slice none 0 0, .int .i64 x, .func (.func 24) #[] #[.pointer (some ⟨T, 0, none⟩)], .int .i64 x, undef, undef, undef, undef, undef], defers := [] }) ?assign ?body ?done ?stop
  case assign =>
    intro l x W K hK
    simp only [encS]
    gi_wp2
    exact hK
  case body =>
    rintro l pre x W hsz ⟨v, hb, ho, hw⟩ hpl
    have f0 := hb.free 0
    have c0 := hb.cell 0
    gi_wp2_with (first | (gi_at_builtin; refine wpListIn_append_own _ rfl _ _ 31 rfl (w1.heap.size + 2) 3 i0 (.int .i64 0) 1 8 Tryd.underlying31 hi hz0 hz1 hz2 rfl (by decide) _ _ _ rfl (ho.alloc _) ⟨W.heap.size, 0, none⟩ 1 1 [.int .i64 x] rfl rfl (by intro j u hj; match j, hj with | 0, hj => simp at hj; subst hj; first | (simp [Addr.add]; done) | exact (Blk.newAt _ _ _ (by simp)).cell 0) (by intro u hu; simp at hu; subst hu; rfl) (by unfold maxLen; omega) (by omega) (by first | omega | (simp; omega) | simp) ?_) | fail)
    intro v' w2 ho2 hg2 _
    have hk2 : Kept (fun k => w1.heap.size + 2 ≤ k) W w2 := kept_append (Kept.refl _ W) ho hg2 (fun k _ h => h)
    have hb2 := hb.kept hk2 (by omega)
    have f2 := hb2.free 0
    have c2 := hb2.cell 0
    obtain ⟨a', c', rfl⟩ := owns_slice ho2
    gi_wp2
    refine ⟨Kept.setCell (hk2.mono (fun k _ h => by omega)) (fun _ => ⟨by simp only; omega, by simp only; omega, by simp only; omega⟩) _, _, hb2.set 0 _, ?_, ?_⟩
    · rw [List.length_append, show vals (pre ++ [x]) = vals pre ++ [.int .i64 x] by simp]
      exact owns_kept ho2 (Kept.setCell (S := fun k => k = w.heap.size) (Kept.refl _ _) (fun _ => rfl) _) (by omega)
    · exact (hw.step hk2 (fun i hi h => by omega)).setCell (p := ⟨w.heap.size, 0, none⟩) (fun h => absurd h (Nat.lt_irrefl _)) _
  case done =>
    rintro xs W hxs ⟨v, hb, ho, hw⟩ hK
    have c0 := hb.cell 0
    subst hxs
    gi_wp2
    have hk3 := Kept.putObj (S := fun k => k = w1.heap.size) (l := w1.heap.size) (Kept.refl _ W) (.deferred none) rfl
    refine ⟨by simp, .inl ⟨_, _, rfl, run_takeDeferred hK, ?_⟩⟩
    refine ⟨v, ?_, ⟨v, rfl, ?_⟩, hw.step hk3 (fun i hi h => by omega)⟩
    · simp [results, Tryd.f26, go_sem]
    · have hr := (VRow.of_owns (owns_kept ho hk3 (by omega))).mono (R := (w.heap.size ≤ ·)) (fun b h => by omega)
      rw [← vals_ints] at hr
      exact hr
  case stop =>
    rintro c pre W hpre h hK
    exact h.elim

theorem all_any (m : Nat) (hm : m < 18446744073709551616) (w : World) (hT : Tab w) :
    Calls Tryd.prog 15 #[.int .u64 m] w fun e w' => (∃ v, e = .returned v ∧ IRow (w.heap.size ≤ ·) w' v (ints (slots m))) ∧ Below w.heap.size w w' := by
  have hpos := hT.lt
  go_enter Tryd.func15, Tryd.ntmps15
  go_wp2_with fail
  refine (all_of m w).mono ?_
  rintro e w1 ⟨rfl, k1, b1⟩
  have z1 := b1.lt
  go_wp2_with fail
  have hcol : Calls Tryd.prog 22 #[.func (.func 24) #[] #[.pointer (some ⟨w.heap.size, 0, none⟩)]] w1 fun e w' => (∃ v, e = .returned v ∧ IRow (w1.heap.size ≤ ·) w' v (ints (slots m))) ∧ Kept (fun k => k = w.heap.size ∨ w1.heap.size ≤ k) w1 w' := by
    go_enter Tryd.func22, Tryd.ntmps22
    go_wp2_with fail
    refine (appseq_any m hm w.heap.size 24 w1 (hT.kept k1 (fun f => f)) b1 hpos).mono ?_
    rintro e w2 ⟨⟨v, rfl, hr⟩, k2⟩
    obtain ⟨a, cap, rfl⟩ := VRow.len hr
    rw [List.length_map, List.length_map] at hr ⊢
    go_wp2_with fail
    go_ret
    exact ⟨⟨_, rfl, hr⟩, k2⟩
  refine hcol.mono ?_
  rintro e w2 ⟨⟨v, rfl, hr⟩, k2⟩
  obtain ⟨a, cap, rfl⟩ := VRow.len hr
  rw [List.length_map, List.length_map] at hr ⊢
  go_wp2_with fail
  go_ret
  exact ⟨⟨_, rfl, hr.mono (fun b h => Nat.le_trans k1.size h)⟩, below_step (below_still (Below.refl _ w) k1 (Nat.le_refl _)) k2 (Nat.le_refl _) (fun i hi h => by have := k1.size; omega)⟩
end Go.Proofs.YtpgkfmfdkbhljaaDoor
