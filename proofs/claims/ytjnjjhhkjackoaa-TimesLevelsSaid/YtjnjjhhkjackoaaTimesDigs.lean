/-
  What stands here: all digits of a time, by the program and by the document. Under the condition that the time is a word.
-/
import Derived.Test.YtjnjjhhkjackoaaTimesFns
import Derived.Test.YtjnjjhhkjackoaaRow
namespace Go.Proofs.Ytjnjjhhkjackoaa
set_option linter.unusedVariables false
set_option linter.unusedSimpArgs false
open Go.RowKit Go.Proofs
attribute [local go_sem] Oper.semAt_some

theorem infoInt : (Try.prog.info? 3).map (fun i => (i.zero, i.size, i.bytes)) = some (some (.int .i64 0), 1, 8) := by kernel_rfl
def dgl (t : Int) (k : Nat) : List Int := (List.range k).map (dg t)
theorem dgl_len (t : Int) (k : Nat) : (dgl t k).length = k := by simp [dgl]
theorem dgl_succ (t : Int) (k : Nat) : dgl t (k + 1) = dgl t k ++ [dg t k] := by unfold dgl; rw [List.range_succ, List.map_append]; rfl
theorem dgl_get (t : Int) {k i : Nat} (h : i < k) : (dgl t k).getD i 0 = dg t i := by simp [dgl, List.getD_eq_getElem?_getD, h]

set_option maxHeartbeats 1000000 in
theorem refdigits_any (t : Int) (ht : 0 ≤ t ∧ t < 18446744073709551616) (w : World) :
    Calls Try.prog 14 #[.int .u64 t] w fun e w' => (∃ v, e = .returned v ∧ IRow (w.heap.size ≤ ·) w' v (dgl t 11)) ∧ Below w.heap.size w w' := by
  obtain ⟨i0, hi, hz0, hz1, hz2⟩ := info_parts infoInt
  go_enter Try.func14, Try.ntmps14
  go_wp2
  go_loopw [0, 3, 4] (fun x v i wr => ∃ k : Nat, k ≤ 11 ∧ i = .int .i64 k ∧ x = .int .u64 (t / 64 ^ k) ∧ wr.ownsRow w.heap.size 3 1 v k ((dgl t k).map (Value.int .i64)) ∧ Below w.heap.size w wr) (fun _ _ i _ => 11 - (intOf i).toNat)
  case atStart => exact ⟨0, Nat.zero_le _, rfl, by simp, World.ownsRow_nil _ _ _ _, Below.refl _ _⟩
  case round =>
    obtain ⟨k, hk, rfl, rfl, hown, hbel⟩ := hrel
    have hz : 0 ≤ t / 64 ^ k ∧ t / 64 ^ k < 18446744073709551616 := z_bd ht k
    have hsz := hbel.size
    by_cases h : k < 11
    · obtain ⟨hz1', hz2'⟩ := hz
      have hdg : (0 ≤ dg t k ∧ dg t k < 64) := by unfold dg; omega
      have HZ := Lib.hid (z_succ t k)
      obtain ⟨z, hzz⟩ : ∃ z, z = t / 64 ^ k := ⟨_, rfl⟩
      have hd : dg t k = z % 64 := by rw [hzz]; rfl
      have HD := Lib.hid hd
      rw [← hzz] at HZ hz1' hz2' ⊢
      clear hd hdg hzz
      go_wp2_with (first | (at_builtin; refine wpList_append_own _ rfl _ _ 30 rfl w.heap.size 3 i0 (.int .i64 0) 1 8 Try.underlying30 hi hz0 hz1 hz2 rfl (by decide) _ _ _ rfl (hown.alloc _) ⟨wr.heap.size, 0, none⟩ 1 1 [.int .i64 (z % 64)] rfl rfl (by intro j u hj; match j, hj with | 0, hj => simp at hj; subst hj; simp [Addr.add]) (by intro u hu; simp at hu; subst hu; rfl) (by unfold maxLen; omega) (by omega) (by simp; omega) ?_) | go_in)
      intro v' w1 hown' hgrow _
      go_wp2
      go_roundw
      case rel => exact ⟨k + 1, by omega, by go_num, by rw [HZ.out], by rw [dgl_succ, List.map_append, HD.out]; exact hown', below_append hbel hown hgrow (Nat.le_refl _) (Nat.le_refl _)⟩
      case measure => simp [intOf]; omega
    · obtain rfl : k = 11 := by omega
      go_wp2
      go_ret
      exact ⟨⟨_, rfl, VRow.of_owns hown⟩, hbel⟩

set_option maxHeartbeats 1000000 in
theorem digits_any (t : Int) (ht : 0 ≤ t ∧ t < 18446744073709551616) (w : World) :
    Calls Try.prog 16 #[.int .u64 t] w fun e w' => (∃ v, e = .returned v ∧ IRow (w.heap.size ≤ ·) w' v (dgl t 11)) ∧ Below w.heap.size w w' := by
  obtain ⟨i0, hi, hz0, hz1, hz2⟩ := info_parts infoInt
  refine (callsIn_wide (n := 3)).1 ?_
  refine callsIn_of_wp_marks Try.func16 rfl trivial ?_ rfl
  simp only [Try.ntmps16, List.size_toArray, List.length_cons, List.length_nil, Nat.reduceAdd, Nat.reduceSub, Array.replicate_succ, Array.replicate_zero, List.push_toArray, List.append_toArray, List.nil_append, List.cons_append]
  gi_wp2_with fail
  refine ⟨trivial, callsIn_wide.2 ((all_of t _).mono ?_)⟩
  rintro e w1 ⟨rfl, k1, b1⟩
  have bR0 : Blk w1 w.heap.size #[.slice none 0 0] 30 := (Blk.new w _ _).still k1
  have kw : Below w.heap.size w w1 := below_still (((Below.refl _ w).alloc (Nat.le_refl _) _)) k1 (Nat.le_refl _)
  rw [World.size_alloc] at *
  have z1 := b1.lt
  gi_wp2_with fail
  have hown : ∀ (A B : World) (c : Array Value) (X : Nat) (T : TypeId), Looped (w.heap.size + 1) w1.heap.size A B → Blk A X c T → X ≠ w.heap.size + 1 → X < w1.heap.size → Blk B X c T := fun A B c X T h hb hne hlt => hb.kept h (by omega)
  have hbel : ∀ A B : World, Looped (w.heap.size + 1) w1.heap.size A B → Below w.heap.size w A → Below w.heap.size w B := fun A B h hb => below_step hb h (Nat.le_refl _) (by omega)
  have hrow : ∀ (A B : World) (v : Value) (n : Nat) (xs : List Value), Looped (w.heap.size + 1) w1.heap.size A B → A.ownsRow (w1.heap.size + 2) 3 1 v n xs → B.ownsRow (w1.heap.size + 2) 3 1 v n xs := fun A B v n xs h ho => owns_kept ho h (by omega)
  refine wpIn_range_cell (T := w.heap.size + 1) rfl (by omega) (gf := 25) (lb := #[.pointer (some ⟨w.heap.size + 1, 0, none⟩)]) rfl trivial (enters_of Try.func25 (by kernel_rfl) rfl)
    (all_stops Fence.wide 2 trivial rfl (by omega) (w.heap.size + 1) t ht 22) z1 (fun W h => h.trans b1) (fun _ => rfl)
    (fun pre W => ∃ v, Blk W w.heap.size #[v] 30 ∧ W.ownsRow (w1.heap.size + 2) 3 1 v pre.length (pre.map fun x => Value.int .i64 x.2) ∧ Below w.heap.size w W)
    (fun c pre W => False)
    (fun s A B h k => by
      obtain ⟨v, h1, h2, h3⟩ := h
      exact ⟨v, hown _ _ _ _ _ k h1 (by omega) (by omega), hrow _ _ _ _ _ k h2, hbel _ _ k h3⟩)
    (fun c s A B h k => h.elim)
    ⟨_, bR0, World.ownsRow_nil _ _ _ _, kw⟩
    (fun x => { tmps := #[.int .u64 t, undef, .slice none 0 0, .pointer (some ⟨w.heap.size, 0, none⟩), undef, .int .i64 x.2, .int .u64 t, .func (.func 25) #[] #[.pointer (some ⟨w.heap.size + 1, 0, none⟩)], .int .i64 x.1, .int .i64 x.2, undef, undef, undef, undef, undef], defers := [] }) ?assign ?body ?done ?stop
  case assign =>
    intro l x W K hK
    simp only [encD]
    gi_wp2
    exact hK
  case body =>
    rintro l pre x W hsz ⟨v, hb, ho, hw⟩ hpl
    have f0 := hb.free 0
    have c0 := hb.cell 0
    gi_wp2_with (first | (gi_at_builtin; refine wpListIn_append_own _ rfl _ _ 30 rfl (w1.heap.size + 2) 3 i0 (.int .i64 0) 1 8 Try.underlying30 hi hz0 hz1 hz2 rfl (by decide) _ _ _ rfl (ho.alloc _) ⟨W.heap.size, 0, none⟩ 1 1 [.int .i64 x.2] rfl rfl (by intro j u hj; match j, hj with | 0, hj => simp at hj; subst hj; simp [Addr.add]) (by intro u hu; simp at hu; subst hu; rfl) (by unfold maxLen; omega) (by omega) (by simp; omega) ?_) | fail)
    intro v' w2 ho2 hg2 _
    have hk2 : Kept (fun k => w1.heap.size + 2 ≤ k) W w2 := kept_append (Kept.refl _ W) ho hg2 (fun k _ h => h)
    have hb2 := hb.kept hk2 (by omega)
    have f2 := hb2.free 0
    have c2 := hb2.cell 0
    obtain ⟨a', c', rfl⟩ := owns_slice ho2
    gi_wp2
    refine ⟨Kept.setCell (hk2.mono (fun k _ h => by omega)) (fun _ => ⟨by simp, by simp only; omega, by simp only; omega⟩) _, _, hb2.set 0 _, ?_, ?_⟩
    · rw [List.length_append, List.map_append]
      exact owns_kept ho2 (Kept.setCell (S := fun k => k = w.heap.size) (Kept.refl _ _) (fun _ => rfl) _) (by omega)
    · exact (below_append hw ho hg2 (by omega) (Nat.le_refl _)).setCell (p := ⟨w.heap.size, 0, none⟩) (Nat.le_refl _) _
  case done =>
    rintro xs W hxs ⟨v, hb, ho, hw⟩ hK
    have c0 := hb.cell 0
    subst hxs
    gi_wp2
    have hk3 := Kept.putObj (S := fun k => k = w1.heap.size) (l := w1.heap.size) (Kept.refl _ W) (.deferred none) rfl
    refine ⟨by simp, .inl ⟨_, _, rfl, run_takeDeferred hK, ?_⟩⟩
    refine ⟨v, ?_, ⟨v, rfl, ?_⟩, below_step hw hk3 (Nat.le_refl _) (by omega)⟩
    · simp [results, Try.f16, go_sem]
    · have hr := (VRow.of_owns (owns_kept ho hk3 (by omega))).mono (R := (w.heap.size ≤ ·)) (fun b h => by omega)
      have he : ((dgs t 11).map fun x => Value.int .i64 x.2) = (dgl t 11).map (Value.int .i64) := by simp [dgs, dgl]
      rw [he] at hr
      exact hr
  case stop =>
    rintro c pre W hpre h hK
    exact h.elim
end Go.Proofs.Ytjnjjhhkjackoaa
