/-
  What stands here: the numbers of entries that are due. Under no condition but that the world holds them.
-/
import Derived.Test.YthinhbaklcijmaaDoorWheelAlive
namespace Go.Proofs.YthinhbaklcijmaaDoor
set_option linter.unusedVariables false
set_option linter.unusedSimpArgs false
open Go.RowKit Go.Proofs
set_option maxHeartbeats 1000000 in
set_option maxRecDepth 100000 in
theorem numbers_any (w : World) (r : Value) (es : List Nat) (f : Nat → Int) (now : Int) (hr : VRow (fun _ => True) w r (ptrs es)) (hc : ∀ e, e ∈ es → e < w.heap.size ∧ w.cell? ⟨e, 0, none⟩ = some (.int .u64 now) ∧ w.cell? ⟨e, 1, none⟩ = some (.int .i64 (f e))) (hl : es.length ≤ 100000) :
    Calls Tryd.prog 15 #[r, .int .u64 now] w fun e w' => (∃ v, e = .returned (.tuple #[v, .bool true]) ∧ w'.ownsRow w.heap.size 3 1 v es.length (es.map fun e => Value.int .i64 (f e))) ∧ Below w.heap.size w w' := by
  obtain ⟨i0, hi, hz0, hz1, hz2⟩ := info_parts infoVal_e
  obtain ⟨ra, rc, rfl⟩ := hr.len
  rw [ptrs_len] at hr ⊢
  have HR := Lib.hid hr
  have HC := Lib.hid hc
  clear hr hc
  go_enter Tryd.func15, Tryd.ntmps15
  go_wp2_with fail
  go_loopw [6, 7] (fun ov i wx => ∃ j : Nat, j ≤ es.length ∧ i = .int .i64 j ∧ wx.ownsRow w.heap.size 3 1 ov j ((es.take j).map fun e => Value.int .i64 (f e)) ∧ Below w.heap.size w wx) (fun _ i _ => es.length - (intOf i).toNat)
  case atStart => exact ⟨0, Nat.zero_le _, rfl, World.ownsRow_nil _ _ _ _, Below.refl _ _⟩
  case round =>
    obtain ⟨j, hj, rfl, hown, hbel⟩ := hrel
    have O := Lib.hid hown
    have BEL := Lib.hid hbel
    have hsz := hbel.size
    clear hown hbel
    by_cases hjl : j < es.length
    · obtain ⟨e, he⟩ : ∃ e, e = es[j] := ⟨_, rfl⟩
      have hem : e ∈ es := by rw [he]; exact List.getElem_mem hjl
      have hc0 := HR.out.at_.2.2.2
      rw [ptrs_len] at hc0
      obtain ⟨b, o, rfl, hbl, _, hcell⟩ := hc0 (by omega)
      have c1 : wr.cell? ⟨b, o + j, none⟩ = some (.pointer (some ⟨e, 0, none⟩)) := by
        rw [BEL.out.cell (p := ⟨b, o + j, none⟩) hbl, hcell j hjl]
        unfold ptrs
        rw [List.getElem?_map, List.getElem?_eq_getElem hjl, he]; rfl
      obtain ⟨hel, hed, hev⟩ := HC.out e hem
      have c2 : wr.cell? ⟨e, 1, none⟩ = some (.int .i64 (f e)) := by
        rw [BEL.out.cell (p := ⟨e, 1, none⟩) hel, hev]
      have c3 : wr.cell? ⟨e, 0, none⟩ = some (.int .u64 now) := by
        rw [BEL.out.cell (p := ⟨e, 0, none⟩) hel, hed]
      have HEJ := Lib.hid he
      have hoa : (wr.alloc (.cells #[Value.int .i64 (f e)] 3)).ownsRow w.heap.size 3 1 u6 j ((es.take j).map fun e => Value.int .i64 (f e)) := owns_kept2 O.out ((Kept.refl (fun _ => False) _).alloc _) (fun _ _ f => f)
      have hbz : w.heap.size ≤ (wr.alloc (.cells #[Value.int .i64 (f e)] 3)).heap.size := by simp; omega
      clear hc0 hcell he hev hed
      go_wp2_with (first | (at_builtin; refine wpList_append _ rfl _ _ 52 rfl w.heap.size 3 i0 (Value.int .i64 0) 1 8 Tryd.underlying52 hi hz0 hz1 hz2 rfl (by decide) _ _ _ rfl (hoa) ⟨wr.heap.size, 0, none⟩ 1 1 [Value.int .i64 (f e)] rfl rfl (by intro j u hj; match j, hj with | 0, hj => simp at hj; subst hj; first | (simp [Addr.add]; done) | exact (Blk.newAt _ _ _ (by simp)).cell 0) (by intro u hu; simp at hu; subst hu; rfl) (by unfold maxLen; omega) (by omega) (by first | omega | (simp; omega) | simp) ?_) | fail)
      intro ov w2 hap
      have O2 := Lib.hid hap.owns
      have B2 := Lib.hid (BEL.out.trans ((hap.kept (S := fun y => w.heap.size ≤ y) (Kept.refl _ wr) (fun b _ hb => owns_block hoa b hb)).below hsz (fun _ h => h)))
      clear hap hoa
      go_wp2_with fail
      go_roundw
      case rel =>
        refine ⟨j + 1, by omega, by go_num, ?_, B2.out⟩
        have := O2.out
        rw [← List.map_take] at this
        rw [List.take_succ_eq_append_getElem hjl, List.map_append, show [es[j]].map (fun e => Value.int .i64 (f e)) = [Value.int .i64 (f e)] by rw [← HEJ.out]; rfl]
        exact this
      case measure => simp [intOf]; omega
    · obtain rfl : j = es.length := by omega
      go_wp2_with fail
      go_ret2
      have := O.out
      rw [List.take_length] at this
      exact ⟨⟨_, rfl, this⟩, BEL.out⟩
end Go.Proofs.YthinhbaklcijmaaDoor
