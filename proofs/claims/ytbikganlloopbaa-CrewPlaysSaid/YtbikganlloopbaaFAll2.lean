/-
  What stands here: all firings of a pipe, told. Under no condition but that the world holds it.
-/
import Derived.Test.YtbikganlloopbaaFAll
import Derived.Test.YtbikganlloopbaaRangeU
namespace Go.Proofs.Ytbikganlloopbaa
set_option linter.unusedVariables false
set_option linter.unusedSimpArgs false
open Go.RowKit Go.Proofs
open Go.Conc
attribute [local go_sem] Oper.semAt_some
theorem all_of_f (p : Nat) (w : World) : Calls Try.prog 48 #[.pointer (some ⟨p, 0, none⟩)] w fun e w' => e = .returned (.func (.func 68) #[] #[.pointer (some ⟨w.heap.size, 0, none⟩)]) ∧ Still w w' ∧ Blk w' w.heap.size #[.pointer (some ⟨p, 0, none⟩)] 35 := by
  go_enter Try.func48, Try.ntmps48
  go_wp2
  go_ret
  exact ⟨rfl, by (repeat (first | (with_reducible exact Kept.refl _ _) | (with_reducible refine Kept.drewN ?_ _) | (with_reducible refine Kept.drew ?_) | (with_reducible refine Kept.put ?_ _ _) | (with_reducible refine Kept.alloc ?_ _))), Blk.new _ _ _⟩
set_option maxHeartbeats 1000000 in
set_option maxRecDepth 100000 in
theorem pall_f {s : LS} {p c l N : Nat} {xs : List FiringV} {most : Nat} {shut : Bool} (w : World) (h : PW_f s w p c l N xs most shut) (hbig : xs.length < 100000) :
    Calls Try.prog 27 #[.pointer (some ⟨p, 0, none⟩)] w fun e w' => (∃ v, e = .returned v ∧ w'.ownsRow w.heap.size 40 4 v xs.length (cells4 xs)) ∧ PW_f s w' p c l N xs most shut ∧ Kept (fun y => y = c) w w' := by
  obtain ⟨i0, hi, hz0, hz1, hz2⟩ := info_parts infoFiring
  have hpw := h.blk.lt
  have hcw := h.ch.lt
  have hpc := h.pc
  refine (callsIn_wide (n := 4)).1 ?_
  refine callsIn_of_wp_marks Try.func27 rfl trivial ?_ rfl
  simp only [Try.ntmps27, List.size_toArray, List.length_cons, List.length_nil, Nat.reduceAdd, Nat.reduceSub, Array.replicate_succ, Array.replicate_zero, List.push_toArray, List.append_toArray, List.nil_append, List.cons_append]
  gi_wp2_with fail
  refine ⟨trivial, callsIn_wide.2 ((all_of_f p _).mono ?_)⟩
  rintro e w1 ⟨rfl, k1, b1⟩
  have bR0 : Blk w1 w.heap.size #[.slice none 0 0] 22 := (Blk.new w _ _).still k1
  have kw : Kept (fun y => y = c ∨ w.heap.size ≤ y) w w1 := (((Kept.refl (fun y => y = c ∨ w.heap.size ≤ y) w).alloc _)).of_still k1
  rw [World.size_alloc] at *
  have z1 := b1.lt
  gi_wp2_with fail
  have H := Lib.hid h
  have hch1 : Chn w1 c N ((xs.take N).map pv_f).toArray := h.ch.kept (((Kept.refl (fun _ => False) w).alloc _).of_still k1) (fun f => f)
  clear h
  refine wpIn_range_trueA (T := c) rfl (by omega) (gf := 68) (lb := #[.pointer (some ⟨w.heap.size + 1, 0, none⟩)]) rfl trivial (enters_of Try.func68 (by kernel_rfl) rfl)
    (all1_f 3 (by omega) s (w.heap.size + 1) p c l N xs hbig H.out.n1) (by omega) (fun W h9 => by obtain ⟨a, b, h8⟩ := hch1; exact ⟨a, b, h9.trans h8⟩) (fun _ => rfl)
    (fun pre G W => ∃ v, Blk W w.heap.size #[v] 22 ∧ W.ownsRow (w1.heap.size + 2) 40 4 v pre.length (cells4 pre) ∧ (∀ b, v.ownBlock = some b → ¬ G b) ∧ Kept (fun y => y = c ∨ w.heap.size ≤ y) w W ∧ Blk W (w.heap.size + 1) #[.pointer (some ⟨p, 0, none⟩)] 35 ∧ ∀ k, G k → k < W.heap.size)
    (fun pre G W h9 => by
      obtain ⟨v, _, _, _, h3, h4, _⟩ := h9
      have bp := H.out.blk.kept h3 (by omega)
      exact ⟨h4.cell 0, bp.cell 0, bp.cell 1, H.out.lw.kept h3 (fun x hx e => by
        rcases e with e | e
        · rw [e] at hx; exact hx H.out.sc
        · exact hx (H.out.lw.fresh x e)), H.out.kl, H.out.vals⟩)
    (fun pre G A B h9 k => by
      obtain ⟨v, h1, h2, h2', h3, h4, h5⟩ := h9
      have hlt := h1.lt
      have hsz9 := k.size
      refine ⟨v, h1.kept k (by omega), owns_kept h2 k (fun b hb hbl e => by omega), fun b hb => ?_, h3.step k (fun i hi e => by omega), h4.kept k (by omega), fun k hk => by
        rcases hk with hk | hk
        · have := h5 k hk; omega
        · exact hk.2⟩
      rintro (h5 | h5)
      · exact h2' b hb h5
      · have := owns_lt h2 b hb; omega)
    (fun pre G A h9 => by obtain ⟨v, h1, h2, h2', h3, h4, h5⟩ := h9; exact h5)
    (fun pre G G' A hG h9 => by
      obtain ⟨v, h1, h2, h2', h3, h4, h5⟩ := h9
      exact ⟨v, h1, h2, fun b hb h5 => h2' b hb (hG b h5), h3, h4, fun k hk => h5 k (hG k hk)⟩)
    ⟨_, bR0, World.ownsRow_nil _ _ _ _, fun _ _ f => f, kw, b1, fun _ f => f.elim⟩
    (fun x B => { tmps := #[.pointer (some ⟨p, 0, none⟩), undef, .slice none 0 0, .pointer (some ⟨w.heap.size, 0, none⟩), .pointer (some ⟨B.heap.size, 0, none⟩), .pointer (some ⟨p, 0, none⟩), .func (.func 68) #[] #[.pointer (some ⟨w.heap.size + 1, 0, none⟩)], x.v, undef, undef, undef, undef, undef], defers := [] }) (fun x B => B.alloc (.cells #[.int .u64 x.id, .int .u64 x.gen, .int .u64 x.dl, .int .u64 x.tick] 40)) (fun x B => (Kept.refl _ B).alloc _) ?assign ?body ?tp ?done
  case assign =>
    intro l x W K hK
    simp only [encP_f]
    gi_wp2_with fail
    exact hK
  case body =>
    rintro l' pre G x W0 W hsz hG hGl0 kA ⟨v, hb, ho, hg, hw, hbb, hgl⟩ ⟨rest, he⟩ hpl
    have bA := (Blk.new W0 #[.int .u64 x.id, .int .u64 x.gen, .int .u64 x.dl, .int .u64 x.tick] 40).kept kA (by omega)
    obtain ⟨B, hB⟩ : ∃ B, B = W0.heap.size := ⟨_, rfl⟩
    rw [← hB] at bA hsz ⊢
    have d0 : W.cell? ⟨B, 0, none⟩ = some (.int .u64 x.id) := bA.cell 0
    have d1 : W.cell? ⟨B, 1, none⟩ = some (.int .u64 x.gen) := bA.cell 1
    have d2 : W.cell? ⟨B, 2, none⟩ = some (.int .u64 x.dl) := bA.cell 2
    have d3 : W.cell? ⟨B, 3, none⟩ = some (.int .u64 x.tick) := bA.cell 3
    have hbA := bA.lt
    have hszW : w1.heap.size + 2 ≤ W.heap.size := by omega
    clear kA hB bA
    have f0 := hb.free 0
    have c0 := hb.cell 0
    have c0' : W.cell? ⟨w.heap.size, 0, none⟩ = some v := c0
    have hoa : (W.alloc (.cells #[.int .u64 x.id, .int .u64 x.gen, .int .u64 x.dl, .int .u64 x.tick] 40)).ownsRow (w1.heap.size + 2) 40 4 v pre.length (cells4 pre) := owns_kept ho ((Kept.refl (fun _ => False) W).alloc _) (fun _ _ _ f => f)
    have hbz' : w1.heap.size + 2 ≤ (W.alloc (.cells #[.int .u64 x.id, .int .u64 x.gen, .int .u64 x.dl, .int .u64 x.tick] 40)).heap.size := by simp; omega
    clear c0
    gi_wp2_with (first | (gi_at_builtin; refine wpListIn_append _ rfl _ _ 22 rfl (w1.heap.size + 2) 40 i0 (.agg #[.int .u64 0, .int .u64 0, .int .u64 0, .int .u64 0]) 4 32 Try.underlying22 hi hz0 hz1 hz2 rfl (by decide) _ _ _ rfl (hoa) ⟨W.heap.size, 0, none⟩ 1 1 x.cl rfl rfl (by intro j u hj; rw [addr_add, Nat.zero_add]; exact ((Blk.newAt _ _ _ (by simp)).cell j).trans (by simpa [FiringV.cl] using hj)) (by intro u hu; simp only [FiringV.cl, List.mem_cons, List.not_mem_nil, or_false] at hu; rcases hu with rfl | rfl | rfl | rfl <;> rfl) (by unfold maxLen; omega) (by omega) (by first | omega | (simp; omega) | simp) ?_) | fail)
    intro v' w2 hap
    have hst : Still W (W.alloc (.cells #[.int .u64 x.id, .int .u64 x.gen, .int .u64 x.dl, .int .u64 x.tick] 40)) := (still_refl W).alloc _
    have hk2 : Kept (fun k => v.ownBlock = some k) W w2 := (hst.mono (fun _ _ f => f.elim)).grown hap.grown (fun k e hk => e)
    have hvb := owns_block ho
    have hb2 := hb.kept hk2 (fun e => by have := hvb _ e; omega)
    have hbb2 := hbb.kept hk2 (fun e => by have := hvb _ e; omega)
    have f2 := hb2.free 0
    have c2 := hb2.cell 0
    have ho2 := hap.owns
    obtain ⟨a', c', rfl⟩ := owns_slice ho2
    have hblk := hap.block
    have HHG := Lib.hid hG
    have HGL := Lib.hid hgl
    clear hgl
    have HG := Lib.hid hg
    have HK2 := Lib.hid hk2
    have HO2 := Lib.hid ho2
    have HBL := Lib.hid hblk
    have HVB := Lib.hid hvb
    have HHW := Lib.hid hw
    have HB2 := Lib.hid hb2
    have HBB2 := Lib.hid hbb2
    clear hap hoa hG hg hk2 ho2 hblk hvb hw hst hb2 hbb2 hb hbb
    gi_wp2
    refine ⟨Kept.setCell (HK2.out.mono (fun k hkl e => ?_)) (fun _ => ?_) _, _, HB2.out.set 0 _, ?_, fun b hb h9 => ?_, ?_, ?_, fun k hk => ?_⟩
    · have := HVB.out _ e
      refine ⟨by omega, by omega, by omega, HG.out k e⟩
    · exact ⟨by simp only; omega, by simp only; omega, by simp only; omega, fun h9 => by have := HHG.out _ h9; simp only at this; omega⟩
    · rw [List.length_append, cells4_snoc]
      exact owns_kept HO2.out (Kept.setCell (S := fun k => k = w.heap.size) (Kept.refl _ _) (fun _ => rfl) _) (by omega)
    · rcases HBL.out b hb with h8 | h8
      · exact HG.out b h8 h9
      · have := HGL.out b h9; simp at h8; omega
    · exact (HHW.out.step HK2.out (fun i hi e => .inr (by have := HVB.out _ e; omega))).step (Kept.setCell (S := fun k => k = w.heap.size) (Kept.refl _ _) (fun _ => rfl) _) (fun i hi e => .inr (by omega))
    · exact HBB2.out.other (by simp only; omega) _
    · have h8 := HGL.out k hk
      have h7 := HK2.out.size
      show k < (w2.setCell _ _).heap.size
      simp only [World.size_setCell]
      omega
  case tp => exact fun A B e h9 => by obtain ⟨a, b, h8⟩ := h9; exact ⟨a, b, e.trans h8⟩
  case done =>
    rintro ys G W hys ⟨v, hb, ho, hg, hw, hbb, _⟩ htp hK
    have c0 := hb.cell 0
    subst hys
    clear hg
    gi_wp2
    have hk3 := Kept.putObj (S := fun k => k = w1.heap.size) (l := w1.heap.size) (Kept.refl _ W) (.deferred none) rfl
    refine ⟨by simp, .inl ⟨_, _, rfl, run_takeDeferred hK, ?_⟩⟩
    have hwf := hw.step hk3 (fun i hi h => by omega)
    refine ⟨v, ?_, ⟨v, rfl, ?_⟩, ?_, ?_⟩
    · simp [results, Try.f27, go_sem]
    · exact owns_base (owns_kept ho hk3 (by omega)) (by omega)
    · exact ⟨H.out.blk.kept hwf (by omega), htp.kept hk3 (by omega), H.out.lw.kept hwf (fun x hx e => by
        rcases e with e | e
        · rw [e] at hx; exact hx H.out.sc
        · exact hx (H.out.lw.fresh x e)), H.out.kl, H.out.sp, H.out.sc, H.out.vals, H.out.n1⟩
    · exact hwf.mono (fun y hy e => by omega)
end Go.Proofs.Ytbikganlloopbaa
