/-
  What stands here: the least deadline. Under the condition that the library's table is as its initialiser lays it.
-/
import Derived.Test.YthinhbaklcijmaaDoorWheelFirst
import Derived.Test.YthinhbaklcijmaaDoorText
import Derived.Test.YthinhbaklcijmaaDoorWheelOne
namespace Go.Proofs.YthinhbaklcijmaaDoor
set_option linter.unusedVariables false
set_option linter.unusedSimpArgs false
open Go.RowKit Go.Proofs
attribute [local go_sem] Oper.semAt_some
theorem first_of_e (v : Nat) (w : World) : Calls Tryd.prog 25 #[.pointer (some ⟨v, 0, none⟩)] w fun e w' => e = .returned (.func (.func 46) #[] #[.pointer (some ⟨w.heap.size, 0, none⟩)]) ∧ Still w w' ∧ Blk w' w.heap.size #[.pointer (some ⟨v, 0, none⟩)] 25 := by
  go_enter Tryd.func25, Tryd.ntmps25
  go_wp2
  go_ret
  exact ⟨rfl, by (repeat (first | (with_reducible exact Kept.refl _ _) | (with_reducible refine Kept.drewN ?_ _) | (with_reducible refine Kept.drew ?_) | (with_reducible refine Kept.put ?_ _ _) | (with_reducible refine Kept.alloc ?_ _))), Blk.new _ _ _⟩
/-- the least of a number and deadlines -/
def lstOf (due : Nat → Nat) (l : List Nat) : Nat := l.foldl (fun a e => min a (due e)) 18446744073709551615
theorem lstOf_snoc (due : Nat → Nat) (l : List Nat) (e : Nat) : lstOf due (l ++ [e]) = min (lstOf due l) (due e) := by unfold lstOf; rw [List.foldl_append]; rfl
theorem lstOf_le (due : Nat → Nat) : ∀ (l : List Nat) (a e : Nat), e ∈ l → l.foldl (fun a e => min a (due e)) a ≤ due e
  | x :: l, a, e, h => by
    show l.foldl _ (min a (due x)) ≤ _
    have hm : ∀ (l : List Nat) (a : Nat), l.foldl (fun a e => min a (due e)) a ≤ a := fun l => by
      induction l with
      | nil => intro a; exact Nat.le_refl _
      | cons y l ih => intro a; exact Nat.le_trans (ih _) (Nat.min_le_left _ _)
    rcases List.mem_cons.1 h with h | h
    · rw [h]; exact Nat.le_trans (hm _ _) (Nat.min_le_right _ _)
    · exact lstOf_le due l _ e h
theorem lstOf_mem (due : Nat → Nat) : ∀ (l : List Nat) (a : Nat), l.foldl (fun a e => min a (due e)) a = a ∨ ∃ e, e ∈ l ∧ due e = l.foldl (fun a e => min a (due e)) a
  | [], a => .inl rfl
  | x :: l, a => by
    show l.foldl _ (min a (due x)) = a ∨ ∃ e, e ∈ x :: l ∧ due e = l.foldl _ (min a (due x))
    rcases lstOf_mem due l (min a (due x)) with h | ⟨e, he, h⟩
    · rw [h]
      rcases Nat.le_total a (due x) with h1 | h1
      · rw [Nat.min_eq_left h1]; exact .inl rfl
      · rw [Nat.min_eq_right h1]; exact .inr ⟨x, by simp, rfl⟩
    · exact .inr ⟨e, by simp [he], h⟩
theorem wnext_zero_e {s : LS} {v : Nat} {lv : Nat → Nat} {sl : Nat → Nat → Nat} {bd : Nat} {S : WSt} (w : World) (h : WB_e s v lv sl bd S [] 0 w) :
    Calls Tryd.prog 9 #[.pointer (some ⟨v, 0, none⟩)] w fun r w' => r = .returned (.tuple #[.int .u64 0, .int .i64 6]) ∧ w = w' := by
  have c6 : w.cell? ⟨v, 6, none⟩ = some (.int .i64 0) := h.blk.cell 6
  clear h
  go_enter Tryd.func9, Tryd.ntmps9
  go_wp2_with fail
  go_ret2
  exact ⟨rfl, rfl⟩
set_option maxHeartbeats 4000000 in
set_option maxRecDepth 100000 in
theorem wnext_e {s : LS} {v : Nat} {lv : Nat → Nat} {sl : Nat → Nat → Nat} {bd : Nat} {S : WSt} (w : World) (h : WB_e s v lv sl bd S [] (nAll S.pl) w) (hT : Tab w) (hbig : nAll S.pl < 80000) (hpos : 0 < nAll S.pl) :
    Calls Tryd.prog 9 #[.pointer (some ⟨v, 0, none⟩)] w fun r w' => r = .returned (.tuple #[.int .u64 (lstOf S.due (fsq S.pl 4) : Nat), .int .i64 0]) ∧ Below w.heap.size w w' := by
  have c6 : w.cell? ⟨v, 6, none⟩ = some (.int .i64 (nAll S.pl : Nat)) := h.blk.cell 6
  have hn0 : ((nAll S.pl : Nat) : Int) ≠ 0 := by omega
  have hb0 : (((nAll S.pl : Nat) : Int) == 0) = false := by rw [beq_eq_false_iff_ne]; exact hn0
  have H := Lib.hid h
  have HT := Lib.hid hT
  have hlt := hT.lt
  clear h hT hn0
  refine (callsIn_wide (n := 4)).1 ?_
  refine callsIn_of_wp_marks Tryd.func9 rfl trivial ?_ rfl
  simp only [Tryd.ntmps9, List.size_toArray, List.length_cons, List.length_nil, Nat.reduceAdd, Nat.reduceSub, Array.replicate_succ, Array.replicate_zero, List.push_toArray, List.append_toArray, List.nil_append, List.cons_append]
  gi_wp2_with fail
  refine ⟨trivial, callsIn_wide.2 ((first_of_e v _).mono ?_)⟩
  rintro e w1 ⟨rfl, k1, b1⟩
  have bR0 : Blk w1 w.heap.size #[.int .u64 18446744073709551615] 22 := (Blk.new w _ _).still k1
  have kw : Below w.heap.size w w1 := below_still ((Below.refl _ w).alloc (Nat.le_refl _) _) k1 (Nat.le_refl _)
  rw [World.size_alloc] at *
  have z1 := b1.lt
  clear c6
  gi_wp2_with fail
  have hfr : ∀ y, w.heap.size ≤ y → s.kd y = 0 := H.out.lw.fresh
  have hwb : ∀ W, Below w.heap.size w W → WB_e s v lv sl bd S [] (nAll S.pl) W := fun W hW => H.out.kept (kept_of_below hW) (fun y hy h9 => hy (hfr y h9))
  refine wpIn_range_true (T := w.heap.size + 1) rfl (by omega) (gf := 46) (lb := #[.pointer (some ⟨w.heap.size + 1, 0, none⟩)]) rfl trivial (enters_of Tryd.func46 (by kernel_rfl) rfl)
    (first1_e 3 (by omega) (s := s) (v := v) (lv := lv) (sl := sl) (bd := bd) (S := S) (m := nAll S.pl) (w.heap.size + 1) 25 hbig) z1 (fun W h9 => h9.trans b1) (fun _ => rfl)
    (fun pre G W => Blk W w.heap.size #[.int .u64 (lstOf S.due pre : Nat)] 22 ∧ Below w.heap.size w W)
    (fun pre G W h9 => ⟨hwb W h9.2, HT.out.below h9.2 hlt⟩)
    (fun pre G A B h9 k => ⟨h9.1.kept k (by omega), below_step h9.2 k (Nat.le_refl _) (by omega)⟩)
    (fun pre G G' A hG h9 => h9)
    ⟨bR0, kw⟩
    (fun x => { tmps := #[.pointer (some ⟨v, 0, none⟩), undef, .int .u64 0, .int .i64 0, .pointer (some ⟨w.heap.size, 0, none⟩), .pointer (some ⟨x, 0, none⟩), .pointer (some ⟨v, 0, none⟩), .bool false, .bool false, .pointer (some ⟨v, 0, none⟩), .pointer (some ⟨v, 0, none⟩), .pointer (some ⟨v, 6, none⟩), .int .i64 (nAll S.pl : Nat), .bool false, .bool false, .pointer (some ⟨v, 0, none⟩), .func (.func 46) #[] #[.pointer (some ⟨w.heap.size + 1, 0, none⟩)], .pointer (some ⟨x, 0, none⟩), undef, undef, undef, undef, undef, undef, undef], defers := [] }) ?assign ?body ?tp ?done
  case assign =>
    intro l x W K hK
    simp only [encE_e]
    gi_wp2
    exact hK
  case body =>
    rintro l' pre G x W hsz hG ⟨hb, hw⟩ ⟨rest, he⟩ hpl
    have f0 := hb.free 0
    have c0 : W.cell? ⟨w.heap.size, 0, none⟩ = some (.int .u64 (lstOf S.due pre : Nat)) := hb.cell 0
    have hxm : x ∈ fsq S.pl 4 := by rw [← he]; simp
    obtain ⟨q, g1, g2, g3, g4, g5⟩ := fsq_mem (pl := S.pl) 4 (by omega)
    rw [g3] at hxm
    have WB := hwb W hw
    obtain ⟨m1, m2, m3, m4, m5, m6, m7, m8, m9⟩ := WB.ent q x g1 hxm
    have cx : W.cell? ⟨x, 2, none⟩ = some (.int .u64 (S.due x)) := Blk.cell m2 2
    have hxl : x ≠ w.heap.size := fun e9 => by have := hfr x (by omega); rw [m1] at this; cases this
    have HB := Lib.hid hb.cells
    have HX := Lib.hid (Blk.cells m2)
    have HW := Lib.hid hw
    have HHG := Lib.hid hG
    have HBB := Lib.hid hb
    have hl64 : lstOf S.due pre < 18446744073709551616 := by
      have h9 : ∀ (l : List Nat) (a : Nat), l.foldl (fun a e => min a (S.due e)) a ≤ a := fun l => by
        induction l with
        | nil => intro a; exact Nat.le_refl _
        | cons y l ih => intro a; exact Nat.le_trans (ih _) (Nat.min_le_left _ _)
      have := h9 pre 18446744073709551615
      unfold lstOf; omega
    have hsn := lstOf_snoc S.due pre x
    have HSN := Lib.hid hsn
    clear WB m2 m3 m4 m5 m6 m7 m9 g2 g3 g4 g5 he hpl hsn hw hb hG
    generalize lstOf S.due pre = L at *
    generalize S.due x = dx at *
    gi_wp2_with fail
    refine wpIn_region_end (wide_round _) ([4], [9, 28]) [w.heap.size, x] rfl (by kernel_rfl) (by kernel_rfl) (by kernel_rfl) (by kernel_rfl) (cellsB_cons HB.out (cellsB_cons HX.out cellsB_nil)) (by simp [segs, isEff, isLoad, askOps, asks, ptrEq, eqOrNe, isNil]; rfl) ?_
    (repeat ((first | (refine segs_nil ?_) | (refine segs_go (stay_drew) ?_ ?_; focus (simp [isLoad]; done)) | (refine segs_load (stay_drew) ?_ ?_; focus (intro h; first | exact ⟨w.heap.size, _, rfl, by simp⟩ | exact ⟨x, _, rfl, by simp⟩ | (simp [Region.wanted, yielded, undef] at h; done))) | fail); go_wp2_with fail))
    have hmin : min (L : Int) (dx : Int) = ((min L dx : Nat) : Int) := by omega
    rw [hmin]
    refine ⟨Kept.drew (Kept.setCell (S := fun k => k ≠ w.heap.size + 1 ∧ k ≠ w1.heap.size ∧ k ≠ w1.heap.size + 1 ∧ ¬ G k) (Kept.refl _ W) (fun _ => ⟨by simp only; omega, by simp only; omega, by simp only; omega, fun h9 => by have := HHG.out _ h9; simp only at this; omega⟩) _), ?_, ?_⟩
    · show Blk _ _ #[.int .u64 (lstOf S.due (pre ++ [x]) : Nat)] _
      rw [HSN.out]
      exact (Blk.set' HBB.out rfl).drew
    · exact below_step HW.out (Kept.drew (Kept.setCell (S := fun k => k = w.heap.size) (Kept.refl _ W) (fun _ => rfl) _)) (Nat.le_refl _) (by omega)
  case tp => exact fun A B e h9 => e.trans h9
  case done =>
    rintro ys G W hys ⟨hb, hw⟩ htp hK
    have c0 : W.cell? ⟨w.heap.size, 0, none⟩ = some (.int .u64 (lstOf S.due ys : Nat)) := hb.cell 0
    subst hys
    gi_wp2
    have hk3 := Kept.putObj (S := fun k => k = w1.heap.size) (l := w1.heap.size) (Kept.refl _ W) (.deferred none) rfl
    refine ⟨by simp, .inl ⟨_, _, rfl, run_takeDeferred hK, ?_⟩⟩
    refine ⟨.tuple #[.int .u64 (lstOf S.due (fsq S.pl 4) : Nat), .int .i64 0], ?_, rfl, below_step hw hk3 (Nat.le_refl _) (by omega)⟩
    simp [results, Tryd.f9, go_sem]

end Go.Proofs.YthinhbaklcijmaaDoor
namespace Go.Proofs.YthinhbaklcijmaaDoor
set_option linter.unusedVariables false
set_option linter.unusedSimpArgs false
open Go.RowKit Go.Proofs
theorem xins2_e {s : LS} {v : Nat} {lv : Nat → Nat} {sl : Nat → Nat → Nat} {bd : Nat} {S : WSt} {w W : World} (h : WX_e s v lv sl bd S w W) (hbig : nAll S.pl < 80000) (dI : Int) (d : Nat) (hdI : dI = (d : Int)) (hlt : S.now < d) (hd : d < 18446744073709551616) (z : Int) :
    Calls Tryd.prog 8 #[.pointer (some ⟨v, 0, none⟩), .int .u64 dI, .int .i64 z] W fun r w' => r = .returned (.tuple #[.pointer (some ⟨W.heap.size, 0, none⟩), .int .i64 0]) ∧ ∃ s' S', WX_e s' v lv sl bd S' w w' ∧ XIns s s' S S' W.heap.size d (fun _ => .int .i64 z) W w' := by
  subst hdI; exact xins_e h hbig d hlt hd z
theorem xnext_e {s : LS} {v : Nat} {lv : Nat → Nat} {sl : Nat → Nat → Nat} {bd : Nat} {S : WSt} {w W : World} (h : WX_e s v lv sl bd S w W) (hT : Tab W) (hbig : nAll S.pl < 80000) (hex : ∃ e, Stands S.pl e) :
    Calls Tryd.prog 9 #[.pointer (some ⟨v, 0, none⟩)] W fun r w' => ∃ L : Nat, r = .returned (.tuple #[.int .u64 (L : Int), .int .i64 0]) ∧ (∃ e, Stands S.pl e ∧ S.due e = L) ∧ (∀ e, Stands S.pl e → L ≤ S.due e) ∧ Below W.heap.size W w' := by
  have hpos : 0 < nAll S.pl := by
    obtain ⟨e, q, hq, he⟩ := hex
    have h1 := le_nAll S.pl hq
    have h2 := List.length_pos_of_mem he
    omega
  refine (wnext_e W h.wb hT hbig hpos).mono ?_
  rintro r w1 ⟨rfl, bel⟩
  have hle : ∀ e, e ∈ fsq S.pl 4 → lstOf S.due (fsq S.pl 4) ≤ S.due e := fun e he => lstOf_le S.due _ _ e he
  have hmem : ∃ e, e ∈ fsq S.pl 4 ∧ S.due e = lstOf S.due (fsq S.pl 4) := by
    rcases lstOf_mem S.due (fsq S.pl 4) 18446744073709551615 with h1 | ⟨e, he, h1⟩
    · obtain ⟨e, he⟩ := List.exists_mem_of_ne_nil _ (fsq_some hex)
      refine ⟨e, he, ?_⟩
      obtain ⟨q, g1, g2, g3, g4, g5⟩ := fsq_mem (pl := S.pl) 4 (by omega)
      have hd := (h.wb.ent q e g1 (g3 ▸ he)).2.2.2.2.2.2.2.1
      have h2 := hle e he
      unfold lstOf at h2 ⊢
      rw [h1] at h2 ⊢
      omega
    · exact ⟨e, he, h1⟩
  obtain ⟨g1, g2⟩ := h.right.least hmem hle
  exact ⟨_, rfl, g1, g2, bel⟩

end Go.Proofs.YthinhbaklcijmaaDoor
