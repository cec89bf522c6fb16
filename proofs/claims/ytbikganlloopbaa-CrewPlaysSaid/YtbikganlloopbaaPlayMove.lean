/-
  What stands here: the document's world and its workers, and what May answers. Under no condition but that the world holds them.
-/
import Derived.Test.YtbikganlloopbaaPlayRef
import Derived.Test.YtbikganlloopbaaCrewSt
namespace Go.Proofs.Ytbikganlloopbaa
set_option linter.unusedVariables false
set_option linter.unusedSimpArgs false
open Go.RowKit Go.Proofs
/-- the cells of a worker of the document -/
def docW (ho : Option FiringV) (n : Int) : Array Value := #[.bool ho.isSome, .int .u64 (ho.getD zF).id, .int .u64 (ho.getD zF).gen, .int .u64 (ho.getD zF).dl, .int .u64 (ho.getD zF).tick, .int .i64 n]
/-- the document's world: 9 its block, 7 its pipe, 8 its log, 4 its workers -/
structure Doc (col : Nat → Nat) (R N n : Nat) (sl : Option Addr) (sh : Value) (s : CSt) (vs : List Nat) (W : World) : Prop where
  bl : ∃ pv lv, BlkC col 9 W R (worldC N n sl sh s.bz pv lv) 69 ∧ Owns col 7 W 40 4 pv s.xs.length (cells4 s.xs) ∧ Owns col 8 W 40 4 lv s.logs.length (cells4 s.logs)
  wk : ∀ i v, vs[i]? = some v → BlkC col 4 W v (docW (s.hs i) (s.ns i)) 60
  nd : vs.Nodup
section
variable {col : Nat → Nat} {R N n : Nat} {sl : Option Addr} {sh : Value} {s : CSt} {vs : List Nat} {W : World}
set_option maxHeartbeats 2000000 in
set_option maxRecDepth 100000 in
theorem rmay (h : Doc col R N n sl sh s vs W) (hb : s.xs.length < 100000) {i v : Nat} (hv : vs[i]? = some v) :
    Calls Try.prog 24 #[.pointer (some ⟨R, 0, none⟩), .pointer (some ⟨v, 0, none⟩)] W fun e w' => e = .returned (.bool (s.may i)) ∧ W = w' := by
  obtain ⟨pv, lv, hR, hp, hl⟩ := h.bl
  have hw := h.wk i v hv
  obtain ⟨a, c, rfl⟩ := owns_slice hp.1
  have c13 : W.cell? ⟨R, 13, none⟩ = some (.slice a s.xs.length c) := hR.1.cell 13
  have d0 : W.cell? ⟨v, 0, none⟩ = some (.bool (s.hs i).isSome) := hw.1.cell 0
  unfold CSt.may
  clear h hR hp hl hw
  cases hh : (s.hs i).isSome with
  | true =>
    rw [hh] at d0
    go_enter Try.func24, Try.ntmps24
    go_wp2_with fail
    go_ret
    exact ⟨by simp, rfl⟩
  | false =>
    rw [hh] at d0
    generalize s.xs.length = X at *
    by_cases hX : 0 < X
    · have hd : decide ((X : Int) > 0) = true := decide_eq_true (by omega)
      have hd2 : decide (0 < X) = true := decide_eq_true hX
      rw [hd2]
      go_enter Try.func24, Try.ntmps24
      go_wp2_with fail
      go_ret
      exact ⟨by simp, rfl⟩
    · obtain rfl : X = 0 := by omega
      go_enter Try.func24, Try.ntmps24
      go_wp2_with fail
      go_ret
      exact ⟨by simp, rfl⟩
def DM (c : Nat) : Prop := c = 4 ∨ c = 7 ∨ c = 8 ∨ c = 9
set_option maxHeartbeats 4000000 in
set_option maxRecDepth 100000 in
theorem rstep_put (h : Doc col R N n sl sh s vs W) {x : FiringV} {i v : Nat} (hh : s.hs i = some x) (hbz : 1 ≤ s.bz ∧ s.bz < 100000) (hn : 0 ≤ s.ns i ∧ s.ns i < 1000000) (hL : s.logs.length < 1000000) (hv : vs[i]? = some v) :
    Calls Try.prog 25 #[.pointer (some ⟨R, 0, none⟩), .pointer (some ⟨v, 0, none⟩)] W fun e w' => e = .returned (.tuple #[]) ∧ ∃ col', Move DM col col' W w' ∧ Doc col' R N n sl sh ⟨s.xs, s.logs ++ [x], upd s.hs i none, upd s.ns i (s.ns i + 1), s.bz - 1⟩ vs w' := by
  obtain ⟨j0, hj, hj0, hj1, hj2⟩ := info_parts infoFiring
  obtain ⟨pv, lv, hR, hp, hl⟩ := h.bl
  have hw := h.wk i v hv
  rw [hh] at hw
  obtain ⟨LL, hLL⟩ : ∃ LL, LL = s.logs.length := ⟨_, rfl⟩
  rw [← hLL] at hl hL
  obtain ⟨a, c, rfl⟩ := owns_slice hl.1
  obtain ⟨vi, vg, vd, vt⟩ := x
  have hvR : v ≠ R := fun e => by
    have h1 := hw.2
    have h2 := hR.2
    rw [e] at h1
    omega
  have e15 : W.cell? ⟨R, 15, none⟩ = some (.slice a LL c) := hR.1.cell 15
  have d0 : W.cell? ⟨v, 0, none⟩ = some (.bool true) := hw.1.cell 0
  have d1 : W.cell? ⟨v, 1, none⟩ = some (.int .u64 vi) := hw.1.cell 1
  have d2 : W.cell? ⟨v, 2, none⟩ = some (.int .u64 vg) := hw.1.cell 2
  have d3 : W.cell? ⟨v, 3, none⟩ = some (.int .u64 vd) := hw.1.cell 3
  have d4 : W.cell? ⟨v, 4, none⟩ = some (.int .u64 vt) := hw.1.cell 4
  have HR := Lib.hid hR
  have HW := Lib.hid hw
  have HL := Lib.hid hl
  have HP := Lib.hid hp
  have H := Lib.hid h
  have HLL := Lib.hid hLL
  have HV := Lib.hid (And.intro hvR hv)
  have CR := Lib.hid hR.1.cells
  have CW := Lib.hid hw.1.cells
  have hAl : ∀ b, b ∈ [R, v] → b < W.heap.size := fun b hb => by
    simp only [List.mem_cons, List.not_mem_nil, or_false] at hb
    rcases hb with rfl | rfl
    · exact HR.out.1.lt
    · exact HW.out.1.lt
  have HAL := Lib.hid hAl
  have hoa := hl.alloc (.cells #[.int .u64 vi, .int .u64 vg, .int .u64 vd, .int .u64 vt] 40)
  clear hAl hR hw hl hp h hLL hv
  go_enter Try.func25, Try.ntmps25
  go_upto_region 1 with fail
  refine wp_region_end ([4], [9, 54]) [R, v] rfl (by kernel_rfl) (by kernel_rfl) (by kernel_rfl) (cellsB_cons CR.out (cellsB_cons CW.out cellsB_nil)) (by simp [segs, isEff, isLoad, askOps, asks, ptrEq, eqOrNe, isNil]; rfl) ?_
  (repeat ((first | (refine segs_nil ?_) | (refine segs_go (stay_drew) ?_ ?_; focus (simp [isLoad]; done)) | (refine segs_load (stay_drew) ?_ ?_; focus (intro h; first | exact ⟨R, _, rfl, by simp⟩ | exact ⟨v, _, rfl, by simp⟩ | (simp [Region.wanted, yielded, undef] at h; done))) | fail); go_wp2_with fail))
  refine segs_go (stay_still (((still_refl W).alloc _).drewN 1) HAL.out) (by simp [isLoad]) ?_
  go_wp2_with (first | (at_builtin; go_loud (refine wpList_append _ rfl _ _ 22 rfl 0 40 j0 (.agg #[.int .u64 0, .int .u64 0, .int .u64 0, .int .u64 0]) 4 32 Try.underlying22 hj hj0 hj1 hj2 rfl (by decide) _ _ _ rfl hoa ⟨W.heap.size, 0, none⟩ 1 1 [.int .u64 vi, .int .u64 vg, .int .u64 vd, .int .u64 vt] rfl rfl (by intro j u hj; rw [addr_add, Nat.zero_add]; exact ((Blk.newAt _ _ _ (by simp)).cell j).trans (by simpa using hj)) (by intro u hu; simp only [List.mem_cons, List.not_mem_nil, or_false] at hu; rcases hu with rfl | rfl | rfl | rfl <;> rfl) (by unfold maxLen; omega) (by omega) (Nat.zero_le _) ?_)) | fail)
  intro v5 w5 hap
  obtain ⟨o5, m5⟩ : Owns (ext col W.heap.size 8) 8 w5 40 4 v5 (LL + 1) (cells4 s.logs ++ [.int .u64 vi, .int .u64 vg, .int .u64 vd, .int .u64 vt]) ∧ Move (· = 8) col (ext col W.heap.size 8) W w5 := by
    obtain ⟨h1, h2⟩ := Owns.more (w := W.drew) HL.out hap
    exact ⟨h1, h2.1, ((still_refl W).drewN 1 |>.mono fun _ _ f => f.elim : Kept _ W W.drew).step h2.2 (fun i _ e => e)⟩
  obtain ⟨a5, c5, rfl⟩ := owns_slice o5.1
  have R5 := HR.out.move m5 (by omega)
  have V5 := HW.out.move m5 (by omega)
  have P5 := HP.out.move m5 (by omega)
  have st5 : StayB [R, v] W w5 := StayB.kept (w := W) (fun _ _ => rfl) m5.k (fun b hb => ⟨HAL.out b hb, by
    simp only [List.mem_cons, List.not_mem_nil, or_false] at hb
    rcases hb with rfl | rfl
    · rw [HR.out.2]; omega
    · rw [HW.out.2]; omega⟩)
  have O5 := Lib.hid o5
  have M5 := Lib.hid m5
  have HR5 := Lib.hid R5
  have HV5 := Lib.hid V5
  have HP5 := Lib.hid P5
  have e15 : w5.cell? ⟨R, 15, none⟩ = some (.slice a LL c) := R5.1.cell 15
  have g15 := R5.1.free 15
  have e9 : w5.cell? ⟨R, 9, none⟩ = some (.int .i64 s.bz) := R5.1.cell 9
  have g9 := R5.1.free 9
  have d0 : w5.cell? ⟨v, 0, none⟩ = some (.bool true) := V5.1.cell 0
  have d1 : w5.cell? ⟨v, 1, none⟩ = some (.int .u64 vi) := V5.1.cell 1
  have d2 : w5.cell? ⟨v, 2, none⟩ = some (.int .u64 vg) := V5.1.cell 2
  have d3 : w5.cell? ⟨v, 3, none⟩ = some (.int .u64 vd) := V5.1.cell 3
  have d4 : w5.cell? ⟨v, 4, none⟩ = some (.int .u64 vt) := V5.1.cell 4
  have d5 : w5.cell? ⟨v, 5, none⟩ = some (.int .i64 (s.ns i)) := V5.1.cell 5
  have f0 := V5.1.free 0
  have f1 := V5.1.free 1
  have f2 := V5.1.free 2
  have f3 := V5.1.free 3
  have f4 := V5.1.free 4
  have f5 := V5.1.free 5
  have hwb : wrap64 (s.bz - 1) = s.bz - 1 := wrap64_in _ (by omega) (by omega)
  have hwn : wrap64 (s.ns i + 1) = s.ns i + 1 := wrap64_in _ (by omega) (by omega)
  clear hap o5 m5 R5 V5 P5 hoa
  go_wp2_with fail
  refine segs_go st5 (by simp [isLoad]) ?_
  go_wp2_with fail
  refine segs_nil ?_
  go_wp2_with fail
  obtain ⟨hvR, hv⟩ := HV.out
  obtain ⟨w7, hw7⟩ : ∃ w7, w7 = (w5.setCell ⟨R, 15, none⟩ (.slice a5 (LL + 1) c5)).setCell ⟨R, 9, none⟩ (.int .i64 (s.bz - 1)) := ⟨_, rfl⟩
  rw [← hw7]
  obtain ⟨w8, hw8⟩ : ∃ w8, w8 = (((((w7.setCell ⟨v, 0, none⟩ (.bool false)).setCell ⟨v, 1, none⟩ (.int .u64 0)).setCell ⟨v, 2, none⟩ (.int .u64 0)).setCell ⟨v, 3, none⟩ (.int .u64 0)).setCell ⟨v, 4, none⟩ (.int .u64 0)).setCell ⟨v, 5, none⟩ (.int .i64 (s.ns i + 1)) := ⟨_, rfl⟩
  rw [← hw8]
  have k7 : Kept (fun y => y = R) w5 w7 := by rw [hw7]; exact (Kept.refl (fun y => y = R) w5).put 15 _ |>.put 9 _
  have k8 : Kept (fun y => y = v) w7 w8 := by rw [hw8]; exact (Kept.refl (fun y => y = v) w7).put 0 _ |>.put 1 _ |>.put 2 _ |>.put 3 _ |>.put 4 _ |>.put 5 _
  have bR : Blk w8 R (worldC N n sl sh (s.bz - 1) pv (.slice a5 (LL + 1) c5)) 69 := Blk.kept (by rw [hw7]; exact (HR5.out.1.set' rfl).set' rfl) k8 (fun e => hvR e.symm)
  have bV : Blk w8 v (docW none (s.ns i + 1)) 60 := by rw [hw8]; exact ((((((HV5.out.1.kept k7 hvR).set' rfl).set' rfl).set' rfl).set' rfl).set' rfl).set' rfl
  have kk : Kept (fun y => y = R ∨ y = v) w5 w8 := (k7.mono fun _ _ h => .inl h).step k8 (fun _ _ h => .inr h)
  have m8 : Move (fun c => c = 4 ∨ c = 9) (ext col W.heap.size 8) (ext col W.heap.size 8) w5 w8 := .still' kk (fun y hy => by
    rcases hy with rfl | rfl
    · exact .inr HR5.out.2
    · exact .inl HV5.out.2)
  have mM : Move DM col (ext col W.heap.size 8) W w8 := (M5.out.mono (T := DM) fun c h => Or.inr (Or.inr (Or.inl h))).trans (m8.mono (T := DM) fun c h => by
    rcases h with h | h
    · exact .inl h
    · exact .inr (.inr (.inr h)))
  refine bodyPost_ret (v := .tuple #[]) (by simp [results, Try.f25, go_sem]) rfl ?_
  have hdoc : ∃ pv lv, BlkC (ext col W.heap.size 8) 9 w8 R (worldC N n sl sh (s.bz - 1) pv lv) 69 ∧ Owns (ext col W.heap.size 8) 7 w8 40 4 pv s.xs.length (cells4 s.xs) ∧ Owns (ext col W.heap.size 8) 8 w8 40 4 lv (s.logs ++ [FiringV.mk vi vg vd vt]).length (cells4 (s.logs ++ [FiringV.mk vi vg vd vt])) := by
    refine ⟨pv, .slice a5 (LL + 1) c5, ⟨bR, HR5.out.2⟩, HP5.out.move m8 (by omega), ?_⟩
    rw [cells4_snoc, List.length_append, ← HLL.out]
    exact O5.out.move m8 (by omega)
  refine ⟨rfl, ext col W.heap.size 8, mM, Doc.mk hdoc (fun j v' hv' => ?_) H.out.nd⟩
  · show BlkC _ 4 w8 v' (docW (upd s.hs i none j) (upd s.ns i (s.ns i + 1) j)) _
    by_cases hj : j = i
    · subst hj
      rw [hv] at hv'
      obtain rfl := Option.some.inj hv'
      rw [upd_same, upd_same]
      exact ⟨bV, HV5.out.2⟩
    · rw [upd_ne _ _ hj, upd_ne _ _ hj]
      have h9 := (H.out.wk j v' hv').move M5.out (by omega)
      refine ⟨h9.1.kept kk (fun e => ?_), h9.2⟩
      rcases e with rfl | rfl
      · have := HR5.out.2; have := h9.2; omega
      · exact hj ((List.getElem?_inj (List.getElem?_eq_some_iff.1 hv').1 H.out.nd).1 (hv'.trans hv.symm))
end
end Go.Proofs.Ytbikganlloopbaa
namespace Go.Proofs.Ytbikganlloopbaa
set_option linter.unusedVariables false
set_option linter.unusedSimpArgs false
open Go.RowKit Go.Proofs
/-- the world behind the worker's own stores -/
def tookW (W : World) (v : Nat) (x : FiringV) : World := ((((W.setCell ⟨v, 1, none⟩ (.int .u64 x.id)).setCell ⟨v, 2, none⟩ (.int .u64 x.gen)).setCell ⟨v, 3, none⟩ (.int .u64 x.dl)).setCell ⟨v, 4, none⟩ (.int .u64 x.tick)).setCell ⟨v, 0, none⟩ (.bool true)
theorem took_kept (W : World) (v : Nat) (x : FiringV) : Kept (fun y => y = v) W (tookW W v x) := (Kept.refl (fun y => y = v) W).put 1 _ |>.put 2 _ |>.put 3 _ |>.put 4 _ |>.put 0 _
section
variable {col : Nat → Nat} {R N n : Nat} {sl : Option Addr} {sh : Value} {s : CSt} {vs : List Nat} {W : World}
theorem took_blk {col : Nat → Nat} {v : Nat} {k : Int} {W : World} (h : BlkC col 4 W v (docW none k) 60) (x : FiringV) : BlkC col 4 (tookW W v x) v (docW (some x) k) 60 :=
  ⟨((((h.1.set' rfl).set' rfl).set' rfl).set' rfl).set' rfl, h.2⟩
theorem doc_take (h : Doc col R N n sl sh s vs W) {i v : Nat} (hv : vs[i]? = some v) {x : FiringV} {rest : List FiringV} (hh : s.hs i = none) (hx : s.xs = x :: rest) {col5 : Nat → Nat} {w5 : World} {v5 : Value} (m5 : Move (· = 7) col col5 (tookW W v x) w5) (o5 : Owns col5 7 w5 40 4 v5 rest.length (cells4 rest)) :
    ∃ col', Move DM col col' W ((w5.setCell ⟨R, 13, none⟩ v5).setCell ⟨R, 9, none⟩ (.int .i64 (s.bz + 1))) ∧ Doc col' R N n sl sh ⟨rest, s.logs, upd s.hs i (some x), s.ns, s.bz + 1⟩ vs ((w5.setCell ⟨R, 13, none⟩ v5).setCell ⟨R, 9, none⟩ (.int .i64 (s.bz + 1))) := by
  obtain ⟨pv, lv, hR, hp, hl⟩ := h.bl
  have hw := h.wk i v hv
  rw [hh] at hw
  have hvR : v ≠ R := fun e => by
    have h1 := hw.2
    have h2 := hR.2
    rw [e] at h1
    omega
  have k1 := took_kept W v x
  have m1 : Move (fun c => c = 4) col col W (tookW W v x) := .still' k1 (fun y hy => by rw [hy]; exact hw.2)
  have hR5 := (hR.move m1 (by omega)).move m5 (by omega)
  have hl5 := (hl.move m1 (by omega)).move m5 (by omega)
  have hw5 := (took_blk hw x).move m5 (by omega)
  have k8 : Kept (fun y => y = R) w5 ((w5.setCell ⟨R, 13, none⟩ v5).setCell ⟨R, 9, none⟩ (.int .i64 (s.bz + 1))) := (Kept.refl (fun y => y = R) w5).put 13 _ |>.put 9 _
  have m8 : Move (fun c => c = 9) col5 col5 w5 ((w5.setCell ⟨R, 13, none⟩ v5).setCell ⟨R, 9, none⟩ (.int .i64 (s.bz + 1))) := .still' k8 (fun y hy => by rw [hy]; exact hR5.2)
  have hR8 : BlkC col5 9 ((w5.setCell ⟨R, 13, none⟩ v5).setCell ⟨R, 9, none⟩ (.int .i64 (s.bz + 1))) R (worldC N n sl sh (s.bz + 1) v5 lv) 69 := ⟨(hR5.1.set' rfl).set' rfl, hR5.2⟩
  refine ⟨col5, (m1.mono (T := DM) fun c e => Or.inl e).trans ((m5.mono (T := DM) fun c e => Or.inr (Or.inl e)).trans (m8.mono (T := DM) fun c e => Or.inr (Or.inr (Or.inr e)))), Doc.mk ⟨v5, lv, hR8, o5.move m8 (by omega), hl5.move m8 (by omega)⟩ (fun j v' hv' => ?_) h.nd⟩
  show BlkC _ 4 _ v' (docW (upd s.hs i (some x) j) (s.ns j)) _
  by_cases hj : j = i
  · subst hj
    rw [hv] at hv'
    obtain rfl := Option.some.inj hv'
    rw [upd_same]
    exact hw5.move m8 (by omega)
  · rw [upd_ne _ _ hj]
    have h9 := h.wk j v' hv'
    have hne : v' ≠ v := fun e => by
      subst e
      exact hj ((List.getElem?_inj (List.getElem?_eq_some_iff.1 hv').1 h.nd).1 (hv'.trans hv.symm))
    exact ((show BlkC col 4 (tookW W v x) v' _ _ from ⟨h9.1.kept k1 hne, h9.2⟩).move m5 (by omega)).move m8 (by omega)
set_option maxHeartbeats 4000000 in
set_option maxRecDepth 100000 in
theorem rstep_take (h : Doc col R N n sl sh s vs W) {i v : Nat} {x : FiringV} {rest : List FiringV} (hh : s.hs i = none) (hx : s.xs = x :: rest) (hbz : 0 ≤ s.bz ∧ s.bz < 100000) (hL : rest.length < 1000000) (hv : vs[i]? = some v) :
    Calls Try.prog 25 #[.pointer (some ⟨R, 0, none⟩), .pointer (some ⟨v, 0, none⟩)] W fun e w' => e = .returned (.tuple #[]) ∧ ∃ col', Move DM col col' W w' ∧ Doc col' R N n sl sh ⟨rest, s.logs, upd s.hs i (some x), s.ns, s.bz + 1⟩ vs w' := by
  obtain ⟨j0, hj, hj0, hj1, hj2⟩ := info_parts infoFiring
  obtain ⟨pv, lv, hR, hp, hl⟩ := h.bl
  have hw := h.wk i v hv
  rw [hh] at hw
  have FIN := Lib.hid (fun (col5 : Nat → Nat) (w5 : World) (v5 : Value) (m5 : Move (· = 7) col col5 (tookW W v x) w5) (o5 : Owns col5 7 w5 40 4 v5 rest.length (cells4 rest)) => doc_take h hv hh hx m5 o5)
  rw [hx] at hp
  obtain ⟨L, hLe⟩ : ∃ L, L = rest.length := ⟨_, rfl⟩
  have hvR : v ≠ R := fun e => by
    have h1 := hw.2
    have h2 := hR.2
    rw [e] at h1
    omega
  obtain ⟨g, cap, rfl, hgc, hgl, hcap, hcm, hgcs, hgx⟩ := hp.row_at (by rw [List.length_cons]; omega)
  have hvg : v ≠ g := fun e => by
    have h1 := hw.2
    rw [e] at h1
    omega
  rw [List.length_cons, ← hLe] at hR hp hcap hgx
  have e13 : W.cell? ⟨R, 13, none⟩ = some (.slice (some ⟨g, 0, none⟩) (L + 1) cap) := hR.1.cell 13
  obtain ⟨vi, vg, vd, vt⟩ := x
  have q0 : W.cell? ⟨g, 0, none⟩ = some (.int .u64 vi) := hgx 0 (by omega)
  have q1 : W.cell? ⟨g, 1, none⟩ = some (.int .u64 vg) := hgx 1 (by omega)
  have q2 : W.cell? ⟨g, 2, none⟩ = some (.int .u64 vd) := hgx 2 (by omega)
  have q3 : W.cell? ⟨g, 3, none⟩ = some (.int .u64 vt) := hgx 3 (by omega)
  have d0 : W.cell? ⟨v, 0, none⟩ = some (.bool false) := hw.1.cell 0
  have d1 : W.cell? ⟨v, 1, none⟩ = some (.int .u64 0) := hw.1.cell 1
  have d2 : W.cell? ⟨v, 2, none⟩ = some (.int .u64 0) := hw.1.cell 2
  have d3 : W.cell? ⟨v, 3, none⟩ = some (.int .u64 0) := hw.1.cell 3
  have d4 : W.cell? ⟨v, 4, none⟩ = some (.int .u64 0) := hw.1.cell 4
  have f0 := hw.1.free 0
  have f1 := hw.1.free 1
  have f2 := hw.1.free 2
  have f3 := hw.1.free 3
  have f4 := hw.1.free 4
  have HR := Lib.hid hR
  have HW := Lib.hid hw
  have HP := Lib.hid hp
  have H := Lib.hid h
  have HLe := Lib.hid hLe
  have HX := Lib.hid (And.intro hgc (And.intro hvR hvg))
  have HGX := Lib.hid hgx
  have hcm' : cap ≤ 9223372036854775807 := hcm
  have hLb : L < 1000000 := by rw [hLe]; exact hL
  clear hR hw hl hp h hLe hx hgx hgcs hcm hL hv hvR hvg hgc
  go_enter Try.func25, Try.ntmps25
  go_upto_region 8 with fail
  obtain ⟨w1, hw1⟩ : ∃ w1, w1 = tookW W v ⟨vi, vg, vd, vt⟩ := ⟨_, rfl⟩
  rw [show ((((W.setCell ⟨v, 1, none⟩ (.int .u64 vi)).setCell ⟨v, 2, none⟩ (.int .u64 vg)).setCell ⟨v, 3, none⟩ (.int .u64 vd)).setCell ⟨v, 4, none⟩ (.int .u64 vt)).setCell ⟨v, 0, none⟩ (.bool true) = w1 from hw1.symm]
  obtain ⟨hgc, hvR, hvg⟩ := HX.out
  have k1 : Kept (fun y => y = v) W w1 := by rw [hw1]; exact took_kept W v _
  have m1 : Move (fun c => c = 4) col col W w1 := .still' k1 (fun y hy => by rw [hy]; exact HW.out.2)
  rw [← hw1] at FIN
  have R1 := HR.out.move m1 (by omega)
  have P1 := HP.out.move m1 (by omega)
  have HR1 := Lib.hid R1
  have HP1 := Lib.hid P1
  have CR := Lib.hid R1.1.cells
  have e13 : w1.cell? ⟨R, 13, none⟩ = some (.slice (some ⟨g, 0, none⟩) (L + 1) cap) := R1.1.cell 13
  have g13 := R1.1.free 13
  have hAl : ∀ b, b ∈ [R] → b < w1.heap.size := fun b hb => by
    simp only [List.mem_singleton] at hb
    rw [hb]; exact HR1.out.1.lt
  have HAL := Lib.hid hAl
  have HG1 : Hid (∀ j, j < (L + 1) * 4 → w1.cell? ⟨g, j, none⟩ = (cells4 (⟨vi, vg, vd, vt⟩ :: rest))[j]?) := Lib.hid (fun j hj => (World.cell?_of_block (a := ⟨g, j, none⟩) (k1.block g hgl (fun e => hvg e.symm))).trans (HGX.out j hj))
  clear q0 q1 q2 q3 d0 d1 d2 d3 d4 f0 f1 f2 f3 f4 k1 m1 R1 P1 hAl hw1 hvR hvg hgc
  have hoe : (w1.alloc (.cells #[] 40)).ownsRow 0 40 4 (.slice (some ⟨w1.heap.size, 0, none⟩) 0 0) 0 [] :=
    ⟨rfl, .inr ⟨w1.heap.size, 0, #[], rfl, Nat.zero_le _, Blk.new _ _ _, Nat.le_refl _, Nat.zero_le _, rfl, rfl⟩⟩
  have e9 : w1.cell? ⟨R, 9, none⟩ = some (.int .i64 s.bz) := HR1.out.1.cell 9
  have g9 := HR1.out.1.free 9
  have hgR : R < w1.heap.size := HR1.out.1.lt
  have hgW : g < w1.heap.size := by
    have h9 := HG1.out 0 (by omega)
    rw [show (cells4 (⟨vi, vg, vd, vt⟩ :: rest))[0]? = some (.int .u64 vi) from rfl] at h9
    exact lt_of_cell h9
  have hnews : ∀ j u, (cells4 rest)[j]? = some u → (w1.alloc (.cells #[] 40)).cell? ((⟨g, 4, none⟩ : Addr).add j) = some u := fun j u hj => by
    have hlt := (List.getElem?_eq_some_iff.1 hj).1
    rw [cells4_len, ← HLe.out] at hlt
    have e1 := HG1.out (4 + j) (by omega)
    have e2 : (w1.alloc (.cells #[] 40)).cell? ⟨g, 4 + j, none⟩ = w1.cell? ⟨g, 4 + j, none⟩ := World.cell?_of_block (a := ⟨g, 4 + j, none⟩) (Below.heap_alloc _ _ _ hgW)
    rw [show (⟨g, 4, none⟩ : Addr).add j = ⟨g, 4 + j, none⟩ by simp [Addr.add], e2, e1, ← hj]
    rw [show 4 + j = j + 1 + 1 + 1 + 1 by omega]
    rfl
  have hone : ∀ u ∈ cells4 rest, u.oneCell' = true := fun u hu => by
    unfold cells4 at hu
    obtain ⟨x, -, hx⟩ := List.mem_flatMap.1 hu
    simp only [FiringV.cl, List.mem_cons, List.not_mem_nil, or_false] at hx
    rcases hx with rfl | rfl | rfl | rfl <;> rfl
  have hcl : (cells4 rest).length = L * 4 := by rw [cells4_len, ← HLe.out]
  have hz0 : rest = [] → ∃ col', Move DM col col' W (((w1.setCell ⟨R, 13, none⟩ (.slice (some ⟨w1.heap.size, 0, none⟩) 0 0)).setCell ⟨R, 9, none⟩ (.int .i64 (s.bz + 1))).alloc (.cells #[] 40)) ∧ Doc col' R N n sl sh ⟨rest, s.logs, upd s.hs i (some ⟨vi, vg, vd, vt⟩), s.ns, s.bz + 1⟩ vs (((w1.setCell ⟨R, 13, none⟩ (.slice (some ⟨w1.heap.size, 0, none⟩) 0 0)).setCell ⟨R, 9, none⟩ (.int .i64 (s.bz + 1))).alloc (.cells #[] 40)) := fun e0 => by
    have e1 : ((w1.alloc (.cells #[] 40)).setCell ⟨R, 13, none⟩ (.slice (some ⟨w1.heap.size, 0, none⟩) 0 0)).setCell ⟨R, 9, none⟩ (.int .i64 (s.bz + 1)) = ((w1.setCell ⟨R, 13, none⟩ (.slice (some ⟨w1.heap.size, 0, none⟩) 0 0)).setCell ⟨R, 9, none⟩ (.int .i64 (s.bz + 1))).alloc (.cells #[] 40) := by
      rw [World.setCell_alloc_past _ _ _ _ hgR, World.setCell_alloc_past _ _ _ _ (by rw [World.size_setCell]; exact hgR)]
    rw [← e1]
    have k : Kept (fun x => col x = 7) w1 (w1.alloc (.cells #[] 40)) := (Kept.refl _ w1).alloc _
    refine FIN.out (ext col w1.heap.size 7) _ _ (Move.ext k 7) ?_
    subst e0
    exact ⟨hoe, fun g' hg' => by
      simp only [Value.ownBlock, Option.some.injEq] at hg'
      rw [← hg']; exact ext_new _ (Nat.le_refl _)⟩
  have ZERO := Lib.hid hz0
  clear hz0
  by_cases hr : L = 0
  · subst hr
    have hr0 : rest = [] := List.length_eq_zero_iff.1 HLe.out.symm
    by_cases hc1 : cap = 1
    · subst hc1
      go_wp2_with fail
      go_end0
      exact ⟨rfl, ZERO.out hr0⟩
    · have hc2 : 1 < cap := by omega
      go_wp2_with fail
      go_end0
      exact ⟨rfl, ZERO.out hr0⟩
  · have hc2 : 1 < cap := by omega
    go_wp2_with (first | (at_builtin; go_loud (refine wpList_append _ rfl _ _ 22 rfl 0 40 j0 (.agg #[.int .u64 0, .int .u64 0, .int .u64 0, .int .u64 0]) 4 32 Try.underlying22 hj hj0 hj1 hj2 rfl (by decide) _ _ _ rfl hoe ⟨g, 4, none⟩ L (cap - 1) (cells4 rest) rfl hcl hnews hone (by unfold maxLen; omega) (by omega) (Nat.zero_le _) ?_)) | fail)
    intro v5 w5 hap
    have kA : Kept (fun x => col x = 7) w1 (w1.alloc (.cells #[] 40)) := (Kept.refl _ w1).alloc _
    have k5 : Kept (fun x => col x = 7) w1 w5 := hap.kept (Kept.refl _ w1) (fun b hlt hb => by
      simp only [Value.ownBlock, Option.some.injEq] at hb
      omega)
    have m5 : Move (· = 7) col (ext col w1.heap.size 7) w1 w5 := Move.ext k5 7
    have o5 : Owns (ext col w1.heap.size 7) 7 w5 40 4 v5 L (cells4 rest) := ⟨hap.owns, fun g' hg' => ext_new _ (by
      rcases hap.block g' hg' with h9 | h9
      · simp only [Value.ownBlock, Option.some.injEq] at h9; omega
      · have h8 := World.size_alloc w1 (.cells #[] 40); omega)⟩
    have R5 := HR1.out.move m5 (by omega)
    have e13 : w5.cell? ⟨R, 13, none⟩ = some (.slice (some ⟨g, 0, none⟩) (L + 1) cap) := R5.1.cell 13
    have g13 := R5.1.free 13
    have e9 : w5.cell? ⟨R, 9, none⟩ = some (.int .i64 s.bz) := R5.1.cell 9
    have g9 := R5.1.free 9
    obtain ⟨a5, c5, rfl⟩ := owns_slice o5.1
    rw [HLe.out] at o5
    have hr5 := FIN.out _ w5 _ m5 o5
    have HR5 := Lib.hid hr5
    clear hap kA k5 m5 o5 R5 hr5 hoe hnews hone hcl
    rw [← HLe.out] at HR5
    go_wp2_with fail
    go_end0
    exact ⟨rfl, HR5.out⟩
end
end Go.Proofs.Ytbikganlloopbaa
namespace Go.Proofs.Ytbikganlloopbaa
set_option linter.unusedVariables false
set_option linter.unusedSimpArgs false
open Go.RowKit Go.Proofs
/-- the colours that the crew's steps may turn -/
def MX (c : Nat) : Prop := c = 1 ∨ c = 2 ∨ c = 3 ∨ c = 6 ∨ 10 ≤ c ∧ c < 100
theorem sts_mx {i c : Nat} (hi : i < 90) (h : StS i c) : MX c := by
  rcases h with h | h | h | h | h <;> (unfold MX; omega)
theorem one_modp (k d : Nat) (h : 0 < d) : ∃ n : Nat, (1 : Int) + (k : Int) % (d : Int) = n ∧ 1 ≤ n ∧ n ≤ d := ⟨1 + k % d, rfl, Nat.le_add_right 1 _, by have := Nat.mod_lt k h; exact Nat.add_comm 1 (k % d) ▸ this⟩
theorem w64_natp (k : Nat) (h : k ≤ 1000) : wrap64 (k : Int) = k := wrap64_in _ (by omega) (by omega)
theorem vrow_moveC {c : Nat} {col col' : Nat → Nat} {S : Nat → Prop} {W W' : World} {v : Value} {xs : List Value} (h : VRow (fun b => col b = c) W v xs) (m : Move S col col' W W') (hn : ¬ S c) : VRow (fun b => col' b = c) W' v xs := by
  refine (h.inside.keep m.k fun b h1 h2 h3 => ?_).mono fun b h1 => (m.re b h1.2).trans h1.1
  rw [h1.1] at h3; exact hn h3
theorem CS.moveG {base : Nat} {col col' : Nat → Nat} {f p g N M : Nat} {cf : Nat → Int} {bz : Int} {xs logs : List FiringV} {ks : List Nat} {ns : Nat → Int} {hs : Nat → Option FiringV} {lv : Value} {w W W' : World} (h : CS base col f p g N M cf bz xs logs ks ns hs lv w W) (hks : ks.length < 90) {S : Nat → Prop} (m : Move S col col' W W') (hS : ∀ c, S c → DM c ∨ 100 ≤ c) : CS base col' f p g N M cf bz xs logs ks ns hs lv w W' :=
  have hn : ∀ {c}, c ≠ 4 → c ≠ 7 → c ≠ 8 → c ≠ 9 → c < 100 → ¬ S c := fun h4 h7 h8 h9 hl h => by
    have := hS _ h
    unfold DM at this
    omega
  ⟨h.fr.move m (hn (by omega) (by omega) (by omega) (by omega) (by omega)), h.st.move m (hn (by omega) (by omega) (by omega) (by omega) (by omega)) (hn (by omega) (by omega) (by omega) (by omega) (by omega)) (hn (by omega) (by omega) (by omega) (by omega) (by omega)) (hn (by omega) (by omega) (by omega) (by omega) (by omega)), fun i x hx => (h.wk i x hx).move m (by
    have hi : i < ks.length := (List.getElem?_eq_some_iff.1 hx).1
    exact hn (by omega) (by omega) (by omega) (by omega) (by omega)), vrow_move h.row m (hn (by omega) (by omega) (by omega) (by omega) (by omega))⟩
/-- the crew, made: nothing else turns -/
theorem cs_crewM {base : Nat} {col : Nat → Nat} {f p g N M : Nat} {cf : Nat → Int} {bz : Int} {xs logs : List FiringV} {w W : World} (hfr : Fr base col w W) (h : CF col f p g N M cf bz xs logs W) {m : Nat} (hM : cf 4 = m) (hM2 : m < 1000) :
    Calls Try.prog 20 #[.pointer (some ⟨f, 0, none⟩)] W fun e w' => ∃ ks lv col', e = .returned lv ∧ ks.length = m ∧ Move (fun _ => False) col col' W w' ∧ CS base col' f p g N M cf bz xs logs ks (fun _ => 0) (fun _ => none) lv w w' := by
  obtain ⟨s, sb, sh, c, l, mx, hf, cf1, hp, cp, cc, cy, hl, ha, hb⟩ := h
  refine (ccrew hf hM hM2).mono ?_
  rintro e w1 ⟨ks, v, rfl, hkl, hnd, hrow, hws, k1⟩
  obtain ⟨col', hre, hwk, h5⟩ := paint col hnd hws
  have m1 : Move (fun _ => False) col col' W w1 := ⟨hre, k1.mono fun _ _ f => f.elim⟩
  exact ⟨ks, v, col', rfl, hkl, m1, hfr.move m1 id, CF.move ⟨s, sb, sh, c, l, mx, hf, cf1, hp, cp, cc, cy, hl, ha, hb⟩ m1 id id id id, hwk, hrow.mono fun b hb => h5 b hb.1 hb.2⟩
/-- the floor's config -/
theorem cf_config {col : Nat → Nat} {f p g N n M : Nat} {bz : Int} {xs logs : List FiringV} {W : World} (h : CF col f p g N M (cfP N n) bz xs logs W) :
    Calls Try.prog 23 #[.pointer (some ⟨f, 0, none⟩)] W fun e w' => e = .returned (.agg #[.int .i64 1, .int .i64 4, .int .i64 4, .int .i64 N, .int .i64 n, .int .i64 1]) ∧ Still W w' := by
  obtain ⟨s, sb, sh, c, l, mx, hf, -⟩ := h
  exact fconfig (s := 0) hf
theorem Doc.move {col col' : Nat → Nat} {R N n : Nat} {sl : Option Addr} {sh : Value} {s : CSt} {vs : List Nat} {W W' : World} (h : Doc col R N n sl sh s vs W) {S : Nat → Prop} (m : Move S col col' W W') (hS : ∀ c, S c → ¬ DM c) : Doc col' R N n sl sh s vs W' := by
  obtain ⟨pv, lv, hR, hp, hl⟩ := h.bl
  have hn : ∀ {c}, DM c → ¬ S c := fun h1 h2 => hS _ h2 h1
  exact ⟨⟨pv, lv, hR.move m (hn (by unfold DM; omega)), hp.move m (hn (by unfold DM; omega)), hl.move m (hn (by unfold DM; omega))⟩, fun i v hv => (h.wk i v hv).move m (hn (by unfold DM; omega)), h.nd⟩
theorem pick_mod (J : Int) (n : Nat) (h : 0 < n) : ∃ j : Nat, (if 0 < J then J else 0) % (n : Int) = (j : Int) ∧ j < n := by
  have h1 := Int.emod_nonneg (if 0 < J then J else 0) (show (n : Int) ≠ 0 by omega)
  have h2 := Int.emod_lt_of_pos (if 0 < J then J else 0) (show (0 : Int) < n by omega)
  exact ⟨((if 0 < J then J else 0) % (n : Int)).toNat, (Int.toNat_of_nonneg h1).symm, by omega⟩
theorem idle_succ (xb : Bool) (f : Nat → Bool) (k : Nat) : (xb && (List.range (k + 1)).all f) = ((xb && (List.range k).all f) && f k) := by
  rw [List.range_succ, List.all_append]
  simp [Bool.and_assoc]
theorem none_not {α : Type} (o : Option α) : o.isNone = !o.isSome := by cases o <;> rfl
theorem may_not {s : CSt} {i : Nat} (h : s.may i = false) : s.step i = s := by
  unfold CSt.may at h
  unfold CSt.step
  cases hh : s.hs i with
  | some x => rw [hh] at h; simp at h
  | none =>
    cases hx : s.xs with
    | nil => rfl
    | cons x rest => rw [hh, hx] at h; simp at h
/-- both side by side -/
structure PS (base : Nat) (col : Nat → Nat) (f p g N n M R : Nat) (sl : Option Addr) (sh : Value) (s s' : CSt) (ks : List Nat) (lv vv : Value) (vs : List Nat) (w W : World) : Prop where
  cs : CSs base col f p g N M (cfP N n) s ks lv w W
  doc : Doc col R N n sl sh s' vs W
  vr : VRow (fun b => col b = 200) W vv (ptrs vs)
  hk : ks.length < 90
section
variable {base : Nat} {col : Nat → Nat} {f p g N n M R : Nat} {sl : Option Addr} {sh : Value} {s s' : CSt} {ks : List Nat} {lv vv : Value} {vs : List Nat} {w W : World}
theorem PS.main (h : PS base col f p g N n M R sl sh s s' ks lv vv vs w W) {col' : Nat → Nat} {W' : World} {M2 : Nat} {s2 : CSt} (m : Move MX col col' W W') (c : CSs base col' f p g N M2 (cfP N n) s2 ks lv w W') : PS base col' f p g N n M2 R sl sh s2 s' ks lv vv vs w W' :=
  ⟨c, h.doc.move m (fun c h1 h2 => by unfold MX at h1; unfold DM at h2; omega), vrow_moveC h.vr m (by unfold MX; omega), h.hk⟩
theorem PS.docs (h : PS base col f p g N n M R sl sh s s' ks lv vv vs w W) {col' : Nat → Nat} {W' : World} {s2 : CSt} (m : Move DM col col' W W') (d : Doc col' R N n sl sh s2 vs W') : PS base col' f p g N n M R sl sh s s2 ks lv vv vs w W' :=
  ⟨h.cs.moveG h.hk m (fun _ h => .inl h), d, vrow_moveC h.vr m (by unfold DM; omega), h.hk⟩
theorem PS.still (h : PS base col f p g N n M R sl sh s s' ks lv vv vs w W) {W' : World} (k : Still W W') : PS base col f p g N n M R sl sh s s' ks lv vv vs w W' :=
  h.main (.still k) (h.cs.still k)
/-- new blocks of a colour of their own -/
theorem PS.news (h : PS base col f p g N n M R sl sh s s' ks lv vv vs w W) {W' : World} (k : Still W W') (c : Nat) : PS base (ext col W.heap.size c) f p g N n M R sl sh s s' ks lv vv vs w W' := by
  have m : Move (fun _ => False) col (ext col W.heap.size c) W W' := Move.ext (k.mono fun _ _ f => f.elim) c
  exact ⟨h.cs.moveG h.hk m (fun _ f => f.elim), h.doc.move m (fun _ f => f.elim), vrow_moveC h.vr m id, h.hk⟩
/-- a firing that is put into the document's pipe -/
theorem PS.dput (h : PS base col f p g N n M R sl sh s s' ks lv vv vs w W) (x : FiringV) {col5 : Nat → Nat} {w5 : World} {v5 : Value} (m5 : Move (· = 7) col col5 W w5) (o5 : Owns col5 7 w5 40 4 v5 (s'.xs.length + 1) (cells4 s'.xs ++ x.cl)) :
    Move DM col col5 W (w5.setCell ⟨R, 13, none⟩ v5) ∧ PS base col5 f p g N n M R sl sh s (s'.put x) ks lv vv vs w (w5.setCell ⟨R, 13, none⟩ v5) := by
  obtain ⟨pv, lv, hR, hp, hl⟩ := h.doc.bl
  have hR5 := hR.move m5 (by omega)
  have hl5 := hl.move m5 (by omega)
  have k8 : Kept (fun y => y = R) w5 (w5.setCell ⟨R, 13, none⟩ v5) := (Kept.refl (fun y => y = R) w5).put 13 _
  have m8 : Move (fun c => c = 9) col5 col5 w5 (w5.setCell ⟨R, 13, none⟩ v5) := .still' k8 (fun y hy => by rw [hy]; exact hR5.2)
  have mm : Move DM col col5 W (w5.setCell ⟨R, 13, none⟩ v5) := (m5.mono (T := DM) fun c e => Or.inr (Or.inl e)).trans (m8.mono (T := DM) fun c e => Or.inr (Or.inr (Or.inr e)))
  refine ⟨mm, h.docs mm ⟨⟨v5, lv, ⟨hR5.1.set' rfl, hR5.2⟩, ?_, hl5.move m8 (by omega)⟩, fun i v hv => ((h.doc.wk i v hv).move m5 (by omega)).move m8 (by omega), h.doc.nd⟩⟩
  show Owns col5 7 _ _ 4 v5 (s'.xs ++ [x]).length (cells4 (s'.xs ++ [x]))
  rw [cells4_snoc, List.length_append, List.length_singleton]
  exact o5.move m8 (by omega)
theorem ps_put (h : PS base col f p g N n M R sl sh s s' ks lv vv vs w W) (hM : M < 90000) (v : FiringV) :
    Calls Try.prog 13 #[.pointer (some ⟨p, 0, none⟩), v.v] W fun e w' => e = .returned (.tuple #[.bool (decide (N ≤ s.xs.length)), .int .i64 0]) ∧ ∃ col', Move MX col col' W w' ∧ PS base col' f p g N n (M + 1) R sl sh (s.put v) s' ks lv vv vs w w' := by
  refine (cf_put h.cs.st hM v).mono ?_
  rintro e w1 ⟨rfl, col', m, h'⟩
  have mx : Move MX col col' W w1 := m.mono (fun c h => by subst h; unfold MX; omega)
  exact ⟨rfl, col', mx, h.main mx ⟨h.cs.fr.move m (by omega), h', fun i x hx => (h.cs.wk i x hx).move m (by omega), vrow_move h.cs.row m (by omega)⟩⟩
theorem ps_may (h : PS base col f p g N n M R sl sh s s' ks lv vv vs w W) (hM : M < 100000) {i k : Nat} (hk : ks[i]? = some k) :
    Calls Try.prog 11 #[.pointer (some ⟨k, 0, none⟩)] W fun e w' => e = .returned (.bool (s.may i)) ∧ Still W w' :=
  cw_may h.cs.st hM (h.cs.wk i k hk)
theorem ps_step (h0 : PS base col f p g N n M R sl sh s s' ks lv vv vs w W) {B : Nat} (hM : M < 90000) (hB : B < 90000) (hf : Fits ks.length B s) {i k : Nat} (hk : ks[i]? = some k) :
    Calls Try.prog 14 #[.pointer (some ⟨k, 0, none⟩)] W fun e w' => e = .returned (.bool (s.may i)) ∧ ∃ col', Move MX col col' W w' ∧ PS base col' f p g N n M R sl sh (s.step i) s' ks lv vv vs w w' := by
  have hi : i < ks.length := (List.getElem?_eq_some_iff.1 hk).1
  have hb := hf.bz
  have hc := hf.cnt
  have hn := hf.ns i
  have h := h0
  have hw := h.cs.wk i k hk
  have hst := h.cs.st
  unfold CSt.step CSt.may
  cases hh : s.hs i with
  | some x =>
    have hp := held_pos hi hh
    rw [hh] at hw
    refine (cw_put hst (by omega) (by omega) (by omega) hw).mono ?_
    rintro e w1 ⟨rfl, col', m, h1, h2⟩
    have mx : Move MX col col' W w1 := m.mono (fun c h => sts_mx (by have := h0.hk; omega) h)
    exact ⟨rfl, col', mx, h.main mx (h.cs.step hk m h1 h2)⟩
  | none =>
    rw [hh] at hw
    cases hx : s.xs with
    | nil =>
      rw [hx] at hst
      refine (cw_no hst (by omega) hw).mono ?_
      rintro e w1 ⟨rfl, k1⟩
      exact ⟨rfl, col, .still k1, h.still k1⟩
    | cons x rest =>
      rw [hx] at hst
      refine (cw_take hst (by omega) (by omega) hw).mono ?_
      rintro e w1 ⟨rfl, col', m, h1, h2⟩
      have mx : Move MX col col' W w1 := m.mono (fun c h => sts_mx (by have := h0.hk; omega) h)
      have h9 := h.cs.step hk m h1 h2
      rw [upd_id] at h9
      exact ⟨by simp, col', mx, h.main mx h9⟩
theorem ps_rmay (h : PS base col f p g N n M R sl sh s s' ks lv vv vs w W) (hb : s'.xs.length < 100000) {i v : Nat} (hv : vs[i]? = some v) :
    Calls Try.prog 24 #[.pointer (some ⟨R, 0, none⟩), .pointer (some ⟨v, 0, none⟩)] W fun e w' => e = .returned (.bool (s'.may i)) ∧ W = w' := rmay h.doc hb hv
theorem ps_rstep (h : PS base col f p g N n M R sl sh s s' ks lv vv vs w W) {m B : Nat} (hB : B < 90000) (hf : Fits m B s') {i v : Nat} (hi : i < m) (hv : vs[i]? = some v) (hmay : s'.may i = true) :
    Calls Try.prog 25 #[.pointer (some ⟨R, 0, none⟩), .pointer (some ⟨v, 0, none⟩)] W fun e w' => e = .returned (.tuple #[]) ∧ ∃ col', Move DM col col' W w' ∧ PS base col' f p g N n M R sl sh s (s'.step i) ks lv vv vs w w' := by
  have hb := hf.bz
  have hc := hf.cnt
  have hn := hf.ns i
  unfold CSt.may at hmay
  unfold CSt.step
  cases hh : s'.hs i with
  | some x =>
    have hp := held_pos hi hh
    refine (rstep_put h.doc hh (by omega) (by omega) (by omega) hv).mono ?_
    rintro e w1 ⟨rfl, col', m, d⟩
    exact ⟨rfl, col', m, h.docs m d⟩
  | none =>
    rw [hh] at hmay
    cases hx : s'.xs with
    | nil => rw [hx] at hmay; simp at hmay
    | cons x rest =>
      rw [hx, List.length_cons] at hc
      refine (rstep_take h.doc hh hx (by omega) (by omega) hv).mono ?_
      rintro e w1 ⟨rfl, col', m, d⟩
      exact ⟨rfl, col', m, h.docs m d⟩
theorem ps_holds (h : PS base col f p g N n M R sl sh s s' ks lv vv vs w W) {i k : Nat} (hk : ks[i]? = some k) :
    Calls Try.prog 19 #[.pointer (some ⟨k, 0, none⟩)] W fun e w' => e = .returned (.tuple #[((s.hs i).getD zF).v, .bool (s.hs i).isSome]) ∧ Still W w' := cw_holds (h.cs.wk i k hk)
theorem ps_worked (h : PS base col f p g N n M R sl sh s s' ks lv vv vs w W) {i k : Nat} (hk : ks[i]? = some k) :
    Calls Try.prog 15 #[.pointer (some ⟨k, 0, none⟩)] W fun e w' => e = .returned (.int .i64 (s.ns i)) ∧ W = w' := cw_worked (h.cs.wk i k hk)
theorem ps_busy (h : PS base col f p g N n M R sl sh s s' ks lv vv vs w W) :
    Calls Try.prog 26 #[.pointer (some ⟨f, 0, none⟩)] W fun e w' => e = .returned (.int .i64 s.bz) ∧ Kept (fun x => MX (col x)) W w' ∧ PS base col f p g N n M R sl sh s s' ks lv vv vs w w' := by
  refine (cf_busy h.cs.st).mono ?_
  rintro e w1 ⟨rfl, c, m⟩
  have mx : Move MX col col W w1 := m.mono (fun c h => by subst h; unfold MX; omega)
  exact ⟨rfl, mx.k, h.main mx ⟨h.cs.fr.move m (by omega), c, fun i x hx => (h.cs.wk i x hx).move m (by omega), vrow_move h.cs.row m (by omega)⟩⟩
theorem ps_pall (h : PS base col f p g N n M R sl sh s s' ks lv vv vs w W) (hM : M < 90000) :
    Calls Try.prog 27 #[.pointer (some ⟨p, 0, none⟩)] W fun e w' => ∃ v col', e = .returned v ∧ Move MX col col' W w' ∧ PS base col' f p g N n M R sl sh s s' ks lv vv vs w w' ∧ FRow (fun _ => True) w' v s.xs := by
  refine (cs_pall h.cs hM).mono ?_
  rintro e w1 ⟨v, col', rfl, m, c, o⟩
  have mx : Move MX col col' W w1 := m.mono (fun c h => by subst h; unfold MX; omega)
  exact ⟨v, col', rfl, mx, h.main mx c, (FRow.of_owns o.1).mono fun _ _ _ => trivial⟩
theorem ps_all (h : PS base col f p g N n M R sl sh s s' ks lv vv vs w W) (hL : s.logs.length < 1000000) :
    Calls Try.prog 18 #[.pointer (some ⟨g, 0, none⟩)] W fun e w' => ∃ v, e = .returned v ∧ FRow (fun _ => True) w' v s.logs ∧ Still W w' := by
  refine (cf_all h.cs.st hL).mono ?_
  rintro e w1 ⟨v, rfl, o, k⟩
  exact ⟨v, rfl, (FRow.of_owns o).mono fun _ _ _ => trivial, k⟩
theorem ps_idle (h : PS base col f p g N n M R sl sh s s' ks lv vv vs w W) (hM : M < 100000) (hks : ks.length < 100000) :
    Calls Try.prog 21 #[.pointer (some ⟨f, 0, none⟩), lv] W fun e w' => e = .returned (.bool (idleB ks s.hs s.xs)) ∧ Still W w' :=
  cidle h.cs.st hM h.cs.row h.cs.wk hks
/-- the document's block stays -/
theorem PS.stay (h : PS base col f p g N n M R sl sh s s' ks lv vv vs w W) {W0 W' : World} (h0 : StayB [R] W0 W) (k : Kept (fun x => MX (col x)) W W') : StayB [R] W0 W' := fun b hb => by
  obtain ⟨pv, lv, hR, -, -⟩ := h.doc.bl
  have e := h0 b hb
  simp only [List.mem_singleton] at hb
  subst hb
  exact (k.block b hR.1.lt (fun h9 => by rw [hR.2] at h9; unfold MX at h9; omega)).trans e
/-- a place in the row of the document's workers -/
theorem PS.vat {a : Option Addr} {m cap : Nat} (h : PS base col f p g N n M R sl sh s s' ks lv (.slice a m cap) vs w W) (hn : m = vs.length) (i : Nat) (hi : i < m) :
    ∃ b o v, a = some ⟨b, o, none⟩ ∧ b < W.heap.size ∧ col b = 200 ∧ vs[i]? = some v ∧ W.cell? ⟨b, o + i, none⟩ = some (.pointer (some ⟨v, 0, none⟩)) := by
  obtain ⟨a', cap', hv, hl, hm, h0⟩ := h.vr
  rw [ptrs_len] at hv hl h0
  simp only [Value.slice.injEq] at hv
  obtain ⟨rfl, -, rfl⟩ := hv
  obtain ⟨b, o, ha, hb, h5, hc⟩ := h0 (by omega)
  obtain ⟨v, hk⟩ : ∃ v, vs[i]? = some v := ⟨_, List.getElem?_eq_getElem (by omega)⟩
  refine ⟨b, o, v, ha, hb, h5, hk, ?_⟩
  rw [hc i (by omega)]
  unfold ptrs
  rw [List.getElem?_map, hk]; rfl
end
end Go.Proofs.Ytbikganlloopbaa
