/-
  What stands here: the walk of ListNone. Under no condition but that its argument fits its type.
-/
import Derived.Test.YtdpcgemmbpbpoaaListAlive
import Derived.Test.YtdpcgemmbpbpoaaListNil
namespace Go.Proofs.Ytdpcgemmbpbpoaa
set_option linter.unusedVariables false
set_option linter.unusedSimpArgs false
open Go.RowKit Go.Proofs

set_option maxHeartbeats 2000000 in
theorem listNone_walk (a0 : Int) (w : World) (w0 : (Lit.int .i64 a0).wf = true) :
    Calls Try.prog 6 #[.int .i64 a0] w fun e w' => e = .returned (.bool true) ∧ Below w.heap.size w w' := by
  clear w0
  go_enter Try.func6, Try.ntmps6
  go_wp2_with fail
  refine (alive_any _).mono ?_
  rintro e w1 ⟨rfl, k1⟩
  go_wp2_with fail
  refine (oNew_i LS.zero w1 (LW_i.zero w1)).mono ?_
  rintro e w2 ⟨rfl, z2, k2, s2, h2, n2, l2, q2, v2⟩
  generalize hL : w1.heap.size + 1 = L at *
  have K2 := Lib.hid (show Below w.heap.size w w2 from below_still k1 k2 (Nat.le_refl _))
  have hw2 := K2.out.size
  have hw1 := k1.size
  have N2 := Lib.hid n2
  have Q2 := Lib.hid q2
  have H2 := Lib.hid h2
  have hZk : s2.kd w2.heap.size = 0 := h2.fresh _ (Nat.le_refl _)
  have HZ := Lib.hid hZk
  clear n2 q2 v2 k1 k2 h2 hZk
  go_wp2_with fail
  have h3 := H2.out.node (.int .i64 a0) rfl
  have s3 : Still w2 (w2.alloc (.cells #[.int .i64 a0, .pointer none, .pointer none, .pointer none] 48)) := (still_refl w2).alloc _
  have K3 := Lib.hid (below_still K2.out s3 (Nat.le_refl _))
  obtain ⟨w3, hw3⟩ : ∃ w3, w3 = w2.alloc (.cells #[.int .i64 a0, .pointer none, .pointer none, .pointer none] 48) := ⟨_, rfl⟩
  have z3 : w2.heap.size < w3.heap.size := by rw [hw3]; simp
  rw [← hw3] at h3 K3 ⊢
  have H3 := Lib.hid h3
  clear hw3 h3 s3
  generalize hZ : w2.heap.size = Z at *
  refine (push_nil a0 _).mono ?_
  rintro e w4 ⟨rfl, rfl⟩
  go_wp2_with fail
  refine (put_nil _ _).mono ?_
  rintro e w4 ⟨rfl, rfl⟩
  go_wp2_with fail
  refine (unlink_nil _ _).mono ?_
  rintro e w4 ⟨rfl, rfl⟩
  go_wp2_with fail
  refine (splice_nil _ _).mono ?_
  rintro e w4 ⟨rfl, rfl⟩
  go_wp2_with fail
  refine (drain_nil _).mono ?_
  rintro e w4 ⟨rfl, k4⟩
  have H4 := Lib.hid (H3.out.kept (kept_of_below k4) (fun x hx hS => hx (H3.out.fresh x hS)))
  have K4 := Lib.hid (Below.trans K3.out (k4.mono K3.out.size))
  have z4 : Z < w4.heap.size := Nat.lt_of_lt_of_le z3 k4.size
  clear H3 K3 k4
  go_wp2_with fail
  refine (all_nil _).mono ?_
  rintro e w5 ⟨rfl, k5⟩
  have H5 := Lib.hid (H4.out.kept (kept_of_below k5) (fun x hx hS => hx (H4.out.fresh x hS)))
  have K5 := Lib.hid (Below.trans K4.out (k5.mono K4.out.size))
  have z5 : Z < w5.heap.size := Nat.lt_of_lt_of_le z4 k5.size
  clear H4 K4 k5
  go_wp2_with fail
  refine (len_nil _).mono ?_
  rintro e w6 ⟨rfl, rfl⟩
  go_wp2_with fail
  refine (first_nil _).mono ?_
  rintro e w6 ⟨rfl, rfl⟩
  go_wp2_with fail
  refine (has_nil _ _).mono ?_
  rintro e w6 ⟨rfl, k6⟩
  have H6 := Lib.hid (H5.out.still k6)
  have K6 := Lib.hid (below_still K5.out k6 (Nat.le_refl _))
  clear H5 K5 k6
  go_wp2_with fail
  refine (has_no _ _).mono ?_
  rintro e w7 ⟨rfl, k7⟩
  have H7 := Lib.hid (H6.out.still k7)
  have K7 := Lib.hid (below_still K6.out k7 (Nat.le_refl _))
  clear H6 K6 k7
  have kd2 : (s2.node Z (.int .i64 a0)).kd Z = 2 := upd_same _ _ _
  have kd1 : (s2.node Z (.int .i64 a0)).kd L = 1 := by show upd s2.kd Z 2 L = 1; rw [upd_ne _ _ (by omega)]; exact l2
  have sq1 : (s2.node Z (.int .i64 a0)).sq = upd LS.zero.sq L [] := Q2.out
  have val : LV (s2.node Z (.int .i64 a0)) Z = .int .i64 a0 := by rw [LS.node_val, upd_same]
  obtain ⟨s3, hs3⟩ : ∃ s3, s3 = s2.node Z (.int .i64 a0) := ⟨_, rfl⟩
  rw [← hs3] at H7 kd2 kd1 sq1 val
  have sqL : ∀ l', s3.sq l' = [] := fun l' => by rw [sq1]; by_cases e : l' = L; (rw [e, upd_same]); (rw [upd_ne _ _ e]; rfl)
  have SQL := Lib.hid sqL
  have VAL := Lib.hid val
  have KD1 := Lib.hid kd1
  have KD2 := Lib.hid kd2
  have HLO := Lib.hid (show ∀ y, y < w.heap.size → s3.kd y = 0 from fun y hy => by rw [hs3]; show upd s2.kd Z 2 y = 0; rw [upd_ne _ _ (by omega), N2.out y (by omega)]; rfl)
  clear hs3 sq1 sqL val kd1 kd2 Q2 HZ N2
  go_wp2_with fail
  refine (lhas_i _ _ H7.out L Z KD1.out KD2.out).mono ?_
  rintro e w8 ⟨rfl, k8⟩
  rw [show decide (Z ∈ s3.sq L) = false by rw [SQL.out]; simp]
  have H8 := Lib.hid (H7.out.still k8)
  have K8 := Lib.hid (below_still K7.out k8 (Nat.le_refl _))
  clear H7 K7 k8
  go_wp2_with fail
  refine (put_no _ _).mono ?_
  rintro e w9 ⟨rfl, rfl⟩
  go_wp2_with fail
  refine (unlink_no _ _).mono ?_
  rintro e w9 ⟨rfl, rfl⟩
  go_wp2_with fail
  refine (lunlink_no_i _ _ H8.out L Z KD1.out KD2.out (by rw [SQL.out]; simp)).mono ?_
  rintro e w9 ⟨rfl, k9⟩
  have H9 := Lib.hid (H8.out.still k9)
  have K9 := Lib.hid (below_still K8.out k9 (Nat.le_refl _))
  clear H8 K8 k9
  go_wp2_with fail
  refine (splice_no _ _).mono ?_
  rintro e w10 ⟨rfl, rfl⟩
  go_wp2_with fail
  refine (lsplice_self_i _ _ H9.out L KD1.out).mono ?_
  rintro e w10 ⟨rfl, rfl⟩
  go_wp2_with fail
  refine (oPut_i _ _ H9.out L Z KD1.out KD2.out (fun l' _ => by rw [SQL.out]; simp) (by rw [SQL.out]; simp)).mono ?_
  rintro e w10 ⟨rfl, k10, s4, h4, n4, q4, v4⟩
  have K10 := Lib.hid (below_kd K9.out k10 HLO.out (Nat.le_refl _))
  have SQ4 := Lib.hid (show s4.sq L = [Z] by rw [q4, upd_same, SQL.out]; rfl)
  have KD14 := Lib.hid (show s4.kd L = 1 by rw [n4]; exact KD1.out)
  have KD24 := Lib.hid (show s4.kd Z = 2 by rw [n4]; exact KD2.out)
  have VAL4 := Lib.hid (show (s4.nd Z).val = .int .i64 a0 by show LV s4 Z = _; rw [v4]; exact VAL.out)
  have H10 := Lib.hid h4
  clear H9 K9 k10 h4 n4 q4 v4
  go_wp2_with fail
  refine (oPutNo_i _ _ H10.out L Z L KD14.out KD24.out KD14.out (by rw [SQ4.out]; simp)).mono ?_
  rintro e w11 ⟨rfl, rfl⟩
  go_wp2_with fail
  refine (lfirst_i _ _ H10.out L KD14.out).mono ?_
  rintro e w11 ⟨rfl, rfl⟩
  rw [SQ4.out, show ptrO (hd [Z] none) = .pointer (some ⟨Z, 0, none⟩) from rfl]
  have heq := eq_ptr Try.underlying28 sizeNode_i (H10.out.nodes Z KD24.out) (H10.out.nodes Z KD24.out)
  rw [show decide (Z = Z) = true by simp] at heq
  have heq2 := ne_ptr Try.underlying28 sizeNode_i (H10.out.nodes Z KD24.out) (H10.out.nodes Z KD24.out)
  go_wp2_with fail
  refine (lall_i _ _ H10.out L KD14.out (by rw [SQ4.out]; simp) (fun x hx => by
    rw [SQ4.out] at hx
    obtain rfl := List.mem_singleton.1 hx
    exact ⟨_, VAL4.out⟩)).mono ?_
  rintro e w12 ⟨⟨v, rfl, hr⟩, k12⟩
  rw [SQ4.out, show valsOf_i s4 [Z] = [a0].map (.int .i64) by simp [valsOf_i, VAL4.out]] at hr
  have K12 := Lib.hid (Below.trans K10.out (k12.mono K10.out.size))
  obtain ⟨av, cv, rfl⟩ := hr.len
  rw [List.length_map, List.length_singleton] at hr ⊢
  have HR := Lib.hid hr
  clear hr k12
  go_wp2_with fail
  have st : Still w12 (w12.alloc (.cells #[.int .i64 a0] 3)) := (still_refl w12).alloc _
  have b1 := Blk.new w12 #[.int .i64 a0] 3
  have hr2 : IRow (fun _ => True) (w12.alloc (.cells #[.int .i64 a0] 3)) (.slice (some ⟨w12.heap.size, 0, none⟩) 1 1) [a0] :=
    ⟨_, 1, rfl, by simp, by unfold maxLen; omega, fun _ => ⟨_, 0, rfl, b1.lt, trivial, fun j hj => by
      have : j = 0 := by simpa using hj
      subst this
      exact b1.cell 0⟩⟩
  refine (ints_any _ _ [a0] [a0] _ _ _ (HR.out.still st) hr2).mono ?_
  rintro e w13 ⟨rfl, k13⟩
  rw [show decide ([a0] = [a0]) = true by simp]
  go_wp2_with fail
  go_ret
  exact ⟨rfl, below_still K12.out (st.trans k13) (Nat.le_refl _)⟩
end Go.Proofs.Ytdpcgemmbpbpoaa
