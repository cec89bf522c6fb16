/-
  What stands here: the document's example of lists holds. Under no condition.
-/
import Derived.Test.YtdpcgemmbpbpoaaListOps
namespace Go.Proofs.Ytdpcgemmbpbpoaa
set_option linter.unusedVariables false
set_option linter.unusedSimpArgs false
open Go.RowKit Go.Proofs

theorem below_kd {base : Nat} {s : LS} {w0 w w' : World} (h : Below base w0 w) (k : Kept (fun y => s.kd y ≠ 0) w w') (hlo : ∀ y, y < base → s.kd y = 0) (hb : base ≤ w0.heap.size) : Below base w0 w' :=
  below_step h k hb (fun i hi h9 => h9 (hlo i hi))
set_option maxHeartbeats 2000000 in
theorem alive_any (w : World) : Calls Try.prog 8 #[] w fun e w' => e = .returned (.bool true) ∧ Below w.heap.size w w' := by
  go_enter Try.func8, Try.ntmps8
  go_wp2_with fail
  refine (oNew_s LS.zero w (LW_s.zero w)).mono ?_
  rintro e w1 ⟨rfl, z1, k1, s1, h1, n1, l1, q1, v1⟩
  generalize hL : w.heap.size + 1 = L at *
  have r1 : Below w.heap.size w w1 := below_still (Below.refl _ w) k1 (Nat.le_refl _)
  have f1 : ∀ y, y < w.heap.size → s1.kd y = 0 := fun y hy => by rw [n1 y hy]; rfl
  have N1 := Lib.hid n1
  have Q1 := Lib.hid q1
  have F1 := Lib.hid f1
  clear n1 q1 v1 f1
  go_wp2_with fail
  refine (oNew_s s1 w1 h1).mono ?_
  rintro e w2 ⟨rfl, z2, k2, s2, h2, n2, l2, q2, v2⟩
  generalize hO : w1.heap.size + 1 = O at *
  have r2 : Below w.heap.size w w2 := below_still r1 k2 (Nat.le_refl _)
  have hLO : L ≠ O := by omega
  have hwL : w.heap.size < L := by omega
  have hLO' : L < O := by omega
  have f2 : ∀ y, y < w.heap.size → s2.kd y = 0 := fun y hy => by rw [n2 y (by omega)]; exact F1.out y hy
  have kL2 : s2.kd L = 1 := by rw [n2 L (by omega)]; exact l1
  have qL2 : s2.sq L = [] := by rw [q2, upd_ne _ _ hLO, Q1.out, upd_same]
  have qO2 : s2.sq O = [] := by rw [q2, upd_same]
  have F2 := Lib.hid f2
  have QL2 := Lib.hid qL2
  have QO2 := Lib.hid qO2
  have KL2 := Lib.hid kL2
  have KO2 := Lib.hid l2
  clear n2 q2 v2 f2 qL2 qO2 kL2 l2 l1 z1 k1 k2 hL hO
  go_wp2_with fail
  refine (oPush_s s2 w2 h2 L ⟨#[97]⟩ KL2.out (by rw [QL2.out]; simp)).mono ?_
  rintro e w3 ⟨rfl, z3, k3, s3, h3, n3, kd3, q3, v3⟩
  generalize ha : w2.heap.size = a at *
  have r3 : Below w.heap.size w w3 := below_kd r2 k3 F2.out (Nat.le_refl _)
  have KL3 := Lib.hid (show s3.kd L = 1 by rw [n3 L (by omega)]; exact KL2.out)
  have KO3 := Lib.hid (show s3.kd O = 1 by rw [n3 O (by omega)]; exact KO2.out)
  have F3 := Lib.hid (show ∀ y, y < w.heap.size → s3.kd y = 0 from fun y hy => by rw [n3 y (by omega)]; exact F2.out y hy)
  have QL3 := Lib.hid (show s3.sq L = [a] by rw [q3, upd_same, QL2.out]; rfl)
  have QO3 := Lib.hid (show s3.sq O = [] by rw [q3, upd_ne _ _ (by omega)]; exact QO2.out)
  have Va3 := Lib.hid (show LV s3 a = .string ⟨#[97]⟩ by rw [v3, upd_same])
  have kna3 := Lib.hid kd3
  have Z3 : a < w3.heap.size := by omega
  clear n3 kd3 q3 v3 k3
  go_wp2_with fail
  refine (oPush_s s3 w3 h3 L ⟨#[98]⟩ KL3.out (by rw [QL3.out]; simp)).mono ?_
  rintro e w4 ⟨rfl, z4, k4, s4, h4, n4, kd4, q4, v4⟩
  generalize hb : w3.heap.size = b at *
  have r4 : Below w.heap.size w w4 := below_kd r3 k4 F3.out (Nat.le_refl _)
  have KL4 := Lib.hid (show s4.kd L = 1 by rw [n4 L (by omega)]; exact KL3.out)
  have KO4 := Lib.hid (show s4.kd O = 1 by rw [n4 O (by omega)]; exact KO3.out)
  have F4 := Lib.hid (show ∀ y, y < w.heap.size → s4.kd y = 0 from fun y hy => by rw [n4 y (by omega)]; exact F3.out y hy)
  have QL4 := Lib.hid (show s4.sq L = [a, b] by rw [q4, upd_same, QL3.out]; rfl)
  have QO4 := Lib.hid (show s4.sq O = [] by rw [q4, upd_ne _ _ (by omega)]; exact QO3.out)
  have Vb4 := Lib.hid (show LV s4 b = .string ⟨#[98]⟩ by rw [v4, upd_same])
  have Va4 := Lib.hid (show LV s4 a = .string ⟨#[97]⟩ by rw [v4, upd_ne _ _ (by omega)]; exact Va3.out)
  have kna4 := Lib.hid (show s4.kd a = 2 by rw [n4 a (by omega)]; exact kna3.out)
  have knb4 := Lib.hid kd4
  have Z4 : b < w4.heap.size := by omega
  clear n4 kd4 q4 v4 k4
  go_wp2_with fail
  refine (oPush_s s4 w4 h4 L ⟨#[99]⟩ KL4.out (by rw [QL4.out]; simp)).mono ?_
  rintro e w5 ⟨rfl, z5, k5, s5, h5, n5, kd5, q5, v5⟩
  generalize hc : w4.heap.size = c at *
  have r5 : Below w.heap.size w w5 := below_kd r4 k5 F4.out (Nat.le_refl _)
  have KL5 := Lib.hid (show s5.kd L = 1 by rw [n5 L (by omega)]; exact KL4.out)
  have KO5 := Lib.hid (show s5.kd O = 1 by rw [n5 O (by omega)]; exact KO4.out)
  have F5 := Lib.hid (show ∀ y, y < w.heap.size → s5.kd y = 0 from fun y hy => by rw [n5 y (by omega)]; exact F4.out y hy)
  have QL5 := Lib.hid (show s5.sq L = [a, b, c] by rw [q5, upd_same, QL4.out]; rfl)
  have QO5 := Lib.hid (show s5.sq O = [] by rw [q5, upd_ne _ _ (by omega)]; exact QO4.out)
  have Vc5 := Lib.hid (show LV s5 c = .string ⟨#[99]⟩ by rw [v5, upd_same])
  have Va5 := Lib.hid (show LV s5 a = .string ⟨#[97]⟩ by rw [v5, upd_ne _ _ (by omega)]; exact Va4.out)
  have kna5 := Lib.hid (show s5.kd a = 2 by rw [n5 a (by omega)]; exact kna4.out)
  have Vb5 := Lib.hid (show LV s5 b = .string ⟨#[98]⟩ by rw [v5, upd_ne _ _ (by omega)]; exact Vb4.out)
  have knb5 := Lib.hid (show s5.kd b = 2 by rw [n5 b (by omega)]; exact knb4.out)
  have knc5 := Lib.hid kd5
  have Z5 : c < w5.heap.size := by omega
  clear n5 kd5 q5 v5 k5
  go_wp2_with fail
  refine (oPush_s s5 w5 h5 O ⟨#[100]⟩ KO5.out (by rw [QO5.out]; simp)).mono ?_
  rintro e w6 ⟨rfl, z6, k6, s6, h6, n6, kd6, q6, v6⟩
  generalize hd : w5.heap.size = d at *
  have r6 : Below w.heap.size w w6 := below_kd r5 k6 F5.out (Nat.le_refl _)
  have KL6 := Lib.hid (show s6.kd L = 1 by rw [n6 L (by omega)]; exact KL5.out)
  have KO6 := Lib.hid (show s6.kd O = 1 by rw [n6 O (by omega)]; exact KO5.out)
  have F6 := Lib.hid (show ∀ y, y < w.heap.size → s6.kd y = 0 from fun y hy => by rw [n6 y (by omega)]; exact F5.out y hy)
  have QO6 := Lib.hid (show s6.sq O = [d] by rw [q6, upd_same, QO5.out]; rfl)
  have QL6 := Lib.hid (show s6.sq L = [a, b, c] by rw [q6, upd_ne _ _ (by omega)]; exact QL5.out)
  have Vd6 := Lib.hid (show LV s6 d = .string ⟨#[100]⟩ by rw [v6, upd_same])
  have Va6 := Lib.hid (show LV s6 a = .string ⟨#[97]⟩ by rw [v6, upd_ne _ _ (by omega)]; exact Va5.out)
  have kna6 := Lib.hid (show s6.kd a = 2 by rw [n6 a (by omega)]; exact kna5.out)
  have Vb6 := Lib.hid (show LV s6 b = .string ⟨#[98]⟩ by rw [v6, upd_ne _ _ (by omega)]; exact Vb5.out)
  have knb6 := Lib.hid (show s6.kd b = 2 by rw [n6 b (by omega)]; exact knb5.out)
  have Vc6 := Lib.hid (show LV s6 c = .string ⟨#[99]⟩ by rw [v6, upd_ne _ _ (by omega)]; exact Vc5.out)
  have knc6 := Lib.hid (show s6.kd c = 2 by rw [n6 c (by omega)]; exact knc5.out)
  have knd6 := Lib.hid kd6
  have Z6 : d < w6.heap.size := by omega
  clear n6 kd6 q6 v6 k6
  go_wp2_with fail
  refine (oUnlink_s s6 w6 h6 L b KL6.out knb6.out (by rw [QL6.out]; simp)).mono ?_
  rintro e w7 ⟨rfl, k7, s7, h7, n7, q7, v7⟩
  have r7 : Below w.heap.size w w7 := below_kd r6 k7 F6.out (Nat.le_refl _)
  rw [if_pos (by rw [QL6.out]; simp)]
  have KL7 := Lib.hid (show s7.kd L = 1 by rw [n7]; exact KL6.out)
  have KO7 := Lib.hid (show s7.kd O = 1 by rw [n7]; exact KO6.out)
  have F7 := Lib.hid (show ∀ y, y < w.heap.size → s7.kd y = 0 from fun y hy => by rw [n7]; exact F6.out y hy)
  have QL7 := Lib.hid (show s7.sq L = [a, c] by
    rw [q7, upd_same, QL6.out, List.erase_cons_tail (by simp; omega), List.erase_cons_head])
  have QO7 := Lib.hid (show s7.sq O = [d] by rw [q7, upd_ne _ _ (by omega)]; exact QO6.out)
  have Va7 := Lib.hid (show LV s7 a = .string ⟨#[97]⟩ by rw [v7]; exact Va6.out)
  have Vc7 := Lib.hid (show LV s7 c = .string ⟨#[99]⟩ by rw [v7]; exact Vc6.out)
  have Vd7 := Lib.hid (show LV s7 d = .string ⟨#[100]⟩ by rw [v7]; exact Vd6.out)
  have z7 : w6.heap.size ≤ w7.heap.size := k7.size
  clear n7 q7 v7 k7
  go_wp2_with fail
  refine (oSplice_s s7 w7 h7 L O KL7.out KO7.out (by omega) (by rw [QL7.out, QO7.out]; simp)).mono ?_
  rintro e w8 ⟨rfl, k8, s8, h8, n8, q8, v8⟩
  have r8 : Below w.heap.size w w8 := below_kd r7 k8 F7.out (Nat.le_refl _)
  have KL8 := Lib.hid (show s8.kd L = 1 by rw [n8 L (by omega)]; exact KL7.out)
  have KO8 := Lib.hid (show s8.kd O = 1 by rw [n8 O (by omega)]; exact KO7.out)
  have QL8 := Lib.hid (show s8.sq L = [a, c, d] by rw [q8, upd_ne _ _ (by omega), upd_same, QL7.out, QO7.out]; rfl)
  have QO8 := Lib.hid (show s8.sq O = [] by rw [q8, upd_same])
  have V8 := Lib.hid (show valsOf_s s8 [a, c, d] = [.string ⟨#[97]⟩, .string ⟨#[99]⟩, .string ⟨#[100]⟩] by
    show [LV s8 a, LV s8 c, LV s8 d] = _
    rw [v8, Va7.out, Vc7.out, Vd7.out])
  clear n8 q8 v8
  go_wp2_with fail
  refine (lall_s s8 w8 h8 L KL8.out (by rw [QL8.out]; simp) (fun x hx => by
    rw [QL8.out] at hx
    have e := V8.out
    simp only [valsOf_s, List.map_cons, List.map_nil, List.cons.injEq, and_true] at e
    simp only [List.mem_cons, List.not_mem_nil, or_false] at hx
    rcases hx with rfl | rfl | rfl
    · exact ⟨_, e.1⟩
    · exact ⟨_, e.2.1⟩
    · exact ⟨_, e.2.2⟩)).mono ?_
  rintro e w9 ⟨⟨v, rfl, hr⟩, k9⟩
  rw [QL8.out, V8.out] at hr
  have r9 : Below w.heap.size w w9 := Below.trans r8 (k9.mono r8.size)
  have h9 := h8.kept (kept_of_below k9) (fun x hx hS => hx (h8.fresh x hS))
  obtain ⟨av, cap, rfl⟩ := hr.len
  obtain ⟨_, _, hm, hc⟩ := hr.at_
  obtain ⟨b', o', rfl, hb', _, hc⟩ := hc (by simp)
  have c0 := hc 0 (by simp)
  have c1 := hc 1 (by simp)
  have c2 := hc 2 (by simp)
  simp at c0 c1 c2
  go_wp2_with fail
  refine (llen_s s8 w9 h9 O KO8.out).mono ?_
  rintro e w10 ⟨rfl, rfl⟩
  rw [QO8.out]
  go_wp2_with fail
  go_ret
  exact ⟨rfl, r9⟩
end Go.Proofs.Ytdpcgemmbpbpoaa
