/-
  What stands here: the walk of CrewPlays. Under no condition but that its arguments fit their types.
-/
import Derived.Test.YtbikganlloopbaaPlayMove
namespace Go.Proofs.Ytbikganlloopbaa
set_option linter.unusedVariables false
set_option linter.unusedSimpArgs false
open Go.RowKit Go.Proofs
theorem infoDW : (Try.prog.info? 58).map (fun i => (i.zero, i.size, i.bytes)) = some (some (.pointer none), 1, 8) := by kernel_rfl
set_option maxHeartbeats 8000000 in
set_option maxRecDepth 100000 in
theorem crewPlays_walk (a0 : Int) (a1 : Int) (a2 : Option Addr) (len2 cap2 : Nat) (f2_0 : Nat → Int) (f2_1 : Nat → Int) (f2_2 : Nat → Int) (f2_3 : Nat → Int) (f2_4 : Nat → Int) (f2_5 : Nat → Int) (w : World) (w0 : (Lit.int .u8 a0).wf = true) (w1 : (Lit.int .u8 a1).wf = true) (w2 : (len2 ≤ cap2 ∧ cap2 ≤ maxLen) ∧ (0 < len2 → ∃ b o, a2 = some ⟨b, o, none⟩ ∧ b < w.heap.size ∧ ∀ i, i < len2 → w.cell? ⟨b, o + i * 6, none⟩ = some (.int .i64 (f2_0 i)) ∧ (Lit.int .i64 (f2_0 i)).wf = true ∧ w.cell? ⟨b, o + i * 6 + 1, none⟩ = some (.int .i64 (f2_1 i)) ∧ (Lit.int .i64 (f2_1 i)).wf = true ∧ w.cell? ⟨b, o + i * 6 + 2, none⟩ = some (.int .u64 (f2_2 i)) ∧ (Lit.int .u64 (f2_2 i)).wf = true ∧ w.cell? ⟨b, o + i * 6 + 3, none⟩ = some (.int .u64 (f2_3 i)) ∧ (Lit.int .u64 (f2_3 i)).wf = true ∧ w.cell? ⟨b, o + i * 6 + 4, none⟩ = some (.int .u64 (f2_4 i)) ∧ (Lit.int .u64 (f2_4 i)).wf = true ∧ w.cell? ⟨b, o + i * 6 + 5, none⟩ = some (.int .u64 (f2_5 i)) ∧ (Lit.int .u64 (f2_5 i)).wf = true)) :
    Calls Try.prog 5 #[.int .u8 a0, .int .u8 a1, .slice a2 len2 cap2] w fun e w' => e = .returned (.bool true) ∧ Below w.heap.size w w' := by
  have h0 := bd_u8 w0
  have h1 := bd_u8 w1
  clear w0 w1
  obtain ⟨m0, rfl⟩ : ∃ m : Nat, a0 = m := ⟨a0.toNat, by omega⟩
  obtain ⟨m1, rfl⟩ : ∃ m : Nat, a1 = m := ⟨a1.toNat, by omega⟩
  obtain ⟨n, hn, hn2⟩ := one_modp m0 4 (by decide)
  obtain ⟨N, hN, hN2⟩ := one_modp m1 16 (by decide)
  have EN := Lib.hid hn
  have EM := Lib.hid hN
  have hw0 : wrap64 (m0 : Int) = m0 := w64_natp m0 (by omega)
  have hw1 : wrap64 (m1 : Int) = m1 := w64_natp m1 (by omega)
  have hwn : wrap64 (n : Int) = n := w64_natp n (Nat.le_trans hn2.2 (by decide))
  have hwN : wrap64 (N : Int) = N := w64_natp N (Nat.le_trans hN2.2 (by decide))
  have W2 := Lib.hid w2
  have hle2 : len2 ≤ 9223372036854775807 := Nat.le_trans w2.1.1 w2.1.2
  clear w2 hn hN
  obtain ⟨i0, hi9, hz90, hz91, hz92⟩ := info_parts infoFiring
  obtain ⟨i1, hi8, hz80, hz81, hz82⟩ := info_parts infoDW
  go_enter Try.func5, Try.ntmps5
  go_wp2_with fail
  refine (alive_any w).mono ?_
  rintro e w2 ⟨rfl, k2⟩
  have FR2 := Lib.hid (Fr.start k2)
  clear k2
  by_cases hbig : 200 < len2
  · have hd : decide ((200 : Int) < (len2 : Int)) = true := decide_eq_true (by exact_mod_cast hbig)
    go_wp2_with fail
    go_ret
    exact ⟨rfl, FR2.out.bel⟩
  have hd : decide ((200 : Int) < (len2 : Int)) = false := decide_eq_false (by exact_mod_cast hbig)
  go_wp2_with fail
  rw [show (1 : Int) + (m0 : Int) % 4 = (n : Int) from EN.out, show (1 : Int) + (m1 : Int) % 16 = (N : Int) from EM.out]
  clear EN EM h0 h1 hw0 hw1
  refine (cplain n N w2).mono ?_
  rintro e w3 ⟨rfl, k3⟩
  have fr3 := FR2.out.still k3
  go_wp2_with fail
  refine (cf_new w fr3 N n hN2 hn2).mono ?_
  rintro e w4 ⟨f, p, g, col4, rfl, fr4, cf4⟩
  have F4 := Lib.hid fr4
  have C4 := Lib.hid cf4
  clear fr4 cf4 fr3 k3
  go_wp2_with fail
  refine (cf_config C4.out).mono ?_
  rintro e w5 ⟨rfl, k5⟩
  go_wp2_with fail
  refine (rworld N n w5).mono ?_
  rintro e w6 ⟨R, sl, sh, rfl, hR5, k6, hR6⟩
  have m6 : Move (fun _ => False) col4 (ext col4 w4.heap.size 9) w4 w6 := Move.ext ((k5.trans k6).mono fun _ _ f => f.elim) 9
  have F6 := Lib.hid (F4.out.move m6 id)
  have C6 := Lib.hid (C4.out.move m6 id id id id)
  have R6 : Hid (BlkC (ext col4 w4.heap.size 9) 9 w6 R (worldC N n sl sh 0 (.slice none 0 0) (.slice none 0 0)) 69) := Lib.hid ⟨hR6, ext_new _ (Nat.le_trans k5.size hR5)⟩
  clear k5 k6 m6 hR5 hR6 F4 C4
  go_wp2_with fail
  refine (cs_crewM F6.out C6.out (m := n) rfl (Nat.lt_of_le_of_lt hn2.2 (by decide))).mono ?_
  rintro e w7 ⟨ks, lv, col7, rfl, hkl, m7, cs7⟩
  obtain ⟨la, lc, rfl⟩ : ∃ a c, lv = .slice a n c := by
    obtain ⟨a, c, h, -⟩ := cs7.row
    exact ⟨a, c, by rw [h, ptrs_len, hkl]⟩
  have R7 := Lib.hid (R6.out.move m7 id)
  have C7 := Lib.hid cs7
  have HKL := Lib.hid hkl
  clear cs7 hkl m7 R6 F6 C6
  go_wp2_with (first | (at_make; refine wpList_make_full _ rfl _ _ 57 rfl w7.heap.size 58 i1 (.pointer none) 1 Try.underlying57 hi8 hz80 hz81 _ _ _ _ n rfl rfl rfl rfl (by rw [hz82]; omega) (by unfold maxLen; omega) (Nat.le_refl _) ?_) | fail)
  intro w8 how hgr
  obtain ⟨V, hV⟩ : ∃ V, V = w7.heap.size := ⟨_, rfl⟩
  rw [← hV] at how ⊢
  obtain ⟨cur0, hb0, hs0⟩ : ∃ cur0, Blk w8 V cur0 58 ∧ cur0.size = n := by
    obtain ⟨hl, ⟨e1, e2⟩ | ⟨g9, cap9, cur9, e1, -, hgb, hnc, hcm, hcs, ht⟩⟩ := how
    · simp at e1
    · simp only [Value.slice.injEq, Option.some.injEq, Addr.mk.injEq, and_true, true_and] at e1
      obtain ⟨rfl, rfl⟩ := e1
      exact ⟨cur9, hgb, by rw [hcs, Nat.mul_one]⟩
  have k8 : Still w7 w8 := (Kept.refl (fun _ => False) w7).grown hgr (fun k e _ => by cases e)
  have m8 : Move (fun _ => False) col7 (ext col7 w7.heap.size 200) w7 w8 := Move.ext (k8.mono fun _ _ f => f.elim) 200
  have hks9 : ks.length < 90 := by rw [HKL.out]; omega
  have R8 := Lib.hid (R7.out.move m8 id)
  have C8 := Lib.hid (C7.out.moveG hks9 m8 (fun _ f => f.elim))
  have HVL : Hid (V < w8.heap.size) := Lib.hid hb0.lt
  have HV8 : Hid (ext col7 w7.heap.size 200 V = 200) := Lib.hid (ext_new _ (by rw [hV]; exact Nat.le_refl _))
  have HB0 := Lib.hid (And.intro hb0 hs0)
  have HKS := Lib.hid hks9
  clear how hgr hV k8 m8 R7 C7 hb0 hs0 hks9
  generalize ext col7 w7.heap.size 200 = col8 at *
  go_wp2_with fail
  go_loopw [13] (fun iv wr => ∃ (i : Nat) (vs : List Nat) (cur : Array Value), iv = .int .i64 i ∧ i ≤ n ∧ Kept (fun y => y = V) w8 wr ∧ Blk wr V cur 58 ∧ cur.size = n ∧ vs.length = i ∧ vs.Nodup ∧ ∀ (j v : Nat), vs[j]? = some v → w8.heap.size ≤ v ∧ Blk wr v (docW none 0) 60 ∧ cur[j]? = some (Value.pointer (some ⟨v, 0, none⟩))) (fun iv _ => n - (intOf iv).toNat)
  case atStart =>
    exact ⟨0, [], cur0, rfl, Nat.zero_le _, Kept.refl _ _, HB0.out.1, HB0.out.2, rfl, List.nodup_nil, fun j v h => by simp at h⟩
  case round =>
    clear HB0
    obtain ⟨i, vs, cur, rfl, hi, hk, hb, hsz, hvl, hnd, hvs⟩ := hrel
    have HK := Lib.hid hk
    have HB := Lib.hid hb
    have HVS := Lib.hid (And.intro hsz (And.intro hvl (And.intro hnd hvs)))
    by_cases hil : i < n
    · as_aux_lemma =>
        have hd1 : decide ((i : Int) < (n : Int)) = true := decide_eq_true (by omega)
        obtain ⟨y, hy⟩ : ∃ y, cur[i]? = some y := ⟨_, Array.getElem?_eq_getElem (by rw [hsz]; exact hil)⟩
        have cS : wr.cell? ⟨V, i, none⟩ = some y := (hb.cell i).trans hy
        have fS := hb.free i
        have hVl : V < wr.heap.size := hb.lt
        clear hk hb hsz hvl hnd hvs hy
        go_wp2_with fail
        go_roundw
        case rel =>
          obtain ⟨hsz, hvl, hnd, hvs⟩ := HVS.out
          have k9 : Kept (fun y => y = V) wr ((wr.setCell ⟨V, i, none⟩ (.pointer (some ⟨wr.heap.size, 0, none⟩))).alloc (.cells #[.bool false, .int .u64 0, .int .u64 0, .int .u64 0, .int .u64 0, .int .i64 0] 60)) := ((Kept.refl (fun y => y = V) wr).put i _).alloc _
          refine ⟨i + 1, vs ++ [wr.heap.size], cur.setIfInBounds i (.pointer (some ⟨wr.heap.size, 0, none⟩)), by go_num, hil, HK.out.step k9 (fun _ _ h => h), (HB.out.set i _).kept ((Kept.refl (fun _ => False) _).alloc _) (fun f => f), by rw [Array.size_setIfInBounds]; exact hsz, by rw [List.length_append, hvl]; rfl, ?_, fun j v hj => ?_⟩
          · rw [List.nodup_append]
            refine ⟨hnd, by simp, fun a ha b hb e => ?_⟩
            obtain ⟨j, hj⟩ := List.getElem?_of_mem ha
            rw [List.mem_singleton] at hb
            have := (hvs j a hj).2.1.lt
            omega
          · by_cases hji : j < i
            · rw [List.getElem?_append_left (by omega)] at hj
              obtain ⟨h1, h2, h3⟩ := hvs j v hj
              refine ⟨h1, h2.kept k9 (fun e => ?_), by rw [Array.getElem?_setIfInBounds_ne (by omega)]; exact h3⟩
              have h4 := HB.out
              have h5 := HK.out.size
              have h6 := HVL.out
              omega
            · have hjl := (List.getElem?_eq_some_iff.1 hj).1
              rw [List.length_append, hvl, List.length_singleton] at hjl
              obtain rfl : j = i := by omega
              rw [List.getElem?_append_right (by omega), hvl, Nat.sub_self] at hj
              obtain rfl := Option.some.inj hj
              refine ⟨HK.out.size, ?_, by rw [Array.getElem?_setIfInBounds_self_of_lt (by omega)]⟩
              have h9 := Blk.new (wr.setCell ⟨V, j, none⟩ (.pointer (some ⟨wr.heap.size, 0, none⟩))) (docW none 0) 60
              rw [World.size_setCell] at h9
              exact h9
        case measure => simp [intOf]; omega
    · obtain rfl : n = i := by omega
      as_aux_lemma =>
        obtain ⟨hsz, hvl, hnd, hvs⟩ := HVS.out
        have mz : Move (· = 200) col8 (ext col8 w8.heap.size 4) w8 wr := Move.ext (HK.out.mono fun y _ hy => by rw [hy]; exact HV8.out) 4
        have hps0 : ∃ (colj : Nat → Nat) (s : CSt) (M : Nat), M ≤ 0 ∧ Fits n M s ∧ PS w.heap.size colj f p g N n M R sl sh s s ks (.slice la n lc) (.slice (some ⟨V, 0, none⟩) n n) vs w wr := by
          refine ⟨ext col8 w8.heap.size 4, ⟨[], [], fun _ => none, fun _ => 0, 0⟩, 0, Nat.le_refl _, ⟨by rw [held_nil (fun _ _ => rfl)]; rfl, by rw [held_nil (fun _ _ => rfl)]; exact Nat.le_refl _, fun _ => ⟨Int.le_refl _, Int.le_refl _⟩⟩, C8.out.moveG HKS.out mz (fun c h => .inr (by omega)), ⟨⟨_, _, R8.out.move mz (by omega), Owns.nil _ _ _ _ _, Owns.nil _ _ _ _ _⟩, fun i v hv => ⟨(hvs i v hv).2.1, ext_new _ (hvs i v hv).1⟩, hnd⟩, ?_, HKS.out⟩
          refine ⟨some ⟨V, 0, none⟩, n, by rw [ptrs_len, hvl], by rw [ptrs_len, hvl]; exact Nat.le_refl _, by unfold maxLen; omega, fun _ => ⟨V, 0, rfl, HB.out.lt, (mz.re V HVL.out).trans HV8.out, fun j hj => ?_⟩⟩
          rw [ptrs_len] at hj
          have h9 := List.getElem?_eq_getElem hj
          rw [Nat.zero_add, HB.out.cell j, (hvs j _ h9).2.2]
          unfold ptrs
          rw [List.getElem?_map, h9]; rfl
        have HVN := Lib.hid hvl
        have HPS0 := Lib.hid hps0
        clear hps0 mz hsz hvl hnd hvs hk hb HK HB HVS HVL HV8 C8 R8 HKS
        go_wp2_with fail
        go_loopw [14] (fun iv wq => ∃ (i : Nat) (colj : Nat → Nat) (s : CSt) (M : Nat), iv = .int .i64 i ∧ i ≤ len2 ∧ M ≤ i ∧ Fits n M s ∧ PS w.heap.size colj f p g N n M R sl sh s s ks (.slice la n lc) (.slice (some ⟨V, 0, none⟩) n n) vs w wq) (fun iv _ => len2 - (intOf iv).toNat)
        case atStart =>
          obtain ⟨colj, s, M, hM, hf, hp⟩ := HPS0.out
          exact ⟨0, colj, s, M, rfl, Nat.zero_le _, hM, hf, hp⟩
        case round =>
          clear HPS0
          obtain ⟨i, colj, s, M, rfl, hi, hM, hf, hp⟩ := hrel
          have PJ := Lib.hid hp
          have FJ := Lib.hid hf
          clear hp hf
          by_cases hil : i < len2
          · as_aux_lemma =>
              have hdl : decide ((i : Int) < (len2 : Int)) = true := decide_eq_true (by omega)
              obtain ⟨b, o, rfl, hbl, hce⟩ := W2.out.2 (by omega)
              obtain ⟨q0, p0, q1, p1, q2, -, q3, -, q4, -, q5, -⟩ := hce i hil
              have p0' := bd_i64 p0
              have p1' := bd_i64 p1
              rw [← PJ.out.cs.fr.cell hbl] at q0 q1 q2 q3 q4 q5
              obtain ⟨K, hK⟩ : ∃ K, K = f2_0 i := ⟨_, rfl⟩
              obtain ⟨J, hJ⟩ : ∃ J, J = f2_1 i := ⟨_, rfl⟩
              obtain ⟨x, hx⟩ : ∃ x : FiringV, x = ⟨f2_2 i, f2_3 i, f2_4 i, f2_5 i⟩ := ⟨_, rfl⟩
              rw [show f2_2 i = x.id by rw [hx]] at q2
              rw [show f2_3 i = x.gen by rw [hx]] at q3
              rw [show f2_4 i = x.dl by rw [hx]] at q4
              rw [show f2_5 i = x.tick by rw [hx]] at q5
              rw [← hK] at q0 p0'
              rw [← hJ] at q1 p1'
              clear hce p0 p1 hK hJ hx
              go_upto_region 22 with fail
              obtain ⟨w1, hw1⟩ : ∃ w1, w1 = wr.alloc (.cells #[.int .i64 K, .int .i64 J, .int .u64 x.id, .int .u64 x.gen, .int .u64 x.dl, .int .u64 x.tick] 62) := ⟨_, rfl⟩
              obtain ⟨A, hA⟩ : ∃ A, A = wr.heap.size := ⟨_, rfl⟩
              rw [← hw1, ← hA]
              have P1 := Lib.hid (PJ.out.news (show Still wr w1 by rw [hw1]; exact (still_refl wr).alloc _) 201)
              have A1 : Hid (BlkC (ext colj wr.heap.size 201) 201 w1 A #[.int .i64 K, .int .i64 J, .int .u64 x.id, .int .u64 x.gen, .int .u64 x.dl, .int .u64 x.tick] 62) := Lib.hid ⟨by rw [hw1, hA]; exact Blk.new _ _ _, ext_new _ (by rw [hA]; exact Nat.le_refl _)⟩
              have e0 : w1.cell? ⟨A, 0, none⟩ = some (.int .i64 K) := A1.out.1.cell 0
              clear hw1 hA PJ q0 q1 q2 q3 q4 q5
              generalize ext colj wr.heap.size 201 = col1 at *
              obtain ⟨kb, hkb⟩ : ∃ kb : Bool, kb = decide (K = 0) := ⟨_, rfl⟩
              have HKB := Lib.hid hkb
              clear hkb
              go_cut [80] from 78 to 80 (fun bv wx => wx = w1 ∧ bv = .bool kb)
              case first =>
                by_cases hK : K = 0
                · subst hK
                  go_wp2_with fail
                  go_meet
                  case rel => exact ⟨rfl, by rw [HKB.out]; rfl⟩
                · go_wp2_with fail
                  go_meet
                  case rel => exact ⟨rfl, by rw [HKB.out]; simp [hK]⟩
              case rest =>
                obtain ⟨rfl, rfl⟩ := hcut
                go_upto_if 80 with fail
                go_cut [15] from 81 to 96 (fun av wx => av = .pointer (some ⟨A, 0, none⟩) ∧ ∃ (col2 : Nat → Nat) (s2 : CSt) (M2 : Nat), M2 ≤ i + 1 ∧ Fits n M2 s2 ∧ PS w.heap.size col2 f p g N n M2 R sl sh s2 s2 ks (.slice la n lc) (.slice (some ⟨V, 0, none⟩) n n) vs w wx ∧ BlkC col2 201 wx A #[.int .i64 K, .int .i64 J, .int .u64 x.id, .int .u64 x.gen, .int .u64 x.dl, .int .u64 x.tick] 62)
                case first =>
                  as_aux_lemma =>
                    cases kb with
                    | true =>
                      clear HKB
                      have e2 : wc.cell? ⟨A, 2, none⟩ = some (.int .u64 x.id) := A1.out.1.cell 2
                      have e3 : wc.cell? ⟨A, 3, none⟩ = some (.int .u64 x.gen) := A1.out.1.cell 3
                      have e4 : wc.cell? ⟨A, 4, none⟩ = some (.int .u64 x.dl) := A1.out.1.cell 4
                      have e5 : wc.cell? ⟨A, 5, none⟩ = some (.int .u64 x.tick) := A1.out.1.cell 5
                      have CA := Lib.hid A1.out.1.cells
                      go_upto_region 23 with fail
                      refine wp_region_text ([4], [9, 24]) [A] (by kernel_rfl) (by kernel_rfl) (cellsB_cons CA.out cellsB_nil) (by simp [segs, isEff, isLoad, askOps, asks, ptrEq, eqOrNe, isNil]; rfl) ?_
                      (repeat ((first | (refine segs_nil ?_) | (refine segs_go (stay_drew) ?_ ?_; focus (simp [isLoad]; done)) | (refine segs_load (stay_drew) ?_ ?_; focus (intro h; first | exact ⟨A, _, rfl, by simp⟩ | (simp [Region.wanted, yielded, undef] at h; done))) | fail); go_wp2_with fail))
                      have PD := Lib.hid (P1.out.still ((still_refl wc).drewN 1))
                      refine (cf_pipe PD.out.cs.st).mono ?_
                      rintro e wp ⟨rfl, rfl⟩
                      go_wp2_with fail
                      (repeat ((first | (refine segs_nil ?_) | (refine segs_go (stay_drew) ?_ ?_; focus (simp [isLoad]; done)) | (refine segs_load (stay_drew) ?_ ?_; focus (intro h; first | exact ⟨A, _, rfl, by simp⟩ | (simp [Region.wanted, yielded, undef] at h; done))) | fail); go_wp2_with fail))
                      refine (ps_put PD.out (by omega) x).mono ?_
                      rintro e wq ⟨rfl, colq, mq, pq⟩
                      have AQ := Lib.hid ((show BlkC col1 201 wc.drew A _ _ from A1.out.still ((still_refl wc).drewN 1)).move mq (by unfold MX; omega))
                      have PQ := Lib.hid pq
                      have stq : StayB [A] wc wq := fun b hb => by
                        simp only [List.mem_singleton] at hb
                        subst hb
                        exact mq.k.block b A1.out.1.lt (fun h9 => by rw [A1.out.2] at h9; unfold MX at h9; omega)
                      clear mq pq e2 e3 e4 e5
                      go_wp2_with fail
                      (repeat ((first | (refine segs_nil ?_) | (refine segs_go (stq) ?_ ?_; focus (simp [isLoad]; done)) | (refine segs_load (stq) ?_ ?_; focus (intro h; first | exact ⟨A, _, rfl, by simp⟩ | (simp [Region.wanted, yielded, undef] at h; done))) | fail); go_wp2_with fail))
                      obtain ⟨pv, lv9, hR, hp9, -⟩ := PQ.out.doc.bl
                      obtain ⟨L, hL⟩ : ∃ L, L = s.xs.length := ⟨_, rfl⟩
                      have hLM : L < 100000 := by
                        have := FJ.out.cnt
                        omega
                      rw [← hL] at hp9
                      have HLL := Lib.hid hL
                      obtain ⟨pa, pc, rfl⟩ := owns_slice hp9.1
                      have HPP := Lib.hid hp9
                      have HRR := Lib.hid hR
                      have CR := Lib.hid hR.1.cells
                      have CA2 := Lib.hid AQ.out.1.cells
                      have r13 : wq.cell? ⟨R, 13, none⟩ = some (.slice pa L pc) := hR.1.cell 13
                      have e2 : wq.cell? ⟨A, 2, none⟩ = some (.int .u64 x.id) := AQ.out.1.cell 2
                      have e3 : wq.cell? ⟨A, 3, none⟩ = some (.int .u64 x.gen) := AQ.out.1.cell 3
                      have e4 : wq.cell? ⟨A, 4, none⟩ = some (.int .u64 x.dl) := AQ.out.1.cell 4
                      have e5 : wq.cell? ⟨A, 5, none⟩ = some (.int .u64 x.tick) := AQ.out.1.cell 5
                      have hAl : ∀ b, b ∈ [R, A] → b < wq.heap.size := fun b hb => by
                        simp only [List.mem_cons, List.not_mem_nil, or_false] at hb
                        rcases hb with rfl | rfl
                        · exact HRR.out.1.lt
                        · exact AQ.out.1.lt
                      have HAL := Lib.hid hAl
                      have hoa := hp9.alloc (.cells #[.int .u64 x.id, .int .u64 x.gen, .int .u64 x.dl, .int .u64 x.tick] 40)
                      clear hAl hR hp9 hL stq
                      go_upto_region 24 with fail
                      refine wp_region_end ([4], [9, 54]) [R, A] rfl (by kernel_rfl) (by kernel_rfl) (by kernel_rfl) (cellsB_cons CR.out (cellsB_cons CA2.out cellsB_nil)) (by simp [segs, isEff, isLoad, askOps, asks, ptrEq, eqOrNe, isNil]; rfl) ?_
                      (repeat ((first | (refine segs_nil ?_) | (refine segs_go (stay_drew) ?_ ?_; focus (simp [isLoad]; done)) | (refine segs_load (stay_drew) ?_ ?_; focus (intro h; first | exact ⟨R, _, rfl, by simp⟩ | exact ⟨A, _, rfl, by simp⟩ | (simp [Region.wanted, yielded, undef] at h; done))) | fail); go_wp2_with fail))
                      refine segs_go (stay_still (((still_refl wq).alloc _).drewN 1) HAL.out) (by simp [isLoad]) ?_
                      go_wp2_with (first | (at_builtin; go_loud (refine wpList_append _ rfl _ _ 22 rfl 0 40 i0 (.agg #[.int .u64 0, .int .u64 0, .int .u64 0, .int .u64 0]) 4 32 Try.underlying22 hi9 hz90 hz91 hz92 rfl (by decide) _ _ _ rfl hoa ⟨wq.heap.size, 0, none⟩ 1 1 [.int .u64 x.id, .int .u64 x.gen, .int .u64 x.dl, .int .u64 x.tick] rfl rfl (by intro j u hj; rw [addr_add, Nat.zero_add]; exact ((Blk.newAt _ _ _ (by simp)).cell j).trans (by simpa using hj)) (by intro u hu; simp only [List.mem_cons, List.not_mem_nil, or_false] at hu; rcases hu with rfl | rfl | rfl | rfl <;> rfl) (by unfold maxLen; omega) (by omega) (Nat.zero_le _) ?_)) | fail)
                      intro v5 w5 hap
                      obtain ⟨o5, m5⟩ : Owns (ext colq wq.heap.size 7) 7 w5 40 4 v5 (L + 1) (cells4 s.xs ++ [.int .u64 x.id, .int .u64 x.gen, .int .u64 x.dl, .int .u64 x.tick]) ∧ Move (· = 7) colq (ext colq wq.heap.size 7) wq w5 := by
                        obtain ⟨h1, h2⟩ := Owns.more (w := wq.drew) HPP.out hap
                        exact ⟨h1, h2.1, ((still_refl wq).drewN 1 |>.mono fun _ _ f => f.elim : Kept _ wq wq.drew).step h2.2 (fun i _ e => e)⟩
                      obtain ⟨a5, c5, rfl⟩ := owns_slice o5.1
                      have R5 := HRR.out.move m5 (by omega)
                      have A5 := AQ.out.move m5 (by omega)
                      have st5 : StayB [R, A] wq w5 := StayB.kept (w := wq) (fun _ _ => rfl) m5.k (fun b hb => ⟨HAL.out b hb, by
                        simp only [List.mem_cons, List.not_mem_nil, or_false] at hb
                        rcases hb with rfl | rfl
                        · rw [HRR.out.2]; omega
                        · rw [AQ.out.2]; omega⟩)
                      have r13 : w5.cell? ⟨R, 13, none⟩ = some (.slice pa L pc) := R5.1.cell 13
                      have g13 := R5.1.free 13
                      have hput := PQ.out.dput x m5 (by rw [← HLL.out]; exact o5)
                      have HPUT := Lib.hid hput
                      have A5' := Lib.hid (AQ.out.move hput.1 (by unfold DM; omega))
                      clear hap o5 m5 R5 A5 hoa hput e2 e3 e4 e5
                      go_wp2_with fail
                      refine segs_go st5 (by simp [isLoad]) ?_
                      go_wp2_with fail
                      refine segs_nil ?_
                      go_wp2_with fail
                      go_meet
                      case rel =>
                        exact ⟨rfl, _, s.put x, M + 1, by omega, FJ.out.put x, HPUT.out.2, A5'.out⟩
                    | false =>
                      go_wp2_with fail
                      go_meet
                      case rel => exact ⟨rfl, col1, s, M, by omega, FJ.out, P1.out, A1.out⟩
                case rest =>
                  obtain ⟨rfl, col2, s2, M2, hM2, hf2, hp2, ha2⟩ := hcut
                  have P2 := Lib.hid hp2
                  have F2 := Lib.hid hf2
                  have A2 := Lib.hid ha2
                  have e0 : wc.cell? ⟨A, 0, none⟩ = some (.int .i64 K) := ha2.1.cell 0
                  clear hp2 hf2 ha2 P1 A1 FJ HKB
                  obtain ⟨kb2, hkb2⟩ : ∃ kb2 : Bool, kb2 = decide (K = 1) := ⟨_, rfl⟩
                  have HKB2 := Lib.hid hkb2
                  clear hkb2
                  obtain ⟨w2, hw2⟩ : ∃ w2, w2 = wc := ⟨_, rfl⟩
                  rw [← hw2] at P2 A2 e0 ⊢
                  clear hw2
                  go_upto_region 25 with fail
                  go_cut [99] from 97 to 99 (fun bv wx => wx = w2 ∧ bv = .bool kb2)
                  case first =>
                    by_cases hK : K = 1
                    · subst hK
                      go_wp2_with fail
                      go_meet
                      case rel => exact ⟨rfl, by rw [HKB2.out]; rfl⟩
                    · go_wp2_with fail
                      go_meet
                      case rel => exact ⟨rfl, by rw [HKB2.out]; simp [hK]⟩
                  case rest =>
                    obtain ⟨rfl, rfl⟩ := hcut
                    go_upto_if 99 with fail
                    go_cut [15] from 100 to 133 (fun av wx => ∃ (col3 : Nat → Nat) (s3 : CSt), Fits n M2 s3 ∧ PS w.heap.size col3 f p g N n M2 R sl sh s3 s3 ks (.slice la n lc) (.slice (some ⟨V, 0, none⟩) n n) vs w wx)
                    case first =>
                      as_aux_lemma =>
                        cases kb2 with
                        | true =>
                          clear HKB2
                          have e1 : wc.cell? ⟨A, 1, none⟩ = some (.int .i64 J) := A2.out.1.cell 1
                          obtain ⟨j, hjj, hjn⟩ := pick_mod J n (by omega)
                          have HJJ := Lib.hid hjj
                          clear hjj
                          go_upto_region 27 with fail
                          rw [HJJ.out]
                          clear e0 e1 HJJ
                          generalize (if 0 < J then J else (0 : Int)) = mj
                          obtain ⟨bv, ov, v, hve, -, -, hv, cv⟩ := P2.out.vat HVN.out.symm j hjn
                          simp only [Option.some.injEq, Addr.mk.injEq, and_true] at hve
                          rw [← hve.1, ← hve.2, Nat.zero_add] at cv
                          clear hve
                          obtain ⟨bl, ol, k, rfl, hbl2, h5, hk, ck⟩ := P2.out.cs.at_ HKL.out.symm j hjn
                          have hcnt := F2.out.cnt
                          have hx9 : s2.xs.length < 100000 := by omega
                          have HK9 := Lib.hid (And.intro hk hv)
                          clear hcnt h5
                          cases hmay : s2.may j with
                          | true =>
                            have HM := Lib.hid hmay
                            go_wp2_with fail
                            refine (ps_rmay P2.out hx9 HK9.out.2).mono ?_
                            rintro e wp ⟨rfl, rfl⟩
                            rw [HM.out]
                            clear hmay hk hv
                            go_wp2_with fail
                            refine (ps_may P2.out (by omega) HK9.out.1).mono ?_
                            rintro e wp ⟨rfl, kp⟩
                            rw [HM.out]
                            have P3 := Lib.hid (P2.out.still kp)
                            have ck3 : wp.cell? ⟨bl, ol + j, none⟩ = some (.pointer (some ⟨k, 0, none⟩)) := (World.cell?_of_block (a := ⟨bl, ol + j, none⟩) (kp.block bl hbl2 id)).trans ck
                            clear kp ck
                            go_wp2_with fail
                            refine (ps_step (B := M2) P3.out (by omega) (by omega) (by rw [HKL.out]; exact F2.out) HK9.out.1).mono ?_
                            rintro e wq ⟨rfl, colq, mq, pq⟩
                            rw [HM.out]
                            have P4 := Lib.hid pq
                            obtain ⟨bv, ov, v', hve, -, -, hv', cv4⟩ := pq.vat HVN.out.symm j hjn
                            simp only [Option.some.injEq, Addr.mk.injEq, and_true] at hve
                            rw [← hve.1, ← hve.2, Nat.zero_add] at cv4
                            obtain rfl : v' = v := Option.some.inj (hv'.symm.trans HK9.out.2)
                            clear hve hv' mq pq ck3 cv
                            go_wp2_with fail
                            refine (ps_rstep (m := n) (B := M2) P4.out (by omega) F2.out hjn HK9.out.2 HM.out).mono ?_
                            rintro e w5 ⟨rfl, col5, m5, p5⟩
                            have P5 := Lib.hid p5
                            clear m5 p5
                            go_wp2_with fail
                            go_meet
                            case rel => exact ⟨col5, s2.step j, F2.out.step hjn, P5.out⟩
                          | false =>
                            have HM := Lib.hid hmay
                            go_wp2_with fail
                            refine (ps_rmay P2.out hx9 HK9.out.2).mono ?_
                            rintro e wp ⟨rfl, rfl⟩
                            rw [HM.out]
                            clear hmay hk hv
                            go_wp2_with fail
                            refine (ps_may P2.out (by omega) HK9.out.1).mono ?_
                            rintro e wp ⟨rfl, kp⟩
                            rw [HM.out]
                            have P3 := Lib.hid (P2.out.still kp)
                            have ck3 : wp.cell? ⟨bl, ol + j, none⟩ = some (.pointer (some ⟨k, 0, none⟩)) := (World.cell?_of_block (a := ⟨bl, ol + j, none⟩) (kp.block bl hbl2 id)).trans ck
                            clear kp ck
                            go_wp2_with fail
                            refine (ps_step (B := M2) P3.out (by omega) (by omega) (by rw [HKL.out]; exact F2.out) HK9.out.1).mono ?_
                            rintro e wq ⟨rfl, colq, mq, pq⟩
                            rw [HM.out]
                            rw [may_not HM.out] at pq
                            have P4 := Lib.hid pq
                            clear mq pq ck3 cv
                            go_wp2_with fail
                            go_meet
                            case rel => exact ⟨colq, s2, F2.out, P4.out⟩
                        | false =>
                          go_wp2_with fail
                          go_meet
                          case rel => exact ⟨col2, s2, F2.out, P2.out⟩
                    case rest =>
                      as_aux_lemma =>
                        obtain ⟨col3, s3, hf3, hp3⟩ := hcut
                        have P3 := Lib.hid hp3
                        have F3 := Lib.hid hf3
                        clear hp3 hf3 P2 F2 A2 HKB2
                        obtain ⟨pv, lv9, hR, hp9, -⟩ := P3.out.doc.bl
                        obtain ⟨L, hL⟩ : ∃ L, L = s3.xs.length := ⟨_, rfl⟩
                        have hLM : L < 100000 := by
                          have := F3.out.cnt
                          omega
                        rw [← hL] at hp9
                        obtain ⟨pa, pc, rfl⟩ := owns_slice hp9.1
                        have r13 : wc.cell? ⟨R, 13, none⟩ = some (.slice pa L pc) := hR.1.cell 13
                        have HLL := Lib.hid hL
                        clear hR hp9 hL
                        obtain ⟨xb, hxb⟩ : ∃ xb : Bool, xb = decide (L = 0) := ⟨_, rfl⟩
                        have HXB := Lib.hid hxb
                        clear hxb
                        obtain ⟨w3, hw3⟩ : ∃ w3, w3 = wc := ⟨_, rfl⟩
                        rw [← hw3] at P3 r13 ⊢
                        clear hw3
                        go_upto_region 32 with fail
                        go_cut [18] from 134 to 139 (fun bv wx => wx = w3 ∧ bv = .bool xb)
                        case first =>
                          by_cases hL0 : L = 0
                          · subst hL0
                            go_wp2_with fail
                            go_meet
                            case rel => exact ⟨rfl, by rw [HXB.out]; rfl⟩
                          · go_wp2_with fail
                            go_meet
                            case rel => exact ⟨rfl, by rw [HXB.out]; simp [hL0]⟩
                        case rest =>
                          obtain ⟨rfl, rfl⟩ := hcut
                          have hrel3 : xb = (xb && (List.range 0).all fun i => (s3.hs i).isNone) := by simp
                          have HREL3 := Lib.hid hrel3
                          clear r13 hrel3
                          generalize hwc9 : wc = wa at *
                          clear hwc9
                          go_wp2_with fail
                          go_loopw [18, 19] (fun bv kv wr => ∃ (k : Nat), bv = .bool (xb && (List.range k).all fun i => (s3.hs i).isNone) ∧ kv = .int .i64 k ∧ k ≤ n ∧ PS w.heap.size col3 f p g N n M2 R sl sh s3 s3 ks (.slice la n lc) (.slice (some ⟨V, 0, none⟩) n n) vs w wr) (fun _ kv _ => n - (intOf kv).toNat)
                          case atStart => exact ⟨0, by rw [← HREL3.out], rfl, Nat.zero_le _, P3.out⟩
                          case round =>
                            as_aux_lemma =>
                              clear HREL3 P3
                              obtain ⟨k, rfl, rfl, hkn, hpk⟩ := hrel
                              have PK := Lib.hid hpk
                              clear hpk
                              generalize hzb : (xb && (List.range k).all fun i => (s3.hs i).isNone) = zb
                              by_cases hkl : k < n
                              · as_aux_lemma =>
                                  have HZB := Lib.hid hzb
                                  clear hzb
                                  obtain ⟨bv, ov, v, hve, -, -, hv, cv⟩ := PK.out.vat HVN.out.symm k hkl
                                  simp only [Option.some.injEq, Addr.mk.injEq, and_true] at hve
                                  rw [← hve.1, ← hve.2, Nat.zero_add] at cv
                                  clear hve
                                  obtain ⟨bl, ol, kk, rfl, hbl2, h5, hk, ck⟩ := PK.out.cs.at_ HKL.out.symm k hkl
                                  obtain ⟨y, hy⟩ : ∃ y, y = (s3.hs k).getD zF := ⟨_, rfl⟩
                                  obtain ⟨hb, hhb⟩ : ∃ hb, hb = (s3.hs k).isSome := ⟨_, rfl⟩
                                  obtain ⟨ny, hny⟩ : ∃ ny, ny = s3.ns k := ⟨_, rfl⟩
                                  have hH := ps_holds PK.out hk
                                  rw [← hy, ← hhb] at hH
                                  have hwd := (PK.out.doc.wk k v hv)
                                  unfold docW at hwd
                                  rw [← hy, ← hhb, ← hny] at hwd
                                  have HH := Lib.hid hH
                                  have HWD := Lib.hid hwd
                                  have HKV := Lib.hid (And.intro hk hv)
                                  have HYB := Lib.hid (And.intro hhb hny)
                                  clear hH hwd hy hhb hny h5 hk hv
                                  go_wp2_with fail
                                  refine HH.out.mono ?_
                                  rintro e wh ⟨rfl, kh⟩
                                  obtain ⟨vi, vg, vd, vt⟩ := y
                                  dsimp only [FiringV.v] at HWD ⊢
                                  have ka := kh.alloc (.cells #[.int .u64 vi, .int .u64 vg, .int .u64 vd, .int .u64 vt] 40)
                                  obtain ⟨w9, hw9⟩ : ∃ w9, w9 = wh.alloc (.cells #[.int .u64 vi, .int .u64 vg, .int .u64 vd, .int .u64 vt] 40) := ⟨_, rfl⟩
                                  obtain ⟨X, hX⟩ : ∃ X, X = wh.heap.size := ⟨_, rfl⟩
                                  rw [← hw9] at ka
                                  have bx : Blk w9 X #[.int .u64 vi, .int .u64 vg, .int .u64 vd, .int .u64 vt] 40 := by rw [hw9, hX]; exact Blk.new _ _ _
                                  have P9 := Lib.hid (PK.out.still ka)
                                  have BX := Lib.hid bx
                                  have W9 := Lib.hid (HWD.out.still ka)
                                  have HW9 := Lib.hid hw9
                                  have HX := Lib.hid hX
                                  have cv9 : w9.cell? ⟨V, k, none⟩ = some (.pointer (some ⟨v, 0, none⟩)) := (World.cell?_of_block (a := ⟨V, k, none⟩) (ka.block V (lt_of_cell cv) id)).trans cv
                                  have ck9 : w9.cell? ⟨bl, ol + k, none⟩ = some (.pointer (some ⟨kk, 0, none⟩)) := (World.cell?_of_block (a := ⟨bl, ol + k, none⟩) (ka.block bl hbl2 id)).trans ck
                                  clear kh ka hw9 hX bx cv ck
                                  go_upto_region 37 with fail
                                  rw [← HW9.out, ← HX.out]
                                  have CV := Lib.hid (cells_of_cell cv9)
                                  have CB := Lib.hid (cells_of_cell ck9)
                                  have CX := Lib.hid BX.out.cells
                                  have CW := Lib.hid W9.out.1.cells
                                  have d0 : w9.cell? ⟨v, 0, none⟩ = some (.bool hb) := W9.out.1.cell 0
                                  have d1 : w9.cell? ⟨v, 1, none⟩ = some (.int .u64 vi) := W9.out.1.cell 1
                                  have d2 : w9.cell? ⟨v, 2, none⟩ = some (.int .u64 vg) := W9.out.1.cell 2
                                  have d3 : w9.cell? ⟨v, 3, none⟩ = some (.int .u64 vd) := W9.out.1.cell 3
                                  have d4 : w9.cell? ⟨v, 4, none⟩ = some (.int .u64 vt) := W9.out.1.cell 4
                                  have d5 : w9.cell? ⟨v, 5, none⟩ = some (.int .i64 ny) := W9.out.1.cell 5
                                  have x0 : w9.cell? ⟨X, 0, none⟩ = some (.int .u64 vi) := BX.out.cell 0
                                  have x1 : w9.cell? ⟨X, 1, none⟩ = some (.int .u64 vg) := BX.out.cell 1
                                  have x2 : w9.cell? ⟨X, 2, none⟩ = some (.int .u64 vd) := BX.out.cell 2
                                  have x3 : w9.cell? ⟨X, 3, none⟩ = some (.int .u64 vt) := BX.out.cell 3
                                  have hneq := neq_firing ⟨vi, vg, vd, vt⟩ ⟨vi, vg, vd, vt⟩
                                  rw [decide_eq_true rfl] at hneq
                                  dsimp only [FiringV.v, Bool.not_true] at hneq
                                  have hwk : ∀ q, Calls Try.prog 15 #[.pointer (some ⟨kk, 0, none⟩)] (w9.drewN q) fun e w' => e = .returned (.int .i64 ny) ∧ w' = w9.drewN q := fun q => by
                                    rw [HYB.out.2]
                                    exact (ps_worked (P9.out.still ((still_refl w9).drewN q)) HKV.out.1).mono fun e w' h9 => ⟨h9.1, h9.2.symm⟩
                                  have HWK := Lib.hid hwk
                                  clear hwk
                                  have hbb : (hb != hb) = false := by cases hb <;> rfl
                                  have hkn9 : (k : Int) < (n : Int) := by omega
                                  go_quiet (exact Calls.quiet_of_same (HWK.out _))
                                  have PE := Lib.hid (P9.out.still ((still_refl w9).drewN nq))
                                  have HB9 := Lib.hid (show (s3.hs k).isNone = !hb by rw [HYB.out.1]; exact none_not _)
                                  clear HWK P9 W9 BX HYB HH HWD HW9 HX
                                  cases zb with
                                  | true =>
                                    go_wp2_with fail
                                    go_roundw
                                    case rel => exact ⟨k + 1, by rw [idle_succ, HZB.out, HB9.out]; rfl, by go_num, hkl, PE.out⟩
                                    case measure => simp [intOf]; omega
                                  | false =>
                                    go_wp2_with fail
                                    go_roundw
                                    case rel => exact ⟨k + 1, by rw [idle_succ, HZB.out]; rfl, by go_num, hkl, PE.out⟩
                                    case measure => simp [intOf]; omega
                              · obtain rfl : n = k := by omega
                                as_aux_lemma =>
                                  have hzi : idleB ks s3.hs s3.xs = zb := by
                                    unfold idleB
                                    rw [HKL.out, ← HLL.out, ← hzb, HXB.out, Bool.and_comm]
                                  have HZI := Lib.hid hzi
                                  have hbb : (zb != zb) = false := by cases zb <;> rfl
                                  clear hzb hzi
                                  obtain ⟨pv0, lv0, hR0, -, -⟩ := PK.out.doc.bl
                                  have CR := Lib.hid hR0.1.cells
                                  have PZ := Lib.hid (PK.out.still ((still_refl wr).drewN 1))
                                  have hcnt := F3.out.cnt
                                  have hxl : s3.xs.length < 1000000 := by omega
                                  have hll : s3.logs.length < 1000000 := by omega
                                  clear hR0 hcnt
                                  go_upto_region 40 with fail
                                  refine wp_region_text ([4], [9, 54]) [R] (by kernel_rfl) (by kernel_rfl) (cellsB_cons CR.out cellsB_nil) (by simp [segs, isEff, isLoad, askOps, asks, ptrEq, eqOrNe, isNil]; rfl) ?_
                                  (repeat ((first | (refine segs_nil ?_) | (refine segs_go (stay_drew) ?_ ?_; focus (simp [isLoad]; done)) | (refine segs_load (stay_drew) ?_ ?_; focus (intro h; first | exact ⟨R, _, rfl, by simp⟩ | (simp [Region.wanted, yielded, undef] at h; done))) | fail); go_wp2_with fail))
                                  refine (ps_busy PZ.out).mono ?_
                                  rintro e w1 ⟨rfl, kb1, pb⟩
                                  have PB := Lib.hid pb
                                  have ST1 := Lib.hid (PZ.out.stay (W0 := wr) stay_drew kb1)
                                  obtain ⟨pv1, lv1, hR1, -, -⟩ := pb.doc.bl
                                  have r9 : w1.cell? ⟨R, 9, none⟩ = some (.int .i64 s3.bz) := hR1.1.cell 9
                                  clear pb kb1 hR1
                                  go_wp2_with fail
                                  (repeat ((first | (refine segs_nil ?_) | (refine segs_go (ST1.out) ?_ ?_; focus (simp [isLoad]; done)) | (refine segs_load (ST1.out) ?_ ?_; focus (intro h; first | exact ⟨R, _, rfl, by simp⟩ | (simp [Region.wanted, yielded, undef] at h; done))) | fail); go_wp2_with fail))
                                  refine (cf_pipe PB.out.cs.st).mono ?_
                                  rintro e wp ⟨rfl, rfl⟩
                                  go_wp2_with fail
                                  (repeat ((first | (refine segs_nil ?_) | (refine segs_go (ST1.out) ?_ ?_; focus (simp [isLoad]; done)) | (refine segs_load (ST1.out) ?_ ?_; focus (intro h; first | exact ⟨R, _, rfl, by simp⟩ | (simp [Region.wanted, yielded, undef] at h; done))) | fail); go_wp2_with fail))
                                  refine (ps_pall PB.out (by omega)).mono ?_
                                  rintro e w2 ⟨v1, col4, rfl, m4, p4, row1⟩
                                  have P4 := Lib.hid p4
                                  have ST2 := Lib.hid (PB.out.stay ST1.out m4.k)
                                  obtain ⟨pv2, lv2, hR2, hq2, -⟩ := p4.doc.bl
                                  have hs2 := rsame v1 pv2 s3.xs s3.xs _ _ w2 row1 (FRow.of_owns hq2.1) hxl
                                  rw [decide_eq_true rfl] at hs2
                                  have HS2 := Lib.hid hs2
                                  have r13 : w2.cell? ⟨R, 13, none⟩ = some pv2 := hR2.1.cell 13
                                  clear p4 m4 row1 hR2 hq2 r9 hs2
                                  go_wp2_with fail
                                  (repeat ((first | (refine segs_nil ?_) | (refine segs_go (ST2.out) ?_ ?_; focus (simp [isLoad]; done)) | (refine segs_load (ST2.out) ?_ ?_; focus (intro h; first | exact ⟨R, _, rfl, by simp⟩ | (simp [Region.wanted, yielded, undef] at h; done))) | fail); go_wp2_with fail))
                                  refine HS2.out.mono ?_
                                  rintro e w3 ⟨rfl, k3⟩
                                  have P5 := Lib.hid (P4.out.still k3)
                                  have ST3 := Lib.hid (P4.out.stay ST2.out (k3.mono fun _ _ f => f.elim))
                                  clear k3 r13
                                  go_wp2_with fail
                                  (repeat ((first | (refine segs_nil ?_) | (refine segs_go (ST3.out) ?_ ?_; focus (simp [isLoad]; done)) | (refine segs_load (ST3.out) ?_ ?_; focus (intro h; first | exact ⟨R, _, rfl, by simp⟩ | (simp [Region.wanted, yielded, undef] at h; done))) | fail); go_wp2_with fail))
                                  refine (cf_log P5.out.cs.st).mono ?_
                                  rintro e wp ⟨rfl, rfl⟩
                                  go_wp2_with fail
                                  (repeat ((first | (refine segs_nil ?_) | (refine segs_go (ST3.out) ?_ ?_; focus (simp [isLoad]; done)) | (refine segs_load (ST3.out) ?_ ?_; focus (intro h; first | exact ⟨R, _, rfl, by simp⟩ | (simp [Region.wanted, yielded, undef] at h; done))) | fail); go_wp2_with fail))
                                  refine (ps_all P5.out hll).mono ?_
                                  rintro e w4 ⟨v2, rfl, row2, k4⟩
                                  have P6 := Lib.hid (P5.out.still k4)
                                  have ST4 := Lib.hid (P5.out.stay ST3.out (k4.mono fun _ _ f => f.elim))
                                  obtain ⟨pv3, lv3, hR3, -, hq3⟩ := P6.out.doc.bl
                                  have hs4 := rsame v2 lv3 s3.logs s3.logs _ _ w4 row2 (FRow.of_owns hq3.1) hll
                                  rw [decide_eq_true rfl] at hs4
                                  have HS4 := Lib.hid hs4
                                  have r15 : w4.cell? ⟨R, 15, none⟩ = some lv3 := hR3.1.cell 15
                                  clear k4 row2 hR3 hq3 hs4
                                  go_wp2_with fail
                                  (repeat ((first | (refine segs_nil ?_) | (refine segs_go (ST4.out) ?_ ?_; focus (simp [isLoad]; done)) | (refine segs_load (ST4.out) ?_ ?_; focus (intro h; first | exact ⟨R, _, rfl, by simp⟩ | (simp [Region.wanted, yielded, undef] at h; done))) | fail); go_wp2_with fail))
                                  refine HS4.out.mono ?_
                                  rintro e w5 ⟨rfl, k5⟩
                                  have P7 := Lib.hid (P6.out.still k5)
                                  have ST5 := Lib.hid (P6.out.stay ST4.out (k5.mono fun _ _ f => f.elim))
                                  clear k5 r15
                                  go_wp2_with fail
                                  (repeat ((first | (refine segs_nil ?_) | (refine segs_go (ST5.out) ?_ ?_; focus (simp [isLoad]; done)) | (refine segs_load (ST5.out) ?_ ?_; focus (intro h; first | exact ⟨R, _, rfl, by simp⟩ | (simp [Region.wanted, yielded, undef] at h; done))) | fail); go_wp2_with fail))
                                  refine (ps_idle P7.out (by omega) (by rw [HKL.out]; omega)).mono ?_
                                  rintro e w6 ⟨rfl, k6⟩
                                  rw [HZI.out]
                                  have P8 := Lib.hid (P7.out.still k6)
                                  have ST6 := Lib.hid (P7.out.stay ST5.out (k6.mono fun _ _ f => f.elim))
                                  clear k6
                                  go_wp2_with fail
                                  (repeat ((first | (refine segs_nil ?_) | (refine segs_go (ST6.out) ?_ ?_; focus (simp [isLoad]; done)) | (refine segs_load (ST6.out) ?_ ?_; focus (intro h; first | exact ⟨R, _, rfl, by simp⟩ | (simp [Region.wanted, yielded, undef] at h; done))) | fail); go_wp2_with fail))
                                  go_wp2_with fail
                                  go_roundw
                                  case rel => exact ⟨i + 1, col4, s3, M2, by go_num, hil, hM2, F3.out, P8.out⟩
                                  case measure => simp [intOf]; omega
          · obtain rfl : i = len2 := by omega
            have hdl : decide ((i : Int) < (i : Int)) = false := decide_eq_false (by omega)
            go_wp2_with fail
            go_ret
            exact ⟨rfl, PJ.out.cs.fr.bel⟩
end Go.Proofs.Ytbikganlloopbaa
