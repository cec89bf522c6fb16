/-
  What stands here: the entries among which one with the least deadline is, gone through; the least deadline. Under the condition that the library's table is as its initialiser lays it.
-/
import Derived.Test.YthinhbaklcijmaaDoorWheelLeast
import Derived.Shelf.Abstract
import Derived.OwnWalkIn
import Derived.TacticsInMore
import Derived.LoopNIn
import Derived.LoopIn
namespace Go.Proofs.YthinhbaklcijmaaDoor
set_option linter.unusedVariables false
set_option linter.unusedSimpArgs false
open Go.RowKit Go.Proofs
def encE_e (x : Nat) : Array Value := #[.pointer (some ⟨x, 0, none⟩)]
theorem ixLev_e (lv : Nat → Nat) (l : Nat) (hl : l < 4) (W : World) : (Instr.index 68 (.agg #[.pointer (some ⟨lv 0, 0, none⟩), .pointer (some ⟨lv 1, 0, none⟩), .pointer (some ⟨lv 2, 0, none⟩), .pointer (some ⟨lv 3, 0, none⟩)]) (.int .i64 (l : Int))).run Tryd.prog W = .ok (.pointer (some ⟨lv l, 0, none⟩)) W := by
  obtain rfl | rfl | rfl | rfl : l = 0 ∨ l = 1 ∨ l = 2 ∨ l = 3 := by omega
  all_goals kernel_rfl
set_option maxHeartbeats 4000000 in
set_option maxRecDepth 100000 in
theorem first1_e (n : Nat) (hn : 1 ≤ n) {s : LS} {v : Nat} {lv : Nat → Nat} {sl : Nat → Nat → Nat} {bd : Nat} {S : WSt} {m : Nat} (T : Nat) (tt : TypeId) (hbig : nAll S.pl < 80000) :
    IterT Fence.wide n Tryd.prog 46 #[.pointer (some ⟨T, 0, none⟩)] encE_e (fun ys => ys = fsq S.pl 4) (fun pre => pre <+: fsq S.pl 4) (fsq S.pl 4).length T (fun W => Blk W T #[.pointer (some ⟨v, 0, none⟩)] tt) (fun _ W => WB_e s v lv sl bd S [] m W ∧ Tab W) := by
  intro li J W hT hQ hJ hY h0
  have HJ := Lib.hid hJ
  have HQ := Lib.hid hQ
  have HY := Lib.hid hY
  have c0 : W.cell? ⟨T, 0, none⟩ = some (.pointer (some ⟨v, 0, none⟩)) := hT.cell 0
  have hTl := hT.lt
  obtain ⟨q0, _⟩ := hQ [] _ W h0
  have c1 : W.cell? ⟨v, 1, none⟩ = some (.pointer (some ⟨lv 0, 0, none⟩)) := q0.blk.cell 1
  have c2 : W.cell? ⟨v, 2, none⟩ = some (.pointer (some ⟨lv 1, 0, none⟩)) := q0.blk.cell 2
  have c3 : W.cell? ⟨v, 3, none⟩ = some (.pointer (some ⟨lv 2, 0, none⟩)) := q0.blk.cell 3
  have c4 : W.cell? ⟨v, 4, none⟩ = some (.pointer (some ⟨lv 3, 0, none⟩)) := q0.blk.cell 4
  have H0 := Lib.hid h0
  clear hJ hQ hY h0 q0
  refine callsIn_of_wp Tryd.func46 rfl trivial ?_ rfl
  simp only [Tryd.ntmps46, List.size_toArray, List.length_cons, List.length_nil, Nat.reduceAdd, Nat.reduceSub, Array.replicate_succ, Array.replicate_zero, List.push_toArray, List.append_toArray, List.nil_append, List.cons_append]
  gi_wp2
  clear c1 c2 c3 c4 c0
  have hTG := Lib.hid hT
  clear hT
  gi_loopw [4, 6, 13] (fun _ _ i wr => ∃ (l : Nat) (G : Nat → Prop), l ≤ 4 ∧ i = .int .i64 l ∧ J [] G wr ∧ Blk wr T #[.pointer (some ⟨v, 0, none⟩)] tt ∧ fsq S.pl (4 - l) = fsq S.pl 4) (fun _ _ i _ => 4 - (intOf i).toNat)
  case atStart => exact ⟨0, _, by omega, rfl, H0.out, hTG.out, rfl⟩
  case round =>
    obtain ⟨l, G, hl, rfl, hj, hT1, hfs⟩ := hrel
    have J1 := Lib.hid hj
    have T1 := Lib.hid hT1
    have FS := Lib.hid hfs
    obtain ⟨q1, tab1⟩ := HQ.out _ _ _ hj
    have Q1 := Lib.hid q1
    have TB1 := Lib.hid tab1
    clear hj hT1 hfs q1 tab1
    by_cases hl4 : l < 4
    · have hix := ixLev_e lv l hl4
      gi_wp2_with fail
      refine ⟨trivial, callsIn_wide.2 ((lvmap_e s (lv l) (sl l) wr (Q1.out.lev l hl4)).mono ?_)⟩
      rintro e W2 ⟨u, rfl, rfl, hu⟩
      have hfrom := from_first (pl := S.pl) (l := l) hu (fun k hk => by
        rw [← lq_lev sl bd hl4 hk, Q1.out.sq _ (by omega), List.map_eq_nil_iff])
      have hu1 := hu.1
      have HF := Lib.hid hfrom
      clear hu hfrom hix
      gi_wp2_with fail
      refine ⟨trivial, callsIn_wide.2 ((from_any u hu1 0 _ TB1.out).mono ?_)⟩
      rintro e W2 ⟨rfl, bel2⟩
      rw [HF.out]
      have k2 : Still wr W2 := ⟨bel2.os, bel2.tape, bel2.output, bel2.size, fun k hk _ => bel2.block k hk⟩
      have J2 := Lib.hid (HJ.out _ _ _ _ J1.out (lstill_kept k2))
      have T2 := Lib.hid (T1.out.still k2)
      obtain ⟨q2, tab2⟩ := HQ.out _ _ _ J2.out
      obtain ⟨xs, hxs⟩ : ∃ xs, xs = lvXs S.pl l := ⟨_, rfl⟩
      obtain ⟨z, hz⟩ : ∃ z : Int, z = lvZ S.pl l := ⟨_, rfl⟩
      have hat : Calls Tryd.prog 41 #[.pointer (some ⟨lv l, 0, none⟩), .int .i64 z] W2 fun e w' => (∃ r, e = .returned r ∧ VRow (W2.heap.size ≤ ·) w' r (ptrs xs)) ∧ Below W2.heap.size W2 w' := by
        rw [hz, hxs]
        unfold lvZ lvXs
        cases hlf : lvFirst S.pl l with
        | some k =>
          obtain ⟨hk1, hk2, hk3⟩ := lvFirst_some hlf
          obtain ⟨r1, r2⟩ := wrow_e q2 (q := l * 64 + k) (by omega)
          rw [lq_lev sl bd hl4 hk1] at r1 r2
          refine (lvat_e s (lv l) (sl l) k W2 q2.lw (q2.lev l hl4) hk1 (by have := q2.tot hl4; omega) r2).mono ?_
          rintro e w' ⟨⟨r, rfl, ho⟩, bel⟩
          rw [r1] at ho
          exact ⟨⟨r, rfl, VRow.of_owns ho⟩, bel⟩
        | none =>
          refine (lvat_range_e (lv l) (-1) W2 (by omega)).mono ?_
          rintro e w' ⟨rfl, rfl⟩
          exact ⟨⟨_, rfl, VRow.nil _ _ _ _ (Nat.zero_le _)⟩, Below.refl _ _⟩
      rw [← hz]
      have hxf : xs <+: fsq S.pl 4 ∧ (xs ≠ [] → fsq S.pl 4 = xs) ∧ (xs = [] → fsq S.pl (4 - (l + 1)) = fsq S.pl 4 ∧ ∀ k, k < 64 → S.pl (l * 64 + k) = []) := by
        rw [← FS.out, hxs]; exact fsq_xs hl4
      have hxb : xs.length < 80000 := by
        rw [hxs]
        unfold lvXs
        cases hlf : lvFirst S.pl l with
        | some k => have := le_nAll S.pl (q := l * 64 + k) (by have := (lvFirst_some hlf).1; omega); simp only; omega
        | none => simp
      have HP := Lib.hid (show xs ≠ [] → ∃ k, k < 64 ∧ S.pl (l * 64 + k) ≠ [] from fun h9 => by
        rw [hxs] at h9
        unfold lvXs at h9
        cases hlf : lvFirst S.pl l with
        | some k => exact ⟨k, (lvFirst_some hlf).1, (lvFirst_some hlf).2.1⟩
        | none => rw [hlf] at h9; exact absurd rfl h9)
      have XF := Lib.hid hxf
      have HAT := Lib.hid hat
      clear q2 tab2 hat hz hxf hxs bel2 k2 HF hu1
      gi_wp2_with fail
      refine ⟨trivial, callsIn_wide.2 (HAT.out.mono ?_)⟩
      rintro e W3 ⟨⟨r, rfl, hrow⟩, bel3⟩
      have k3 : Still W2 W3 := ⟨bel3.os, bel3.tape, bel3.output, bel3.size, fun k hk _ => bel3.block k hk⟩
      have hj3 := HJ.out _ _ _ _ J2.out (lstill_kept k3)
      have T3 := Lib.hid (T2.out.still k3)
      have hTl2 := T2.out.lt
      have hrow3 := hrow.inside.mono (R := fun k => (fun _ => True) k ∧ k ≠ T ∧ (W2.heap.size ≤ k ∧ k < W3.heap.size)) (fun b hb => ⟨trivial, by omega, hb.1, hb.2⟩)
      have JR := Lib.hid (show ∃ G3 : Nat → Prop, J [] G3 W3 ∧ VRow (fun k => k ≠ T ∧ G3 k) W3 r (ptrs xs) from ⟨_, hj3, hrow3.mono (fun b hb => ⟨hb.2.1, .inr hb.2.2⟩)⟩)
      obtain ⟨ra, rc, rfl⟩ := hrow.len
      rw [ptrs_len] at JR ⊢
      clear hrow bel3 hj3 hrow3 k3 J2 T2 HAT hTl2
      gi_wp2_with fail
      gi_loopw [6, 22] (fun _ i wr => ∃ (q : Nat) (G : Nat → Prop), q ≤ xs.length ∧ i = .int .i64 q ∧ J (xs.take q) G wr ∧ Blk wr T #[.pointer (some ⟨v, 0, none⟩)] tt ∧ VRow (fun k => k ≠ T ∧ G k) wr (.slice ra xs.length rc) (ptrs xs)) (fun _ i _ => xs.length - (intOf i).toNat)
      case atStart => obtain ⟨G3, h1, h2⟩ := JR.out; exact ⟨0, G3, Nat.zero_le _, rfl, h1, T3.out, h2⟩
      case round =>
        obtain ⟨q, G3, hq, rfl, hj4, hT4, hrow4⟩ := hrel
        have J4 := Lib.hid hj4
        have T4 := Lib.hid hT4
        have R4 := Lib.hid hrow4
        clear hj4 hT4 hrow4
        by_cases hql : q < xs.length
        · obtain ⟨x, hx⟩ : ∃ x, x = xs[q] := ⟨_, rfl⟩
          have hc0 := R4.out.at_.2.2.2
          rw [ptrs_len] at hc0
          obtain ⟨b, o, rfl, hbl, hbq, hcell⟩ := hc0 (by omega)
          have c1 : wr.cell? ⟨b, o + q, none⟩ = some (.pointer (some ⟨x, 0, none⟩)) := by
            rw [hcell q hql]
            unfold ptrs
            rw [List.getElem?_map, List.getElem?_eq_getElem hql, hx]; rfl
          have htk : xs.take (q + 1) = xs.take q ++ [x] := by rw [List.take_succ_eq_append_getElem hql, hx]
          have hpre : xs.take q ++ [x] <+: fsq S.pl 4 := by rw [← htk]; exact (List.take_prefix _ _).trans XF.out.1
          have hlen : (xs.take q).length < (fsq S.pl 4).length := by
            have := hpre.length_le
            rw [List.length_append, List.length_singleton] at this; omega
          obtain ⟨fn, tmps, assign, body, hy, hR⟩ := HY.out (xs.take q) G3 x wr J4.out T4.out.lt hpre hlen
          dsimp only [encE_e] at hy
          have HTK := Lib.hid htk
          clear hc0 hcell hx htk hpre hlen
          gi_wp2
          refine hR.mono ?_
          rintro e W5 ⟨rfl, hJ5, hk5⟩
          have R5 := Lib.hid (R4.out.keep hk5 (fun b hb _ h9 => h9.2 hb.2))
          have T5 := Lib.hid (T4.out.kept hk5 (fun h9 => h9.1 rfl))
          gi_wp2
          go_roundw
          case rel => exact ⟨q + 1, G3, by omega, by go_num, by rw [HTK.out]; exact hJ5, T5.out, R5.out⟩
          case measure => simp [intOf]; omega
        · obtain rfl : q = xs.length := by omega
          have hj9 := J4.out
          rw [List.take_length] at hj9
          have J9 := Lib.hid hj9
          obtain ⟨q9, _⟩ := HQ.out _ _ _ hj9
          have Q9 := Lib.hid q9
          clear hj9 q9
          gi_wp2_with fail
          refine ⟨trivial, callsIn_wide.2 ((lvlen_e s (lv l) (sl l) wr (Q9.out.lev l hl4)).mono ?_)⟩
          rintro e W6 ⟨rfl, rfl⟩
          have hlen : ∀ k, k < 64 → (s.sq (sl l k)).length = (S.pl (l * 64 + k)).length := fun k hk => by
            rw [← lq_lev sl bd hl4 hk]; exact Q9.out.len (by omega)
          by_cases hx0 : xs = []
          · have ht : tot (fun k => (s.sq (sl l k)).length) = 0 := tot_zero (fun k hk => by rw [hlen k hk, (XF.out.2.2 hx0).2 k hk]; rfl)
            rw [ht]
            have HX0 := Lib.hid hx0
            clear hx0 ht hlen
            gi_wp2_with fail
            go_roundw
            case rel =>
              have h9 := J9.out
              rw [HX0.out] at h9
              exact ⟨l + 1, G3, by omega, by go_num, h9, T4.out, (XF.out.2.2 HX0.out).1⟩
            case measure => simp [intOf]; omega
          · have ht : 1 ≤ tot (fun k => (s.sq (sl l k)).length) := by
              obtain ⟨k, hk, hne⟩ := HP.out hx0
              have h1 := le_tot (f := fun k => (s.sq (sl l k)).length) hk
              have h2 := hlen k hk
              have h3 := List.length_pos_iff.2 hne
              omega
            have HX0 := Lib.hid hx0
            generalize tot (fun k => (s.sq (sl l k)).length) = tt9 at *
            clear hx0 hlen
            gi_wp2_with fail
            refine bodyPost_ret (results_none rfl _ _ _) rfl ?_
            exact ⟨⟨_, rfl⟩, xs, G3, (XF.out.2.1 HX0.out).symm, J9.out, T4.out⟩
    · obtain rfl : l = 4 := by omega
      have hfs : fsq S.pl 4 = S.pl 256 := by rw [← FS.out]; rfl
      have c5 : wr.cell? ⟨v, 5, none⟩ = some (.pointer (some ⟨bd, 0, none⟩)) := Q1.out.blk.cell 5
      have c0 : wr.cell? ⟨T, 0, none⟩ = some (.pointer (some ⟨v, 0, none⟩)) := T1.out.cell 0
      obtain ⟨r1, r2⟩ := wrow_e Q1.out (q := 256) (by omega)
      have hkl := Q1.out.kl 256 (by omega)
      have hln := Q1.out.len (q := 256) (by omega)
      have hle := le_nAll S.pl (q := 256) (by omega)
      rw [lq_bd] at r1 r2 hkl hln
      have R1 := Lib.hid r1
      have R2 := Lib.hid r2
      have KL := Lib.hid hkl
      have LN := Lib.hid hln
      have HFS := Lib.hid hfs
      clear r1 r2 hkl hln hfs
      obtain ⟨xs, hxs⟩ : ∃ xs, xs = S.pl 256 := ⟨_, rfl⟩
      have HXS := Lib.hid hxs
      have hxb : xs.length < 80000 := by rw [hxs]; omega
      clear hxs
      gi_wp2_with fail
      refine ⟨trivial, callsIn_wide.2 ((lallo_e s wr Q1.out.lw bd KL.out (by rw [LN.out]; omega) R2.out).mono ?_)⟩
      rintro e W3 ⟨⟨r, rfl, ho⟩, bel3⟩
      rw [R1.out, ← HXS.out] at ho
      have hrow : VRow (wr.heap.size ≤ ·) W3 r (ptrs xs) := VRow.of_owns ho
      have k3 : Still wr W3 := ⟨bel3.os, bel3.tape, bel3.output, bel3.size, fun k hk _ => bel3.block k hk⟩
      have hj3 := HJ.out _ _ _ _ J1.out (lstill_kept k3)
      have T3 := Lib.hid (T1.out.still k3)
      have hTl2 := T1.out.lt
      have hrow3 := hrow.inside.mono (R := fun k => (fun _ => True) k ∧ k ≠ T ∧ (wr.heap.size ≤ k ∧ k < W3.heap.size)) (fun b hb => ⟨trivial, by omega, hb.1, hb.2⟩)
      have JR := Lib.hid (show ∃ G3 : Nat → Prop, J [] G3 W3 ∧ VRow (fun k => k ≠ T ∧ G3 k) W3 r (ptrs xs) from ⟨_, hj3, hrow3.mono (fun b hb => ⟨hb.2.1, .inr hb.2.2⟩)⟩)
      obtain ⟨ra, rc, rfl⟩ := hrow.len
      rw [ptrs_len] at JR ⊢
      clear hrow bel3 hj3 hrow3 k3 hTl2 ho c0 c5
      gi_wp2_with fail
      gi_loopw [8, 41] (fun _ i wr => ∃ (q : Nat) (G : Nat → Prop), q ≤ xs.length ∧ i = .int .i64 q ∧ J (xs.take q) G wr ∧ Blk wr T #[.pointer (some ⟨v, 0, none⟩)] tt ∧ VRow (fun k => k ≠ T ∧ G k) wr (.slice ra xs.length rc) (ptrs xs)) (fun _ i _ => xs.length - (intOf i).toNat)
      case atStart => obtain ⟨G3, h1, h2⟩ := JR.out; exact ⟨0, G3, Nat.zero_le _, rfl, h1, T3.out, h2⟩
      case round =>
        obtain ⟨q, G3, hq, rfl, hj4, hT4, hrow4⟩ := hrel
        have J4 := Lib.hid hj4
        have T4 := Lib.hid hT4
        have R4 := Lib.hid hrow4
        clear hj4 hT4 hrow4
        by_cases hql : q < xs.length
        · obtain ⟨x, hx⟩ : ∃ x, x = xs[q] := ⟨_, rfl⟩
          have hc0 := R4.out.at_.2.2.2
          rw [ptrs_len] at hc0
          obtain ⟨b, o, rfl, hbl, hbq, hcell⟩ := hc0 (by omega)
          have c1 : wr.cell? ⟨b, o + q, none⟩ = some (.pointer (some ⟨x, 0, none⟩)) := by
            rw [hcell q hql]
            unfold ptrs
            rw [List.getElem?_map, List.getElem?_eq_getElem hql, hx]; rfl
          have htk : xs.take (q + 1) = xs.take q ++ [x] := by rw [List.take_succ_eq_append_getElem hql, hx]
          have hpre : xs.take q ++ [x] <+: fsq S.pl 4 := by rw [← htk, HFS.out, ← HXS.out]; exact List.take_prefix _ _
          have hlen : (xs.take q).length < (fsq S.pl 4).length := by
            have := hpre.length_le
            rw [List.length_append, List.length_singleton] at this; omega
          obtain ⟨fn, tmps, assign, body, hy, hR⟩ := HY.out (xs.take q) G3 x wr J4.out T4.out.lt hpre hlen
          dsimp only [encE_e] at hy
          have HTK := Lib.hid htk
          clear hc0 hcell hx htk hpre hlen
          gi_wp2
          refine hR.mono ?_
          rintro e W5 ⟨rfl, hJ5, hk5⟩
          have R5 := Lib.hid (R4.out.keep hk5 (fun b hb _ h9 => h9.2 hb.2))
          have T5 := Lib.hid (T4.out.kept hk5 (fun h9 => h9.1 rfl))
          gi_wp2
          go_roundw
          case rel => exact ⟨q + 1, G3, by omega, by go_num, by rw [HTK.out]; exact hJ5, T5.out, R5.out⟩
          case measure => simp [intOf]; omega
        · obtain rfl : q = xs.length := by omega
          have hj9 := J4.out
          rw [List.take_length] at hj9
          have J9 := Lib.hid hj9
          clear hj9
          gi_wp2_with fail
          go_end0
          exact ⟨⟨_, rfl⟩, xs, G3, by rw [HFS.out, HXS.out], J9.out, T4.out⟩

end Go.Proofs.YthinhbaklcijmaaDoor
