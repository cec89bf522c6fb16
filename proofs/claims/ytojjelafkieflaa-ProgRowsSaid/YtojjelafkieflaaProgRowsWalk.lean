/-
  What stands here: the walk of ProgRows. Under no condition but that its argument is a slice of slices of numbers.
-/
import Derived.Test.YtojjelafkieflaaProgRef
namespace Go.Proofs.Ytojjelafkieflaa
set_option linter.unusedVariables false
set_option linter.unusedSimpArgs false
open Go.RowKit Go.Proofs

theorem parts_of {a0 : Option Addr} {len0 cap0 : Nat} {A : Nat → Option Addr} {Ln C : Nat → Nat} {Z : Nat → List Int} {w : World} (w0 : (len0 ≤ cap0 ∧ cap0 ≤ maxLen) ∧ (0 < len0 → ∃ b o, a0 = some ⟨b, o, none⟩ ∧ b < w.heap.size ∧ ∀ i, i < len0 → w.cell? ⟨b, o + i, none⟩ = some (.slice (A i) (Ln i) (C i)) ∧ IsRow .i64 w (A i) (Ln i) (C i) (Z i))) :
    ∃ pv P, Parts (· < w.heap.size) w (.slice a0 len0 cap0) pv P := by
  refine ⟨(List.range len0).map (fun i => .slice (A i) (Ln i) (C i)), (List.range len0).map (fun i => (Z i).take (Ln i)), ?_, ?_⟩
  · refine ⟨a0, cap0, by simp, by simpa using w0.1.1, w0.1.2, fun hp => ?_⟩
    simp only [List.length_map, List.length_range] at hp
    obtain ⟨b, o, ha, hb, hc⟩ := w0.2 hp
    refine ⟨b, o, ha, hb, hb, fun j hj => ?_⟩
    simp only [List.length_map, List.length_range] at hj
    rw [(hc j hj).1]; simp [hj]
  · have : ∀ l : List Nat, (∀ i ∈ l, i < len0) → RelL (fun x zs => IRow (· < w.heap.size) w x zs) (l.map (fun i => .slice (A i) (Ln i) (C i))) (l.map (fun i => (Z i).take (Ln i))) := by
      intro l
      induction l with
      | nil => intro _; trivial
      | cons i l ih =>
        intro hl
        have hi := hl i (by simp)
        obtain ⟨b, o, ha, hb, hc⟩ := w0.2 (by omega)
        exact ⟨(VRow.inside (IRow.of_is (hc i hi).2)).mono (fun b h => h.2), ih (fun j hj => hl j (by simp [hj]))⟩
    exact this _ (fun i hi => List.mem_range.1 hi)

theorem pathOf_drop : ∀ (zs g : List Int) (k : Nat), k < zs.length → pathOf (g ++ zs.take k) (zs.drop k) = (g ++ zs.take (k + 1)) :: pathOf (g ++ zs.take (k + 1)) (zs.drop (k + 1))
  | [], _, k, h => by simp at h
  | z :: zs, g, 0, _ => by simp [pathOf]
  | z :: zs, g, k + 1, h => by
    have := pathOf_drop zs (g ++ [z]) k (by simpa using h)
    simpa using this

set_option maxHeartbeats 4000000 in
theorem progRows_walk (a0 : Option Addr) (len0 cap0 : Nat) (Af0_0 : Nat → Option Addr) (Lf0_0 Cf0_0 : Nat → Nat) (Zf0_0 : Nat → List Int) (w : World) (w0 : (len0 ≤ cap0 ∧ cap0 ≤ maxLen) ∧ (0 < len0 → ∃ b o, a0 = some ⟨b, o, none⟩ ∧ b < w.heap.size ∧ ∀ i, i < len0 → w.cell? ⟨b, o + i, none⟩ = some (.slice (Af0_0 i) (Lf0_0 i) (Cf0_0 i)) ∧ IsRow .i64 w (Af0_0 i) (Lf0_0 i) (Cf0_0 i) (Zf0_0 i))) :
    Calls Try.prog 7 #[.slice a0 len0 cap0] w fun e w' => e = .returned (.bool true) ∧ Below w.heap.size w w' := by
  obtain ⟨pv, P, hp⟩ := parts_of w0
  clear w0
  have HP := Lib.hid hp
  clear hp
  go_enter Try.func7, Try.ntmps7
  go_wp2_with fail
  refine (alive_any _).mono ?_
  rintro e w1 ⟨rfl, k1⟩
  go_wp2_with fail
  have hP1 := Lib.hid (HP.out.keep (kept_of_below k1) (fun b hb => by omega))
  refine (great_any _ pv P a0 len0 cap0 w1 hP1.out).mono ?_
  rintro e w1' ⟨r, rfl, rfl, hr⟩
  cases r with
  | true =>
    go_wp2_with fail
    go_ret
    exact ⟨rfl, k1⟩
  | false =>
    obtain ⟨h30, hp30⟩ := hr rfl
    clear hr
    have H30 := Lib.hid h30
    have HP30 := Lib.hid hp30
    clear h30 hp30
    go_wp2_with fail
    have hP2 := Lib.hid (hP1.out.keep ((still_refl w1).alloc (.cells #[.slice none 0 0] 32)) (fun _ _ f => f))
    have bG := Blk.new w1 #[.slice none 0 0] 32
    have hs1 := k1.size
    have kA := (kept_of_below k1).of_still ((still_refl w1).alloc (.cells #[.slice none 0 0] 32))
    generalize hG : w1.heap.size = G at *
    generalize w1.alloc (.cells #[.slice none 0 0] 32) = w2 at *
    have hGlt := bG.lt
    refine (refrow_any _ pv P a0 len0 cap0 w2 hP2.out H30.out HP30.out).mono ?_
    rintro e w3 ⟨⟨want, rfl, hw3⟩, k3⟩
    go_wp2_with fail
    have hs3 := k3.size
    have hi3 : GotI w3.heap.size G [] (fun b => b = G ∨ (Value.slice none 0 0).ownBlock = some b) w3 := ⟨_, bG.below k3 hGlt, World.ownsRow_nil _ _ _ _, by omega, Nat.le_refl _, fun b => Iff.rfl⟩
    have hfl := flat_le P HP30.out
    have hMw : ∀ b, (b = G ∨ (Value.slice none 0 0).ownBlock = some b) → w.heap.size ≤ b := fun b h => by
      rcases h with h | h
      · omega
      · simp [Value.ownBlock] at h
    have HW3 := Lib.hid hw3
    have hk2 : Below w.heap.size w w2 := kA.below (Nat.le_refl _) (by omega)
    have hk3 : Below w.heap.size w w3 := hk2.trans (k3.mono hk2.size)
    refine (chain_any w3.heap.size G w.heap.size (by omega) P pv a0 len0 cap0 [] _ w3 (hP2.out.keep (kept_of_below k3) (fun b hb => by omega)) hi3 hMw hk3.size (by have := H30.out; simp only [List.length_nil]; omega)).mono ?_
    rintro e w4 ⟨may, d, M4, Fp4, rfl, hi4, mv, hq4, hD4⟩
    have HD4 := Lib.hid hD4
    clear hD4
    have hs4 := mv.kept.size
    have hk4 : Below w.heap.size w w4 := below_step hk3 mv.kept (Nat.le_refl _) (fun i hi h => by have := hMw i h; omega)
    go_wp2_with fail
    refine (going_new (· = .nilFunc) _ gotI_lt gotI_keep may d _ _ M4 Fp4 w4 hq4 HD4.out hi4 mv.apart).mono ?_
    rintro e w5 ⟨p, hp5, rfl, k5, Fp5, hF5, hg5⟩
    have hs5 := k5.size
    have hk5 : Below w.heap.size w w5 := below_still hk4 k5 (Nat.le_refl _)
    obtain ⟨W, hW⟩ : ∃ W, W = pos P.flatten := ⟨_, rfl⟩
    have hWl : W.length ≤ 900 := by
      rw [hW]
      have := List.length_filter_le (fun z : Int => decide (0 ≤ z)) P.flatten
      have := H30.out
      unfold pos
      omega
    rw [← hW] at hg5
    have hw3 := HW3.out
    rw [← hW] at hw3
    -- what is known of the document's row, from here on
    have hw4 : IRow (fun b => w2.heap.size ≤ b ∧ b < w3.heap.size) w3 want W := hw3.inside
    have hQM : ∀ (g : List Int) (M : Nat → Prop) (X : World), GotI w3.heap.size G g M X → ∀ b, (w2.heap.size ≤ b ∧ b < w3.heap.size) → ¬ M b := fun g M X h b hb hm => by
      obtain ⟨v, _, ho, _, _, hM⟩ := h
      rcases (hM b).1 hm with h | h
      · omega
      · have := (owns_lt ho b h).1; omega
    have hw5 : IRow (fun b => w2.heap.size ≤ b ∧ b < w3.heap.size) w5 want W := (hw4.keep mv.kept (fun b hb _ => hQM _ _ _ hi3 b hb)).still k5
    have HW5 := Lib.hid hw5
    have HQM := Lib.hid hQM
    have HG5 := Lib.hid hg5
    obtain ⟨wa, wc, rfl⟩ := VRow.len hw5
    obtain ⟨_, hwle, hwm, _⟩ := hw5.at_
    rw [List.length_map] at hwle
    unfold maxLen at hwm
    simp only [List.length_map]
    obtain ⟨n, hn⟩ : ∃ n, n = W.length := ⟨_, rfl⟩
    rw [← hn] at hwle hWl ⊢
    have HN := Lib.hid hn
    clear hn hw5 hg5 hw4 hw3 hW HW3 hQM hi4 hi3 hq4 HD4 mv hfl HP HP30 hP1 hP2 kA
    go_wp2_with fail
    go_loopw [6] (fun i wr => ∃ (k : Nat) (M Fp : Nat → Prop), k ≤ n ∧ i = .int .i64 k ∧ Going (· = .nilFunc) (GotI w3.heap.size G) p k (W.take k) (pathOf (W.take k) (W.drop k)) M Fp wr ∧
      IRow (fun b => w2.heap.size ≤ b ∧ b < w3.heap.size) wr (.slice wa n wc) W ∧ Below w.heap.size w wr) (fun i _ => n - (intOf i).toNat)
    case atStart => exact ⟨0, M4, Fp5, Nat.zero_le _, rfl, HG5.out, by have := HW5.out; rw [List.length_map] at this; rw [HN.out]; exact this, hk5⟩
    case round =>
      obtain ⟨k, M, Fp, hk, rfl, hg, hrow, hbel⟩ := hrel
      by_cases hlt : k < n
      · have hpd := pathOf_drop W [] k (by rw [← HN.out]; exact hlt)
        simp only [List.nil_append] at hpd
        rw [hpd] at hg
        clear hpd
        have HG := Lib.hid hg
        have hgi := hg.st
        obtain ⟨gv, bGr, hgo, _, _, hgM⟩ := hgi
        obtain ⟨ga, gc, rfl⟩ := owns_slice hgo
        have hgl : (W.take k).length = k := by rw [List.length_take, ← HN.out]; omega
        have HGL := Lib.hid hgl
        have HGO := Lib.hid hgo
        have hbelz := hbel.size
        have hrt : IRow (fun b => w2.heap.size ≤ b ∧ b < w3.heap.size) wr (.slice wa k wc) (W.take k) := by
          have := hrow.take k (by omega)
          rwa [← List.map_take] at this
        have HRT := Lib.hid hrt
        have HROW := Lib.hid hrow
        have cG := bGr.cell 0
        clear hg hgl hgo hrt hrow
        go_wp2_with fail
        refine wp_region_two ([4], [9]) 22 [G] [] (by kernel_rfl) (by kernel_rfl) (by kernel_rfl) (by decide) (cellsB_cons bGr.cells cellsB_nil) (by simp [segs, isEff, isLoad, askOps, asks, eqOrNe, isNil]; rfl) (by simp [segs, isEff, isLoad, askOps, asks, eqOrNe, isNil]; rfl) ?_
        refine segs_go stay_drew (by simp [isLoad]) ?_
        go_wp2_with fail
        refine (going_done (going_still gotI_keep HG.out ((still_refl wr).drewN 1))).mono ?_
        rintro e v1 ⟨rfl, rfl⟩
        go_wp2_with fail
        have hgw := Lib.hid (going_still gotI_keep HG.out ((still_refl wr).drewN 1))
        have hS1 : StayB [G] wr (wr.drewN 1) := fun b hb => rfl
        refine segs_go hS1 (by simp [isLoad]) ?_
        go_wp2_with fail
        refine (going_may hgw.out).mono ?_
        rintro e v1 ⟨rfl, rfl⟩
        go_wp2_with fail
        refine segs_go hS1 (by simp [isLoad]) ?_
        go_wp2_with fail
        refine (going_steps hgw.out).mono ?_
        rintro e v1 ⟨rfl, rfl⟩
        go_wp2_with fail
        refine segs_go hS1 (by simp [isLoad]) ?_
        go_wp2_with fail
        refine segs_load hS1 (fun _ => (by exact ⟨G, _, rfl, by simp⟩)) ?_
        go_wp2_with fail
        refine segs_go hS1 (by simp [isLoad]) ?_
        go_wp2_with fail
        have hgo1 : IRow (fun b => w3.heap.size ≤ b) (wr.drewN 1) (.slice ga (min k W.length) gc) (W.take k) := by
          have := (VRow.of_owns HGO.out).still ((still_refl wr).drewN 1)
          rwa [List.length_take] at this
        refine (ints_any _ _ (W.take k) (W.take k) _ _ _ hgo1 (VRow.still HRT.out ((still_refl wr).drewN 1))).mono ?_
        rintro e v2 ⟨rfl, s2⟩
        have hS2 : StayB [G] wr v2 := StayB.kept hS1 s2 (fun b hb => ⟨by simp only [List.mem_singleton] at hb; subst hb; exact bGr.lt, fun f => f⟩)
        have hdt : decide (W.take k = W.take k) = true := by simp
        rw [hdt]
        clear hgo1 hdt
        have hgw2 := Lib.hid (going_still gotI_keep hgw.out s2)
        go_wp2_with fail
        refine segs_go hS2 (by simp [isLoad]) ?_
        go_wp2_with fail
        refine segs_nil ⟨cellsB_nil, ?_⟩
        refine segs_go stay_nil (by simp [isLoad]) ?_
        go_wp2_with fail
        refine (going_step gotI_lt gotI_keep (by omega) hgw2.out).mono ?_
        rintro e v3 ⟨rfl, M3, Fp3, hg3, k3', hm3⟩
        have hgm := Lib.hid (fun b h => HQM.out _ _ _ HG.out.st b h)
        have HG3 := Lib.hid hg3
        clear hg3
        go_wp2_with fail
        refine segs_go stay_nil (by simp [isLoad]) ?_
        go_wp2_with fail
        refine segs_nil ?_
        go_wp2_with fail
        go_roundw
        case rel =>
          refine ⟨k + 1, M3, Fp3, by omega, by go_num, by have := HG3.out; simpa using this, ?_, ?_⟩
          · refine VRow.keep (VRow.still (VRow.still HROW.out ((still_refl wr).drewN 1)) s2) k3' (fun b hb _ h => ?_)
            rcases h with h | h
            · exact hgm.out b hb h
            · omega
          · refine below_step (below_still (below_still hbel ((still_refl wr).drewN 1) (Nat.le_refl _)) s2 (Nat.le_refl _)) k3' (Nat.le_refl _) (fun i hi h => ?_)
            rcases h with h | h
            · have := gotI_ge HG.out.st (B0 := w.heap.size) (by omega) i h; omega
            · omega
        case measure => simp [intOf]; omega
      · obtain rfl : k = n := by omega
        have hd0 : W.drop k = [] := List.drop_eq_nil_of_le (by rw [← HN.out]; exact Nat.le_refl _)
        have ht0 : W.take k = W := List.take_of_length_le (by rw [← HN.out]; exact Nat.le_refl _)
        rw [hd0, ht0] at hg
        have HG := Lib.hid hg
        have hgi := hg.st
        obtain ⟨gv, bGr, hgo, _, _, hgM⟩ := hgi
        obtain ⟨ga, gc, rfl⟩ := owns_slice hgo
        have cG := bGr.cell 0
        have HGO := Lib.hid hgo
        have HROW := Lib.hid hrow
        clear hg hgo hd0 ht0 hrow
        go_wp2_with fail
        refine (going_done HG.out).mono ?_
        rintro e v1 ⟨rfl, rfl⟩
        go_wp2_with fail
        refine (going_may HG.out).mono ?_
        rintro e v1 ⟨rfl, rfl⟩
        go_wp2_with fail
        refine (going_stop HG.out).mono ?_
        rintro e v1 ⟨rfl, s1⟩
        go_wp2_with fail
        refine (going_steps (going_still gotI_keep HG.out s1)).mono ?_
        rintro e v2 ⟨rfl, rfl⟩
        have cG1 := (bGr.still s1).cell 0
        go_wp2_with fail
        have hgo1 : IRow (fun b => w3.heap.size ≤ b) v1 (.slice ga W.length gc) W := (VRow.of_owns HGO.out).still s1
        refine (ints_any _ _ W W _ _ _ hgo1 (VRow.still HROW.out s1)).mono ?_
        rintro e v2 ⟨rfl, s2⟩
        have hdt : decide (W = W) = true := by simp
        rw [hdt]
        go_wp2_with fail
        go_ret
        exact ⟨rfl, below_still hbel (s1.trans s2) (Nat.le_refl _)⟩
end Go.Proofs.Ytojjelafkieflaa
