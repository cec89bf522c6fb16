/-
  What stands here: the walk of the law CellKinds: it answers true and turns nothing that was there. Under no condition.
-/
import Derived.Test.YtojjelafkieflaaCellStr
namespace Go.Proofs.Ytojjelafkieflaa
set_option linter.unusedVariables false
set_option linter.unusedSimpArgs false
open Go.RowKit Go.Proofs

set_option maxHeartbeats 2000000 in
theorem cellKinds_walk (a0 : ByteArray) (a1 : ByteArray) (a2 : Int) (w : World) (w0 : a0.size ≤ maxLen) (w1 : a1.size ≤ maxLen) (w2 : (Lit.int .i64 a2).wf = true) :
    Calls Try.prog 10 #[.string a0, .string a1, .int .i64 a2] w fun e w' => e = .returned (.bool true) ∧ Below w.heap.size w w' := by
  unfold maxLen at w0 w1
  go_enter Try.func10, Try.ntmps10
  go_wp2_with fail
  refine (cellAlive _).mono ?_
  rintro e w1 ⟨rfl, k1⟩
  have z1 := k1.size
  simp only [World.size_alloc] at z1 k1
  have bS : Blk w1 w.heap.size #[.string a0] 9 := (Blk.newAt _ _ _ rfl).below k1 (by omega)
  have kw : Below w.heap.size w w1 := ((Below.refl _ w).alloc (Nat.le_refl _) _).trans (k1.mono (by omega))
  clear k1
  have cS := bS.cell 0
  have lS := bS.lt
  go_wp2_with fail
  obtain ⟨Z, hZ⟩ : ∃ Z, w1.heap.size = Z := ⟨_, rfl⟩
  obtain ⟨w3, h3⟩ : ∃ w3, w1.alloc (.cells #[.string { data := #[] }, .int .i64 0, .int .i64 0, .int .i64 0] 66) = w3 := ⟨_, rfl⟩
  have bZ : Blk w3 Z #[.string { data := #[] }, .int .i64 0, .int .i64 0, .int .i64 0] 66 := by rw [← h3]; exact Blk.newAt _ _ _ hZ
  have bS3 : Blk w3 w.heap.size #[.string a0] 9 := by rw [← h3]; exact bS.alloc _
  have kw3 : Below w.heap.size w w3 := by rw [← h3]; exact kw.alloc (by omega) _
  have hZw : w.heap.size < Z := by omega
  rw [h3, hZ]
  clear h3 hZ bS kw cS lS z1
  have cS := bS3.cell 0
  refine (sstore_nil w3 a0).mono ?_
  rintro e w4 ⟨rfl, rfl⟩
  go_wp2_with fail
  refine (sturn_nil w3 _).mono ?_
  rintro e w4 ⟨rfl, rfl⟩
  go_wp2_with fail
  refine (scounts_nil w3).mono ?_
  rintro e w4 ⟨rfl, rfl⟩
  go_wp2_with fail
  refine (sload_nil w3).mono ?_
  rintro e w4 ⟨rfl, rfl⟩
  go_wp2_with fail
  refine (sswap_nil w3 _ _).mono ?_
  rintro e w4 ⟨rfl, rfl⟩
  go_wp2_with fail
  refine (sload w3 Z 0 0 0 _ _ bZ (by omega)).mono ?_
  rintro e w4 ⟨rfl, k4, bZ4⟩
  have bS4 := bS3.only k4 (by omega)
  have kw4 := below_only kw3 k4 (Nat.le_refl _) (by omega)
  have cS4 := bS4.cell 0
  clear cS
  go_wp2_with fail
  refine (sstore w4 Z _ 0 0 _ _ a0 bZ4).mono ?_
  rintro e w5 ⟨rfl, k5, bZ5⟩
  have bS5 := bS4.only k5 (by omega)
  have kw5 := below_only kw4 k5 (Nat.le_refl _) (by omega)
  have cS5 := bS5.cell 0
  clear cS4
  go_wp2_with fail
  have g0 : (a0.toList == a0.toList) = true := by simp
  by_cases h : a0 = a1
  · subst h
    refine wp_region_text ([4], [9]) [w.heap.size] (by kernel_rfl) (by kernel_rfl) (cellsB_cons bS5.cells cellsB_nil) (by simp [segs, isEff, isLoad, askOps, asks, eqOrNe, isNil]; rfl) ?_
    refine segs_go stay_drew (by simp [isLoad]) ?_
    go_wp2_with fail
    refine (sload _ Z _ 0 0 _ a0 bZ5.drew (by omega)).mono ?_
    rintro e w6 ⟨rfl, k6, bZ6⟩
    have bS6 := (bS5.drew).only k6 (by omega)
    have kw6 := below_only (kw5.drew) k6 (Nat.le_refl _) (by omega)
    have st6 : StayB [w.heap.size] w5 w6 := stay_drew.kept k6 (fun x hx => by simp only [List.mem_singleton] at hx; subst hx; exact ⟨bS5.lt, by omega⟩)
    have cS6 := bS6.cell 0
    clear cS5
    go_wp2_with fail
    refine segs_go st6 (by simp [isLoad]) ?_
    go_wp2_with fail
    refine segs_load st6 (fun _ => (by exact ⟨w.heap.size, 0, rfl, by simp⟩)) ?_
    go_wp2_with fail
    refine (sswap_yes w6 Z _ 0 0 _ a0 _ bZ6 (by omega) (by omega)).mono ?_
    rintro e w7 ⟨rfl, k7, bZ7⟩
    have bS7 := bS6.only k7 (by omega)
    have kw7 := below_only kw6 k7 (Nat.le_refl _) (by omega)
    have st7 : StayB [w.heap.size] w5 w7 := st6.kept k7 (fun x hx => by simp only [List.mem_singleton] at hx; subst hx; exact ⟨bS6.lt, by omega⟩)
    have cS7 := bS7.cell 0
    clear cS6
    go_wp2_with fail
    refine segs_go st7 (by simp [isLoad]) ?_
    go_wp2_with fail
    refine segs_load st7 (fun _ => (by exact ⟨w.heap.size, 0, rfl, by simp⟩)) ?_
    go_wp2_with fail
    refine segs_nil ?_
    go_wp2_with fail
    refine (pof w7 a2 a2).mono ?_
    rintro e w8 ⟨B, rfl, hB, k8, bB8⟩
    have hB' : w.heap.size ≤ B := by have := kw7.size; omega
    have kw8 := below_still kw7 k8 (Nat.le_refl _)
    go_wp2_with fail
    refine (pswap_yes w8 B 0 0 0 _ a2 a2 a2 0 bB8 (by omega) (by omega)).mono ?_
    rintro e w9 ⟨rfl, k9, bB9⟩
    have kw9 := below_only kw8 k9 (Nat.le_refl _) hB'
    have hq := run_pair_eq a2 0 a2 0
    have hg := guard_pair
    go_wp2_with fail
    refine (pload w9 B 0 _ _ _ a2 0 bB9 (by omega)).mono ?_
    rintro e w10 ⟨rfl, k10, bB10⟩
    have kw10 := below_only kw9 k10 (Nat.le_refl _) hB'
    go_wp2_with fail
    refine (pswap_no w10 B _ _ _ _ a2 0 a2 1 0 0 (by simp) bB10 (by omega)).mono ?_
    rintro e w11 ⟨rfl, k11⟩
    have kw11 := below_only kw10 k11 (Nat.le_refl _) hB'
    go_wp2
    go_ret
    exact ⟨rfl, kw11⟩
  · have g1 : (a0.toList == a1.toList) = false := by
      cases hh : (a0.toList == a1.toList) with
      | false => rfl
      | true =>
        exfalso
        apply h
        rw [ByteArray.toList_eq, ByteArray.toList_eq] at hh
        obtain ⟨⟨x⟩⟩ := a0
        obtain ⟨⟨y⟩⟩ := a1
        have e : x = y := by simpa using hh
        rw [e]
    clear h
    refine wp_region_text ([4], [9]) [w.heap.size] (by kernel_rfl) (by kernel_rfl) (cellsB_cons bS5.cells cellsB_nil) (by simp [segs, isEff, isLoad, askOps, asks, eqOrNe, isNil]; rfl) ?_
    refine segs_go stay_drew (by simp [isLoad]) ?_
    go_wp2_with fail
    refine (sload _ Z _ 0 0 _ a0 bZ5.drew (by omega)).mono ?_
    rintro e w6 ⟨rfl, k6, bZ6⟩
    have bS6 := (bS5.drew).only k6 (by omega)
    have kw6 := below_only (kw5.drew) k6 (Nat.le_refl _) (by omega)
    have st6 : StayB [w.heap.size] w5 w6 := stay_drew.kept k6 (fun x hx => by simp only [List.mem_singleton] at hx; subst hx; exact ⟨bS5.lt, by omega⟩)
    have cS6 := bS6.cell 0
    clear cS5
    go_wp2_with fail
    refine segs_go st6 (by simp [isLoad]) ?_
    go_wp2_with fail
    refine segs_load st6 (fun _ => (by exact ⟨w.heap.size, 0, rfl, by simp⟩)) ?_
    go_wp2_with fail
    refine (sswap_no w6 Z _ 0 0 _ a0 a1 _ g1 bZ6 (by omega)).mono ?_
    rintro e w7 ⟨rfl, k7, bZ7⟩
    have bS7 := bS6.only k7 (by omega)
    have kw7 := below_only kw6 k7 (Nat.le_refl _) (by omega)
    have st7 : StayB [w.heap.size] w5 w7 := st6.kept k7 (fun x hx => by simp only [List.mem_singleton] at hx; subst hx; exact ⟨bS6.lt, by omega⟩)
    have cS7 := bS7.cell 0
    clear cS6
    go_wp2_with fail
    refine segs_go st7 (by simp [isLoad]) ?_
    go_wp2_with fail
    refine segs_load st7 (fun _ => (by exact ⟨w.heap.size, 0, rfl, by simp⟩)) ?_
    go_wp2_with fail
    refine segs_nil ?_
    go_wp2_with fail
    refine (pof w7 a2 a2).mono ?_
    rintro e w8 ⟨B, rfl, hB, k8, bB8⟩
    have hB' : w.heap.size ≤ B := by have := kw7.size; omega
    have kw8 := below_still kw7 k8 (Nat.le_refl _)
    go_wp2_with fail
    refine (pswap_yes w8 B 0 0 0 _ a2 a2 a2 0 bB8 (by omega) (by omega)).mono ?_
    rintro e w9 ⟨rfl, k9, bB9⟩
    have kw9 := below_only kw8 k9 (Nat.le_refl _) hB'
    have hq := run_pair_eq a2 0 a2 0
    have hg := guard_pair
    go_wp2_with fail
    refine (pload w9 B 0 _ _ _ a2 0 bB9 (by omega)).mono ?_
    rintro e w10 ⟨rfl, k10, bB10⟩
    have kw10 := below_only kw9 k10 (Nat.le_refl _) hB'
    go_wp2_with fail
    refine (pswap_no w10 B _ _ _ _ a2 0 a2 1 0 0 (by simp) bB10 (by omega)).mono ?_
    rintro e w11 ⟨rfl, k11⟩
    have kw11 := below_only kw10 k11 (Nat.le_refl _) hB'
    go_wp2
    go_ret
    exact ⟨rfl, kw11⟩
end Go.Proofs.Ytojjelafkieflaa
