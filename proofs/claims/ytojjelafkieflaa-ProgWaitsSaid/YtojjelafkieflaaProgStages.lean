/-
  What stands here: the stages of ProgWaits make their steps. Under the condition that the numbers lie where they did.
-/
import Derived.Test.YtojjelafkieflaaProgRef
namespace Go.Proofs.Ytojjelafkieflaa
set_option linter.unusedVariables false
set_option linter.unusedSimpArgs false
open Go.RowKit Go.Proofs

theorem gotI_not {base G : Nat} {g : List Int} {M : Nat → Prop} {W : World} (h : GotI base G g M W) {b : Nat} (h1 : b ≠ G) (h2 : b < base) : ¬ M b := fun hm => by
  obtain ⟨v, _, ho, _, _, hM⟩ := h
  rcases (hM b).1 hm with h | h
  · exact h1 h
  · have := (owns_lt ho b h).1; omega
abbrev mayV (O : Nat) : Value := .func (.func 19) #[] #[.pointer (some ⟨O, 0, none⟩)]
abbrev stageV (X O G T : Nat) : Value := .func (.func 17) #[] #[.pointer (some ⟨X, 0, none⟩), .pointer (some ⟨O, 0, none⟩), .pointer (some ⟨G, 0, none⟩), .pointer (some ⟨T, 0, none⟩)]

theorem mayfn_any (O : Nat) (r : Bool) (t : TypeId) (w : World) (hb : Blk w O #[.bool r] t) :
    Calls Try.prog 19 #[.pointer (some ⟨O, 0, none⟩)] w fun e w' => e = .returned (.bool r) ∧ Still w w' := by
  have c0 := hb.cell 0
  go_enter Try.func19, Try.ntmps19
  go_wp2
  go_ret
  exact ⟨rfl, still_refl _⟩

theorem pathOf_at (zs : List Int) {i : Nat} (h : i < zs.length) : pathOf (zs.take i) (zs.drop i) = (zs.take i ++ [zs.getD i 0]) :: pathOf (zs.take (i + 1)) (zs.drop (i + 1)) := by
  have h2 := getD_of h
  rw [List.drop_eq_getElem_cons h, h2, List.getD_eq_getElem?_getD, List.getElem?_eq_getElem h]; rfl

/-- what is known wherever a stage is made -/
structure WaitsW (base X O G T B0 : Nat) (a : Option Addr) (cap : Nat) (zs : List Int) (w : World) : Prop where
  bX : Blk w X #[.slice a zs.length cap] 32
  bT : Blk w T #[stageV X O G T] 33
  row : IRow (· < B0) w (.slice a zs.length cap) zs
theorem WaitsW.agree {base X O G T B0 : Nat} {a : Option Addr} {cap : Nat} {zs : List Int} {w w' : World} (h : WaitsW base X O G T B0 a cap zs w) (k : Agree (fun b => b < B0 ∨ b = X ∨ b = T) w w') : WaitsW base X O G T B0 a cap zs w' :=
  ⟨h.bX.agree k (.inr (.inl rfl)), h.bT.agree k (.inr (.inr rfl)), h.row.agree k (fun b h => .inl h)⟩

def StageAt (base X O G T B0 : Nat) (a : Option Addr) (cap : Nat) (zs : List Int) (i : Nat) : Prop :=
  ∀ w, WaitsW base X O G T B0 a cap zs w → B0 ≤ w.heap.size → Calls Try.prog 17 #[.int .i64 i, .pointer (some ⟨X, 0, none⟩), .pointer (some ⟨O, 0, none⟩), .pointer (some ⟨G, 0, none⟩), .pointer (some ⟨T, 0, none⟩)] w fun e w' =>
    ∃ may d Fp', e = .returned (.agg #[may, d]) ∧ Still w w' ∧ (∀ b, Fp' b → (b < B0 ∨ b = X ∨ b = T) ∨ w.heap.size ≤ b) ∧ MayOk (· = mayV O) (pathOf (zs.take i) (zs.drop i)) may ∧ Does Try.prog (· = mayV O) (GotI base G) (zs.take i) (pathOf (zs.take i) (zs.drop i)) Fp' w' d

theorem got_put {base G : Nat} {g : List Int} {n : Int} {M : Nat → Prop} {w wA w2 : World} {v v' : Value} (bG : Blk w G #[v] 32) (ho : w.ownsRow base 3 1 v g.length (g.map (Value.int .i64))) (hGb : G < base) (hbz : base ≤ w.heap.size) (hM : ∀ b, M b ↔ b = G ∨ v.ownBlock = some b)
    (kA : Still w wA) (hap : Appended wA w2 base 3 1 v v' (g.length + 1) (g.map (Value.int .i64) ++ [.int .i64 n])) :
    ∃ M', GotI base G (g ++ [n]) M' (w2.setCell ⟨G, 0, none⟩ v') ∧ Kept M w (w2.setCell ⟨G, 0, none⟩ v') ∧ (∀ b, M' b → M b ∨ w.heap.size ≤ b) := by
  have hGv : ¬ v.ownBlock = some G := fun e => by have := (owns_lt ho _ e).1; omega
  have hS : Kept (fun k => v.ownBlock = some k) w w2 := Kept.grown (kA.mono (fun _ _ f => f.elim)) hap.grown (fun k e _ => e.symm ▸ rfl)
  have bG2 := bG.kept hS hGv
  have kG : Only G w2 (w2.setCell ⟨G, 0, none⟩ v') := (only_refl G w2).put 0 _
  have hzA := kA.size
  refine ⟨fun b => b = G ∨ v'.ownBlock = some b, ⟨_, bG2.set 0 _, ?_, hGb, ?_, fun b => Iff.rfl⟩, ?_, ?_⟩
  · have := owns_kept hap.owns kG (fun b hb _ e => by omega)
    rw [List.length_append, List.length_singleton, List.map_append]
    exact this
  · exact Nat.le_trans hbz (Nat.le_trans hS.size kG.size)
  · exact (hS.mono (fun b _ h => (hM b).2 (.inr h))).step kG (fun b _ e => (hM b).2 (.inl e))
  · rintro b (h | h)
    · exact .inl ((hM b).2 (.inl h))
    · rcases hap.block b h with h | h
      · exact .inl ((hM b).2 (.inr h))
      · exact .inr (by omega)

set_option maxHeartbeats 1000000 in
theorem step1_any (base X O G T B0 : Nat) (a : Option Addr) (cap : Nat) (zs : List Int) (hl : zs.length ≤ 1000) (i : Nat) (hi : i < zs.length) (ih : StageAt base X O G T B0 a cap zs (i + 1)) (I : Nat) (Fp M : Nat → Prop) (W : World) (hw : WaitsW base X O G T B0 a cap zs W) (hB : B0 ≤ W.heap.size)
    (hF : ∀ b, (b < B0 ∨ b = X ∨ b = T) → Fp b) (bI : Blk W I #[.int .i64 i] 3) (hI : Fp I) (hg : GotI base G (zs.take i) M W) (hM : ∀ b, Fp b → ¬ M b) (hFl : ∀ b, Fp b → b < W.heap.size) :
    Calls Try.prog 20 #[.pointer (some ⟨G, 0, none⟩), .pointer (some ⟨X, 0, none⟩), .pointer (some ⟨I, 0, none⟩), .pointer (some ⟨T, 0, none⟩)] W fun e W'' =>
        ∃ may d' M' Fp', e = .returned (.agg #[may, d']) ∧ GotI base G (zs.take (i + 1)) M' W'' ∧ Moved M M' Fp Fp' W W'' ∧ MayOk (· = mayV O) (pathOf (zs.take (i + 1)) (zs.drop (i + 1))) may ∧ Does Try.prog (· = mayV O) (GotI base G) (zs.take (i + 1)) (pathOf (zs.take (i + 1)) (zs.drop (i + 1))) Fp' W'' d' := by
  obtain ⟨v, bG, ho, hGb, hbz, hMi⟩ := hg
  have hgl : (zs.take i).length = i := by rw [List.length_take]; omega
  rw [hgl] at ho
  obtain ⟨i0, hi', hz0, hz1, hz2⟩ := info_parts infoInt
  have HI := Lib.hid hi
  obtain ⟨_, hml, hr⟩ := hw.row.cells
  obtain ⟨b, o, rfl, hb, hq, hc⟩ := hr (by omega)
  have ce := hc i hi
  obtain ⟨z, hz⟩ : ∃ z, z = zs.getD i 0 := ⟨_, rfl⟩
  rw [← hz] at ce
  obtain ⟨L, hL⟩ : ∃ L, L = zs.length := ⟨_, rfl⟩
  have hwX := hw.bX
  rw [← hL] at hl hwX hml
  have hiL : i < L := by omega
  have HW := Lib.hid hw
  have HG := Lib.hid hgl
  have HZ := Lib.hid hz
  have hML : ∀ b, M b → b < W.heap.size := gotI_lt _ _ _ ⟨v, bG, by rw [hgl]; exact ho, hGb, hbz, hMi⟩
  have hFX : ¬ M X := hM _ (hF _ (.inr (.inl rfl)))
  have hFI : ¬ M I := hM _ hI
  have hFT : ¬ M T := hM _ (hF _ (.inr (.inr rfl)))
  have hFb : ¬ M b := hM _ (hF _ (.inl hq))
  have hR : ¬ M W.heap.size := fun h => by have := hML _ h; omega
  have bGa := bG.alloc (.cells #[.nilFunc, .nilFunc] 36)
  have bXa := hwX.alloc (.cells #[.nilFunc, .nilFunc] 36)
  have bIa := bI.alloc (.cells #[.nilFunc, .nilFunc] 36)
  have cG := bGa.cell 0
  have cX := bXa.cell 0
  have cI := bIa.cell 0
  have cE : (W.alloc (.cells #[.nilFunc, .nilFunc] 36)).cell? ⟨b, o + i, none⟩ = some (.int .i64 z) := (World.cell?_of_block (a := ⟨b, o + i, none⟩) (((still_refl W).alloc _).block b hb (fun f => f))).trans ce
  have bb := cells_of_cell cE
  clear hi hc hr hw hwX hgl hz hL ce
  have hi := hi'
  clear hi'
  unfold maxLen at hml
  go_enter Try.func20, Try.ntmps20
  go_wp2_with fail
  refine wp_region_end ([4], [9]) [G, X, I, b] rfl (by kernel_rfl) (by kernel_rfl) (by kernel_rfl) (cellsB_cons bGa.cells (cellsB_cons bXa.cells (cellsB_cons bIa.cells (cellsB_cons bb cellsB_nil)))) (by simp [segs, isEff, isLoad, askOps, asks, eqOrNe, isNil]; rfl) ?_
  refine segs_go stay_drew (by simp [isLoad]) ?_
  go_wp2_with fail
  refine segs_load stay_drew (fun _ => (by exact ⟨G, _, rfl, by simp⟩)) ?_
  go_wp2_with fail
  refine segs_load stay_drew (fun _ => (by exact ⟨X, _, rfl, by simp⟩)) ?_
  go_wp2_with fail
  refine segs_load stay_drew (fun _ => (by exact ⟨I, _, rfl, by simp⟩)) ?_
  go_wp2_with fail
  refine segs_load stay_drew (fun _ => (by exact ⟨b, _, rfl, by simp⟩)) ?_
  go_wp2_with fail
  have hsb : ∀ x ∈ [G, X, I, b], x < W.heap.size := fun x hx => by
    simp only [List.mem_cons, List.not_mem_nil, or_false] at hx
    rcases hx with rfl | rfl | rfl | rfl
    · exact bG.lt
    · exact HW.out.bX.lt
    · exact bI.lt
    · exact hb
  have hsa : StayB [G, X, I, b] (W.alloc (.cells #[.nilFunc, .nilFunc] 36)) ((W.alloc (.cells #[.nilFunc, .nilFunc] 36)).alloc (.cells #[.int .i64 z] 3)).drew :=
    StayB.kept stay_drew ((Kept.refl (fun _ => False) (W.alloc (.cells #[.nilFunc, .nilFunc] 36)).drew).alloc _) (fun x hx => ⟨by have := hsb x hx; simp; omega, fun f => f⟩)
  refine segs_go hsa (by simp [isLoad]) ?_
  have kA : Still W ((W.alloc (.cells #[.nilFunc, .nilFunc] 36)).alloc (.cells #[.int .i64 z] 3)).drew := (((still_refl W).alloc _).alloc _).drew
  have hoa := owns_kept ho kA (fun _ _ _ f => f)
  have hbz' : base ≤ ((W.alloc (.cells #[.nilFunc, .nilFunc] 36)).alloc (.cells #[.int .i64 z] 3)).drew.heap.size := by simp; omega
  go_wp2_with (first | (at_builtin; refine wpList_append _ rfl _ _ 32 rfl base 3 i0 (.int .i64 0) 1 8 Try.underlying32 hi hz0 hz1 hz2 rfl (by decide) _ _ _ rfl (hoa) ⟨W.heap.size + 1, 0, none⟩ 1 1 [.int .i64 z] rfl rfl (by intro j u hj; match j, hj with | 0, hj => simp at hj; subst hj; simp [Addr.add]) (by intro u hu; simp at hu; subst hu; rfl) (by unfold maxLen; omega) (by omega) (by simp; omega) ?_) | fail)
  intro v' w2 hap
  have hGv : ¬ v.ownBlock = some G := fun e => by have := (owns_lt ho _ e).1; omega
  have hS : Kept (fun k => v.ownBlock = some k) W w2 := Kept.grown (kA.mono (fun _ _ f => f.elim)) hap.grown (fun k e _ => e.symm ▸ rfl)
  have hSM : Kept M W w2 := hS.mono (fun b _ h => (hMi b).2 (.inr h))
  have hz2' := hS.size
  have hz3 : W.heap.size + 1 ≤ w2.heap.size := by have := hap.grown.size; simp at this; omega
  have hst2 : StayB [G, X, I, b] (W.alloc (.cells #[.nilFunc, .nilFunc] 36)) w2 := fun x hx => by
    have hlt := hsb x hx
    have h1 : ¬ v.ownBlock = some x := by
      simp only [List.mem_cons, List.not_mem_nil, or_false] at hx
      rcases hx with rfl | rfl | rfl | rfl
      · exact hGv
      · exact fun e => hFX ((hMi _).2 (.inr e))
      · exact fun e => hFI ((hMi _).2 (.inr e))
      · exact fun e => hFb ((hMi _).2 (.inr e))
    exact (hS.block x hlt h1).trans (((still_refl W).alloc (.cells #[.nilFunc, .nilFunc] 36)).block x hlt (fun f => f)).symm
  have bG2 := bG.kept hS hGv
  have cG2 := bG2.cell 0
  have fG2 := bG2.free 0
  have bR2 := (((Blk.new W #[.nilFunc, .nilFunc] 36).alloc (.cells #[.int .i64 z] 3)).drew).kept (Kept.grown (S := fun k => v.ownBlock = some k) (Kept.refl _ _) hap.grown (fun k e _ => e.symm ▸ rfl)) (fun e => hR ((hMi _).2 (.inr e)))
  obtain ⟨av, cv, rfl⟩ := owns_slice hap.owns
  have hgp := got_put (n := z) (g := zs.take i) bGa (by rw [HG.out]; exact ho.alloc _) hGb (by simp; omega) hMi (((still_refl (W.alloc (.cells #[.nilFunc, .nilFunc] 36))).alloc _).drew) (by rw [HG.out, List.map_take]; exact hap)
  obtain ⟨M1, hg1, k1, hm1⟩ := hgp
  have HG1 := Lib.hid hg1
  have HK1 := Lib.hid k1
  have HM1 := Lib.hid hm1
  have kW : Kept M W (w2.setCell ⟨G, 0, none⟩ (.slice av (i + 1) cv)) := hSM.step ((only_refl G w2).put 0 _) (fun b _ e => (hMi b).2 (.inl e))
  have hag3 : Agree (fun b => b < B0 ∨ b = X ∨ b = T) W (w2.setCell ⟨G, 0, none⟩ (.slice av (i + 1) cv)) := Agree.of_kept kW (fun b h => hM b (hF b h)) (fun b h => hFl b (hF b h))
  have hW3 := HW.out.agree hag3
  have HW3 := Lib.hid hW3
  have cT := hW3.bT.cell 0
  have bI3 := bI.kept kW hFI
  have cI3 := bI3.cell 0
  have hGR : G ≠ W.heap.size := by have := bG.lt; omega
  have bR3 := bR2.other (a := ⟨G, 0, none⟩) (Ne.symm hGR) (.slice av (i + 1) cv)
  have hB3 : B0 ≤ (w2.setCell ⟨G, 0, none⟩ (.slice av (i + 1) cv)).heap.size := Nat.le_trans hB kW.size
  clear hg1 k1 hm1 cG cX cI cE hoa hap hW3
  go_wp2_with fail
  refine segs_go hst2 (by simp [isLoad]) ?_
  go_wp2_with fail
  refine segs_nil ?_
  go_wp2_with fail
  refine (ih _ HW3.out hB3).mono ?_
  rintro e w4 ⟨may, d, Fp3, rfl, k4, hF3, hq, hD⟩
  have bR4 := bR3.still k4
  have f0 := bR4.free 0
  have f1 := bR4.free 1
  have c5 := bR4.cell 0
  have c6 := bR4.cell 1
  have hzk := k4.size
  have hsp : zs.take (i + 1) = zs.take i ++ [z] := by rw [HZ.out]; exact getD_of HI.out
  have hG1' := HG1.out
  rw [← hsp] at hG1'
  have mv : Moved M M1 Fp Fp (W.alloc (.cells #[.nilFunc, .nilFunc] 36)) (w2.setCell ⟨G, 0, none⟩ (.slice av (i + 1) cv)) := ⟨HK1.out, HM1.out, fun b h => .inl h, fun b hb hm => by
    rcases HM1.out b hm with h | h
    · exact hM b hb h
    · have := hFl b hb; simp at h; omega⟩
  have HE := Lib.hid (does_end Try.prog (· = mayV O) _ (x := may) (y := d) gotI_lt gotI_keep hML (fun b h => h) hFl ((still_refl W).alloc _) (by simp) hG1' mv k4 (fun b h => by rcases hF3 b h with h | h; exact .inl (hF b h); exact .inr h) hD)
  have HQ := Lib.hid hq
  have hmc := hq.1
  have hDC := does_cases _ _ _ hD
  clear hD hq hF3 hsp cT cI3 mv hG1'
  rcases hDC with rfl | ⟨F', caps', rfl⟩
  all_goals rcases hmc with rfl | ⟨G2, gcaps2, rfl⟩
  · go_wp2_with fail
    have d0 := ((bR4.set 0 .nilFunc).set 1 .nilFunc).cell 0
    have d1 := ((bR4.set 0 .nilFunc).set 1 .nilFunc).cell 1
    exact bodyPost_ret (v := .agg #[.nilFunc, .nilFunc]) (by simp [results, Try.f20, go_sem, d0, d1]) rfl ⟨_, _, M1, Fp3, rfl, HE.out.1, HE.out.2.1, HQ.out, HE.out.2.2⟩
  · go_wp2_with fail
    have d0 := ((bR4.set 0 (.func (.func G2) #[] gcaps2)).set 1 .nilFunc).cell 0
    have d1 := ((bR4.set 0 (.func (.func G2) #[] gcaps2)).set 1 .nilFunc).cell 1
    exact bodyPost_ret (v := .agg #[(.func (.func G2) #[] gcaps2), .nilFunc]) (by simp [results, Try.f20, go_sem, d0, d1]) rfl ⟨_, _, M1, Fp3, rfl, HE.out.1, HE.out.2.1, HQ.out, HE.out.2.2⟩
  · go_wp2_with fail
    have d0 := ((bR4.set 0 .nilFunc).set 1 (.func (.func F') #[] caps')).cell 0
    have d1 := ((bR4.set 0 .nilFunc).set 1 (.func (.func F') #[] caps')).cell 1
    exact bodyPost_ret (v := .agg #[.nilFunc, (.func (.func F') #[] caps')]) (by simp [results, Try.f20, go_sem, d0, d1]) rfl ⟨_, _, M1, Fp3, rfl, HE.out.1, HE.out.2.1, HQ.out, HE.out.2.2⟩
  · go_wp2_with fail
    have d0 := ((bR4.set 0 (.func (.func G2) #[] gcaps2)).set 1 (.func (.func F') #[] caps')).cell 0
    have d1 := ((bR4.set 0 (.func (.func G2) #[] gcaps2)).set 1 (.func (.func F') #[] caps')).cell 1
    exact bodyPost_ret (v := .agg #[(.func (.func G2) #[] gcaps2), (.func (.func F') #[] caps')]) (by simp [results, Try.f20, go_sem, d0, d1]) rfl ⟨_, _, M1, Fp3, rfl, HE.out.1, HE.out.2.1, HQ.out, HE.out.2.2⟩

set_option maxHeartbeats 1000000 in
theorem stage_any (base X O G T B0 : Nat) (a : Option Addr) (cap : Nat) (zs : List Int) (hl : zs.length ≤ 1000) (n : Nat) : ∀ i, zs.length - i = n → StageAt base X O G T B0 a cap zs i := by
  induction n with
  | zero =>
    intro i hi w hw hB
    have bX := hw.bX
    obtain ⟨L, hL⟩ : ∃ L, L = zs.length := ⟨_, rfl⟩
    rw [← hL] at hl hi bX
    have HL := Lib.hid hL
    clear hL
    have hiL : L ≤ i := by omega
    have hW := Lib.hid hw
    have cX := (((bX.alloc (.cells #[.int .i64 i] 3)).alloc (.cells #[.nilFunc, .nilFunc] 36))).cell 0
    clear hw
    go_enter Try.func17, Try.ntmps17
    go_wp2_with fail
    have hd : zs.drop i = [] := List.drop_eq_nil_of_le (by rw [← HL.out]; exact hiL)
    rw [hd]
    exact bodyPost_ret (v := .agg #[.nilFunc, .nilFunc]) (by simp [results, Try.f17, go_sem]) rfl ⟨_, _, fun _ => False, rfl, ((still_refl w).alloc _).alloc _, fun b f => f.elim, ⟨.inl rfl, fun h => absurd rfl h⟩, rfl⟩
  | succ n ih =>
    intro i hi w hw hB
    have hiL : i < zs.length := by omega
    have HI := Lib.hid (ih (i + 1) (by omega))
    have bX := hw.bX
    obtain ⟨L, hL⟩ : ∃ L, L = zs.length := ⟨_, rfl⟩
    have HLL := Lib.hid hiL
    have HL1 := Lib.hid hl
    rw [← hL] at hl hiL bX hi
    have HL := Lib.hid hL
    have HW := Lib.hid hw
    have cX := (((bX.alloc (.cells #[.int .i64 i] 3)).alloc (.cells #[.nilFunc, .nilFunc] 36))).cell 0
    have bI := (Blk.new w #[.int .i64 i] 3)
    clear hw hL ih hi
    go_enter Try.func17, Try.ntmps17
    go_wp2_with fail
    refine (until_any _ _ (.inr ⟨_, _, rfl⟩) (.inr ⟨_, _, rfl⟩) _).mono ?_
    rintro e w3 ⟨rfl, k3⟩
    have kA : Still w w3 := (((still_refl w).alloc _).alloc _).trans k3
    have bR := (Blk.newAt (w.alloc (.cells #[.int .i64 i] 3)) #[.nilFunc, .nilFunc] 36 (n := w.heap.size + 1) (by simp)).still k3
    have bI3 := (bI.alloc (.cells #[.nilFunc, .nilFunc] 36)).still k3
    have f0 := bR.free 0
    have f1 := bR.free 1
    have c0 := bR.cell 0
    have c1 := bR.cell 1
    clear cX
    go_wp2_with fail
    have d0 := ((bR.set 0 (.func (.func 19) #[] #[.pointer (some ⟨O, 0, none⟩)])).set 1 (.func (.func 20) #[] #[.pointer (some ⟨G, 0, none⟩), .pointer (some ⟨X, 0, none⟩), .pointer (some ⟨w.heap.size, 0, none⟩), .pointer (some ⟨T, 0, none⟩)])).cell 0
    have d1 := ((bR.set 0 (.func (.func 19) #[] #[.pointer (some ⟨O, 0, none⟩)])).set 1 (.func (.func 20) #[] #[.pointer (some ⟨G, 0, none⟩), .pointer (some ⟨X, 0, none⟩), .pointer (some ⟨w.heap.size, 0, none⟩), .pointer (some ⟨T, 0, none⟩)])).cell 1
    have kw := ((only_refl (w.heap.size + 1) w3).put 0 (.func (.func 19) #[] #[.pointer (some ⟨O, 0, none⟩)])).put 1 (.func (.func 20) #[] #[.pointer (some ⟨G, 0, none⟩), .pointer (some ⟨X, 0, none⟩), .pointer (some ⟨w.heap.size, 0, none⟩), .pointer (some ⟨T, 0, none⟩)])
    have kS : Still w ((w3.setCell ⟨w.heap.size + 1, 0, none⟩ (.func (.func 19) #[] #[.pointer (some ⟨O, 0, none⟩)])).setCell ⟨w.heap.size + 1, 1, none⟩ (.func (.func 20) #[] #[.pointer (some ⟨G, 0, none⟩), .pointer (some ⟨X, 0, none⟩), .pointer (some ⟨w.heap.size, 0, none⟩), .pointer (some ⟨T, 0, none⟩)])) := kA.step kw (fun b hb e => by omega)
    have bI4 := bI3.only kw (by omega)
    have hz4 := kS.size
    have hz5 := bI4.lt
    refine bodyPost_ret (v := .agg #[(.func (.func 19) #[] #[.pointer (some ⟨O, 0, none⟩)]), (.func (.func 20) #[] #[.pointer (some ⟨G, 0, none⟩), .pointer (some ⟨X, 0, none⟩), .pointer (some ⟨w.heap.size, 0, none⟩), .pointer (some ⟨T, 0, none⟩)])]) (by simp [results, Try.f17, go_sem, d0, d1]) rfl ⟨_, _, fun b => (b < B0 ∨ b = X ∨ b = T) ∨ b = w.heap.size, rfl, kS, fun b h => by rcases h with h | h; exact .inl h; exact .inr (by omega), ⟨.inr ⟨_, _, rfl⟩, fun _ => rfl⟩, ?_⟩
    rw [pathOf_at zs HLL.out]
    refine ⟨fun b h => ?_, _, _, rfl, ⟨_, Try.func20, by kernel_rfl, by kernel_rfl⟩, fun W M hag hi hd => ?_⟩
    · rcases h with (h | h | h) | h
      · omega
      · subst h; exact Nat.lt_of_lt_of_le HW.out.bX.lt hz4
      · subst h; exact Nat.lt_of_lt_of_le HW.out.bT.lt hz4
      · subst h; exact hz5
    · have hag0 : Agree (fun b => b < B0 ∨ b = X ∨ b = T) w W := (Agree.of_kept kS (fun _ _ f => f) (fun b h => by
        rcases h with h | h | h
        · omega
        · subst h; exact HW.out.bX.lt
        · subst h; exact HW.out.bT.lt)).trans (hag.less fun b h => .inl h)
      have hsz := hag.size
      have hgd := getD_of HLL.out
      refine (step1_any base X O G T B0 a cap zs HL1.out i HLL.out HI.out w.heap.size (fun b => (b < B0 ∨ b = X ∨ b = T) ∨ b = w.heap.size) M W (HW.out.agree hag0) (by omega) (fun b h => .inl h) (bI4.agree hag (.inr rfl)) (.inr rfl) hi hd (fun b h => ?_)).mono ?_
      · rcases h with (h | h | h) | h
        · omega
        · subst h; exact Nat.lt_of_lt_of_le HW.out.bX.lt hag0.size
        · subst h; exact Nat.lt_of_lt_of_le HW.out.bT.lt hag0.size
        · subst h; omega
      · rintro e W'' ⟨may, d', M', Fp', rfl, h1, h2, h3, h4⟩
        rw [← hgd]
        exact ⟨may, d', M', Fp', rfl, h1, h2, h3, h4⟩

theorem going_ask {O : Nat} {I : List Int → (Nat → Prop) → World → Prop} {p : Nat} {n : Int} {s s' : List Int} {l : List (List Int)} {M Fp : Nat → Prop} {w : World} {r : Bool} {t : TypeId} (h : Going (· = mayV O) I p n s (s' :: l) M Fp w) (hb : Blk w O #[.bool r] t) :
    Calls Try.prog 22 #[.pointer (some ⟨p, 0, none⟩)] w fun e w' => e = .returned (.bool r) ∧ Still w w' := by
  obtain ⟨⟨may, d, hp, hq, hD⟩, _⟩ := h
  obtain ⟨_, F, caps, rfl, _⟩ := hD
  obtain rfl := hq.2 (by simp)
  exact may_ask p _ _ F caps n _ w hp ⟨_, Try.func19, by kernel_rfl, by kernel_rfl⟩ r (mayfn_any O r t w hb)
theorem going_end_may {Q : Value → Prop} {I : List Int → (Nat → Prop) → World → Prop} {p : Nat} {n : Int} {s : List Int} {M Fp : Nat → Prop} {w : World} (h : Going Q I p n s [] M Fp w) :
    Calls Try.prog 22 #[.pointer (some ⟨p, 0, none⟩)] w fun e w' => e = .returned (.bool false) ∧ Still w w' := by
  obtain ⟨⟨may, d, hp, hq, hD⟩, _⟩ := h
  obtain rfl : d = .nilFunc := hD
  exact (may_done p may n _ w hp).mono fun e w' ⟨he, hw⟩ => ⟨he, hw ▸ still_refl w⟩
theorem len_path' : ∀ (zs g : List Int), (pathOf g zs).length = zs.length
  | [], _ => rfl
  | z :: zs, g => by simp [pathOf, len_path' zs]
theorem path_empty (zs : List Int) (m : Nat) : (pathOf (zs.take m) (zs.drop m)).isEmpty = decide (zs.length ≤ m) := by
  rw [Bool.eq_iff_iff, List.isEmpty_iff, decide_eq_true_eq, ← List.length_eq_zero_iff, len_path', List.length_drop]; omega

end Go.Proofs.Ytojjelafkieflaa
