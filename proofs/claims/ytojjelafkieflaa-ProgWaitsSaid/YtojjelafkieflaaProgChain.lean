/-
  What stands here: rows one behind the other make their steps. Under the condition that there are not too many numbers.
-/
import Derived.Test.YtojjelafkieflaaProgFns
namespace Go.Proofs.Ytojjelafkieflaa
set_option linter.unusedVariables false
set_option linter.unusedSimpArgs false
open Go.RowKit Go.Proofs

/-- a slice of slices of numbers -/
def Parts (Q : Nat → Prop) (w : World) (v : Value) (pv : List Value) (P : List (List Int)) : Prop := VRow Q w v pv ∧ RelL (fun x zs => IRow Q w x zs) pv P
theorem Parts.keep {Q S : Nat → Prop} {w w' : World} {v : Value} {pv : List Value} {P : List (List Int)} (h : Parts Q w v pv P) (k : Kept S w w') (hn : ∀ b, Q b → ¬ S b) : Parts Q w' v pv P :=
  ⟨h.1.keep k (fun b hb _ => hn b hb), relL_mono (fun x zs hx => VRow.keep hx k (fun b hb _ => hn b hb)) h.2⟩
theorem Parts.agree {Q Fp : Nat → Prop} {w w' : World} {v : Value} {pv : List Value} {P : List (List Int)} (h : Parts Q w v pv P) (k : Agree Fp w w') (hQ : ∀ b, Q b → Fp b) : Parts Q w' v pv P :=
  ⟨h.1.agree k hQ, relL_mono (fun x zs hx => VRow.agree hx k hQ) h.2⟩

theorem pathOf_then (rest : List Int) : ∀ (zs g : List Int), thenP (pathOf g zs) (g ++ zs) (pathOf (g ++ zs) rest) = pathOf g (zs ++ rest) ∧ thenS g (pathOf g zs) (g ++ zs) = g ∧ lastS g (pathOf g zs) = g ++ zs
  | [], g => by simp [pathOf, thenP, thenS, lastS]
  | z :: zs, g => by
    obtain ⟨h1, h2, h3⟩ := pathOf_then rest zs (g ++ [z])
    rw [List.append_assoc, List.singleton_append] at h1 h2 h3
    refine ⟨?_, rfl, ?_⟩
    · show thenS (g ++ [z]) (pathOf (g ++ [z]) zs) (g ++ z :: zs) :: thenP (pathOf (g ++ [z]) zs) (g ++ z :: zs) _ = _
      rw [h1, h2]; rfl
    · exact h3
theorem pos_append (a b : List Int) : pos (a ++ b) = pos a ++ pos b := by simp [pos]

theorem chain_end {base G B0 X : Nat} {g : List Int} {l : List (List Int)} {M M' F1 Fp' : Nat → Prop} {w A w3 : World} {d : Value} (hM : ∀ b, M b → b < w.heap.size) (kA : Still w A) (hX : w.heap.size ≤ X) (hX2 : X < A.heap.size) (hi : GotI base G g M' w3)
    (mv : Moved M M' F1 Fp' A w3) (hF : ∀ b, F1 b → (b < B0 ∨ w.heap.size ≤ b) ∧ b ≠ X) (hD : Does Try.prog (· = .nilFunc) (GotI base G) g l Fp' w3 d) (x y : Value) :
    GotI base G g M' ((w3.setCell ⟨X, 0, none⟩ x).setCell ⟨X, 1, none⟩ y) ∧ Moved M M' (· < B0) Fp' w ((w3.setCell ⟨X, 0, none⟩ x).setCell ⟨X, 1, none⟩ y) ∧ Does Try.prog (· = .nilFunc) (GotI base G) g l Fp' ((w3.setCell ⟨X, 0, none⟩ x).setCell ⟨X, 1, none⟩ y) d := by
  have kw : Only X w3 ((w3.setCell ⟨X, 0, none⟩ x).setCell ⟨X, 1, none⟩ y) := ((only_refl X w3).put 0 x).put 1 y
  have hsz := kA.size
  have hsz3 := mv.kept.size
  have hXM : ¬ M' X := fun h => by (rcases mv.may_ _ h with h | h; have := hM _ h; omega; omega)
  have hF' : ∀ b, Fp' b → (b < B0 ∨ w.heap.size ≤ b) ∧ b ≠ X := fun b h => by
    rcases mv.fp b h with h | h
    · exact hF b h
    · exact ⟨by omega, by omega⟩
  refine ⟨gotI_keep _ _ _ _ hi (kw.mono (fun b _ e => by subst e; exact hXM)), ⟨(kA.then mv.kept).step kw (fun b hb e => by omega), fun b hb => ?_, fun b hb => (hF' b hb).1, mv.apart⟩, does_store X hD (fun b h => (hF' b h).2) x y⟩
  rcases mv.may_ b hb with h | h
  · exact .inl h
  · exact .inr (by omega)

theorem gotI_ge {base G B0 : Nat} {g : List Int} {M : Nat → Prop} {W : World} (h : GotI base G g M W) (hG : B0 ≤ G) : ∀ b, M b → B0 ≤ b := fun b hb => by
  obtain ⟨v, _, ho, h1, _, hM⟩ := h
  rcases (hM b).1 hb with rfl | h
  · exact hG
  · have := (owns_lt ho b h).1; omega

def ChainC (base G B0 : Nat) (P : List (List Int)) : Prop :=
  ∀ (pv : List Value) (a : Option Addr) (len cap : Nat) (g : List Int) (M : Nat → Prop) (w : World), Parts (· < B0) w (.slice a len cap) pv P → GotI base G g M w → (∀ b, M b → B0 ≤ b) → B0 ≤ w.heap.size → g.length + P.flatten.length < 100000000 →
    Calls Try.prog 33 #[.pointer (some ⟨G, 0, none⟩), .slice a len cap] w fun e w' => ∃ may d M' Fp', e = .returned (.agg #[may, d]) ∧ GotI base G g M' w' ∧ Moved M M' (· < B0) Fp' w w' ∧
      MayOk (· = .nilFunc) (pathOf g (pos P.flatten)) may ∧ Does Try.prog (· = .nilFunc) (GotI base G) g (pathOf g (pos P.flatten)) Fp' w' d

set_option maxHeartbeats 2000000 in
theorem chain1_any (base G B0 : Nat) (P : List (List Int)) (p0 : List Int) (ih : ChainC base G B0 P) (pv : List Value) (x0 : Value) (a : Option Addr) (len cap : Nat) (g : List Int) (M Fr : Nat → Prop) (X0 X1 : Nat) (W : World) (hp : Parts (· < B0) W (.slice a len cap) (x0 :: pv) (p0 :: P)) (hi : GotI base G g M W)
    (hM : ∀ b, M b → B0 ≤ b) (hB : B0 ≤ W.heap.size) (hl : g.length + P.flatten.length < 100000000) (b0 : Blk W X0 #[.pointer (some ⟨G, 0, none⟩)] 52) (b1 : Blk W X1 #[.slice a len cap] 48) (hFr : ∀ b, b < B0 → Fr b) (hX0 : ¬ M X0) (hX1 : ¬ M X1) :
    Calls Try.prog 52 #[.pointer (some ⟨X0, 0, none⟩), .pointer (some ⟨X1, 0, none⟩)] W fun e w' => ∃ may d M' Fp', e = .returned (.agg #[may, d]) ∧ GotI base G g M' w' ∧ Moved M M' Fr Fp' W w' ∧
      MayOk (· = .nilFunc) (pathOf g (pos P.flatten)) may ∧ Does Try.prog (· = .nilFunc) (GotI base G) g (pathOf g (pos P.flatten)) Fp' w' d := by
  obtain ⟨hlen, hle, hm, h0⟩ := hp.1.at_
  simp only [List.length_cons] at hlen h0
  obtain ⟨b, o, rfl, hb, hq, hc⟩ := h0 (by omega)
  have hlen1 : 1 ≤ len := by omega
  simp only [List.length_cons] at hle
  have hle' : len ≤ cap := by omega
  unfold maxLen at hm
  have HP := Lib.hid hp
  clear h0 hc hlen hle hp
  have B0' := b0.alloc (.cells #[.nilFunc, .nilFunc] 36)
  have B1' := b1.alloc (.cells #[.nilFunc, .nilFunc] 36)
  have c0 := B0'.cell 0
  have c1 := B1'.cell 0
  have hML : ∀ b, M b → b < W.heap.size := gotI_lt _ _ _ hi
  have hsa : Still W (W.alloc (.cells #[.nilFunc, .nilFunc] 36)).drew := ((still_refl W).alloc _).drew
  have hi2 : GotI base G g M (W.alloc (.cells #[.nilFunc, .nilFunc] 36)).drew := gotI_keep _ _ _ _ hi (((Kept.refl _ W).alloc _).drew)
  have hP2 : Parts (· < B0) (W.alloc (.cells #[.nilFunc, .nilFunc] 36)).drew (.slice (some ⟨b, o, none⟩) len cap) (x0 :: pv) (p0 :: P) := HP.out.keep hsa (fun _ _ f => f)
  have HP2 := Lib.hid hP2
  have HI2 := Lib.hid hi2
  clear hP2 hi2
  by_cases hcap : cap = 1
  · subst hcap
    obtain rfl : len = 1 := by omega
    have hp3 : Parts (· < B0) (W.alloc (.cells #[.nilFunc, .nilFunc] 36)).drew (.slice (some ⟨b, o, none⟩) 0 0) pv P := ⟨HP2.out.1.drop_all, HP2.out.2.2⟩
    have HP3 := Lib.hid hp3
    clear hp3
    go_enter Try.func52, Try.ntmps52
    go_wp2_with fail
    refine wp_region_text ([4], [9]) [X0, X1] (by kernel_rfl) (by kernel_rfl) (cellsB_cons B0'.cells (cellsB_cons B1'.cells cellsB_nil)) (by simp [segs, isEff, isLoad, askOps, asks, eqOrNe, isNil]; rfl) ?_
    refine segs_go stay_drew (by simp [isLoad]) ?_
    go_wp2_with fail
    refine segs_load stay_drew (fun _ => (by exact ⟨X0, _, rfl, by simp⟩)) ?_
    go_wp2_with fail
    refine segs_load stay_drew (fun _ => (by exact ⟨X1, _, rfl, by simp⟩)) ?_
    go_wp2_with fail
    refine segs_go stay_drew (by simp [isLoad]) ?_
    go_wp2_with fail
    refine (ih pv _ _ _ g M _ HP3.out HI2.out hM (by simp; omega) hl).mono ?_
    rintro e w3 ⟨may, d, M', Fp', rfl, hi3, mv, hq, hD⟩
    have hXM : ¬ M W.heap.size := fun h => by have := hML _ h; omega
    have BR := (Blk.new W #[.nilFunc, .nilFunc] 36).drew.kept mv.kept hXM
    have hst3 : StayB [X0, X1] (W.alloc (.cells #[.nilFunc, .nilFunc] 36)) w3 := fun b hb => by
      simp only [List.mem_cons, List.not_mem_nil, or_false] at hb
      rcases hb with rfl | rfl
      · exact (B0'.drew.kept mv.kept hX0).trans B0'.symm
      · exact (B1'.drew.kept mv.kept hX1).trans B1'.symm
    have hz0 := b0.lt
    have hz1 := b1.lt
    have hsz3 := mv.kept.size
    have hzz : W.heap.size + 1 ≤ w3.heap.size := by simpa using hsz3
    have hst4 := fun (x y : Value) => StayB.kept hst3 (((only_refl W.heap.size w3).put 0 x).put 1 y) (fun b hb => by
      simp only [List.mem_cons, List.not_mem_nil, or_false] at hb
      rcases hb with rfl | rfl
      · exact ⟨by omega, by omega⟩
      · exact ⟨by omega, by omega⟩)
    have f0 := BR.free 0
    have f1 := BR.free 1
    have c2 := BR.cell 0
    have c3 := BR.cell 1
    have HE := Lib.hid (chain_end (X := W.heap.size) hML hsa (Nat.le_refl _) (by simp) hi3 mv (fun b h => ⟨.inl h, by omega⟩) hD may d)
    have HQ := Lib.hid hq
    have hmc := hq.1
    have hDC := does_cases _ _ _ hD
    clear hD hq c0 c1
    rcases hDC with rfl | ⟨F', caps', rfl⟩
    all_goals rcases hmc with rfl | ⟨G2, gcaps2, rfl⟩
    · go_wp2_with fail
      refine segs_go hst3 (by simp [isLoad]) ?_
      go_wp2_with fail
      refine segs_go (hst4 _ _) (by simp [isLoad]) ?_
      go_wp2_with fail
      refine segs_nil ?_
      go_wp2_with fail
      have d0 := ((BR.set 0 .nilFunc).set 1 .nilFunc).cell 0
      have d1 := ((BR.set 0 .nilFunc).set 1 .nilFunc).cell 1
      exact bodyPost_ret (v := .agg #[.nilFunc, .nilFunc]) (by simp [results, Try.f52, go_sem, d0, d1]) rfl ⟨_, _, M', Fp', rfl, HE.out.1, ⟨HE.out.2.1.kept, HE.out.2.1.may_, fun b h => (HE.out.2.1.fp b h).imp (hFr b) id, HE.out.2.1.apart⟩, HQ.out, HE.out.2.2⟩
    · go_wp2_with fail
      refine segs_go hst3 (by simp [isLoad]) ?_
      go_wp2_with fail
      refine segs_go (hst4 _ _) (by simp [isLoad]) ?_
      go_wp2_with fail
      refine segs_nil ?_
      go_wp2_with fail
      have d0 := ((BR.set 0 (.func (.func G2) #[] gcaps2)).set 1 .nilFunc).cell 0
      have d1 := ((BR.set 0 (.func (.func G2) #[] gcaps2)).set 1 .nilFunc).cell 1
      exact bodyPost_ret (v := .agg #[(.func (.func G2) #[] gcaps2), .nilFunc]) (by simp [results, Try.f52, go_sem, d0, d1]) rfl ⟨_, _, M', Fp', rfl, HE.out.1, ⟨HE.out.2.1.kept, HE.out.2.1.may_, fun b h => (HE.out.2.1.fp b h).imp (hFr b) id, HE.out.2.1.apart⟩, HQ.out, HE.out.2.2⟩
    · go_wp2_with fail
      refine segs_go hst3 (by simp [isLoad]) ?_
      go_wp2_with fail
      refine segs_go (hst4 _ _) (by simp [isLoad]) ?_
      go_wp2_with fail
      refine segs_nil ?_
      go_wp2_with fail
      have d0 := ((BR.set 0 .nilFunc).set 1 (.func (.func F') #[] caps')).cell 0
      have d1 := ((BR.set 0 .nilFunc).set 1 (.func (.func F') #[] caps')).cell 1
      exact bodyPost_ret (v := .agg #[.nilFunc, (.func (.func F') #[] caps')]) (by simp [results, Try.f52, go_sem, d0, d1]) rfl ⟨_, _, M', Fp', rfl, HE.out.1, ⟨HE.out.2.1.kept, HE.out.2.1.may_, fun b h => (HE.out.2.1.fp b h).imp (hFr b) id, HE.out.2.1.apart⟩, HQ.out, HE.out.2.2⟩
    · go_wp2_with fail
      refine segs_go hst3 (by simp [isLoad]) ?_
      go_wp2_with fail
      refine segs_go (hst4 _ _) (by simp [isLoad]) ?_
      go_wp2_with fail
      refine segs_nil ?_
      go_wp2_with fail
      have d0 := ((BR.set 0 (.func (.func G2) #[] gcaps2)).set 1 (.func (.func F') #[] caps')).cell 0
      have d1 := ((BR.set 0 (.func (.func G2) #[] gcaps2)).set 1 (.func (.func F') #[] caps')).cell 1
      exact bodyPost_ret (v := .agg #[(.func (.func G2) #[] gcaps2), (.func (.func F') #[] caps')]) (by simp [results, Try.f52, go_sem, d0, d1]) rfl ⟨_, _, M', Fp', rfl, HE.out.1, ⟨HE.out.2.1.kept, HE.out.2.1.may_, fun b h => (HE.out.2.1.fp b h).imp (hFr b) id, HE.out.2.1.apart⟩, HQ.out, HE.out.2.2⟩
  · have hc1 : 1 < cap := by omega
    have hp3 : Parts (· < B0) (W.alloc (.cells #[.nilFunc, .nilFunc] 36)).drew (.slice (some ⟨b, o + 1, none⟩) (len - 1) (cap - 1)) pv P := ⟨HP2.out.1.drop 1 hc1, HP2.out.2.2⟩
    have HP3 := Lib.hid hp3
    clear hp3
    go_enter Try.func52, Try.ntmps52
    go_wp2_with fail
    refine wp_region_text ([4], [9]) [X0, X1] (by kernel_rfl) (by kernel_rfl) (cellsB_cons B0'.cells (cellsB_cons B1'.cells cellsB_nil)) (by simp [segs, isEff, isLoad, askOps, asks, eqOrNe, isNil]; rfl) ?_
    refine segs_go stay_drew (by simp [isLoad]) ?_
    go_wp2_with fail
    refine segs_load stay_drew (fun _ => (by exact ⟨X0, _, rfl, by simp⟩)) ?_
    go_wp2_with fail
    refine segs_load stay_drew (fun _ => (by exact ⟨X1, _, rfl, by simp⟩)) ?_
    go_wp2_with fail
    refine segs_go stay_drew (by simp [isLoad]) ?_
    go_wp2_with fail
    refine (ih pv _ _ _ g M _ HP3.out HI2.out hM (by simp; omega) hl).mono ?_
    rintro e w3 ⟨may, d, M', Fp', rfl, hi3, mv, hq, hD⟩
    have hXM : ¬ M W.heap.size := fun h => by have := hML _ h; omega
    have BR := (Blk.new W #[.nilFunc, .nilFunc] 36).drew.kept mv.kept hXM
    have hst3 : StayB [X0, X1] (W.alloc (.cells #[.nilFunc, .nilFunc] 36)) w3 := fun b hb => by
      simp only [List.mem_cons, List.not_mem_nil, or_false] at hb
      rcases hb with rfl | rfl
      · exact (B0'.drew.kept mv.kept hX0).trans B0'.symm
      · exact (B1'.drew.kept mv.kept hX1).trans B1'.symm
    have hz0 := b0.lt
    have hz1 := b1.lt
    have hsz3 := mv.kept.size
    have hzz : W.heap.size + 1 ≤ w3.heap.size := by simpa using hsz3
    have hst4 := fun (x y : Value) => StayB.kept hst3 (((only_refl W.heap.size w3).put 0 x).put 1 y) (fun b hb => by
      simp only [List.mem_cons, List.not_mem_nil, or_false] at hb
      rcases hb with rfl | rfl
      · exact ⟨by omega, by omega⟩
      · exact ⟨by omega, by omega⟩)
    have f0 := BR.free 0
    have f1 := BR.free 1
    have c2 := BR.cell 0
    have c3 := BR.cell 1
    have HE := Lib.hid (chain_end (X := W.heap.size) hML hsa (Nat.le_refl _) (by simp) hi3 mv (fun b h => ⟨.inl h, by omega⟩) hD may d)
    have HQ := Lib.hid hq
    have hmc := hq.1
    have hDC := does_cases _ _ _ hD
    clear hD hq c0 c1
    rcases hDC with rfl | ⟨F', caps', rfl⟩
    all_goals rcases hmc with rfl | ⟨G2, gcaps2, rfl⟩
    · go_wp2_with fail
      refine segs_go hst3 (by simp [isLoad]) ?_
      go_wp2_with fail
      refine segs_go (hst4 _ _) (by simp [isLoad]) ?_
      go_wp2_with fail
      refine segs_nil ?_
      go_wp2_with fail
      have d0 := ((BR.set 0 .nilFunc).set 1 .nilFunc).cell 0
      have d1 := ((BR.set 0 .nilFunc).set 1 .nilFunc).cell 1
      exact bodyPost_ret (v := .agg #[.nilFunc, .nilFunc]) (by simp [results, Try.f52, go_sem, d0, d1]) rfl ⟨_, _, M', Fp', rfl, HE.out.1, ⟨HE.out.2.1.kept, HE.out.2.1.may_, fun b h => (HE.out.2.1.fp b h).imp (hFr b) id, HE.out.2.1.apart⟩, HQ.out, HE.out.2.2⟩
    · go_wp2_with fail
      refine segs_go hst3 (by simp [isLoad]) ?_
      go_wp2_with fail
      refine segs_go (hst4 _ _) (by simp [isLoad]) ?_
      go_wp2_with fail
      refine segs_nil ?_
      go_wp2_with fail
      have d0 := ((BR.set 0 (.func (.func G2) #[] gcaps2)).set 1 .nilFunc).cell 0
      have d1 := ((BR.set 0 (.func (.func G2) #[] gcaps2)).set 1 .nilFunc).cell 1
      exact bodyPost_ret (v := .agg #[(.func (.func G2) #[] gcaps2), .nilFunc]) (by simp [results, Try.f52, go_sem, d0, d1]) rfl ⟨_, _, M', Fp', rfl, HE.out.1, ⟨HE.out.2.1.kept, HE.out.2.1.may_, fun b h => (HE.out.2.1.fp b h).imp (hFr b) id, HE.out.2.1.apart⟩, HQ.out, HE.out.2.2⟩
    · go_wp2_with fail
      refine segs_go hst3 (by simp [isLoad]) ?_
      go_wp2_with fail
      refine segs_go (hst4 _ _) (by simp [isLoad]) ?_
      go_wp2_with fail
      refine segs_nil ?_
      go_wp2_with fail
      have d0 := ((BR.set 0 .nilFunc).set 1 (.func (.func F') #[] caps')).cell 0
      have d1 := ((BR.set 0 .nilFunc).set 1 (.func (.func F') #[] caps')).cell 1
      exact bodyPost_ret (v := .agg #[.nilFunc, (.func (.func F') #[] caps')]) (by simp [results, Try.f52, go_sem, d0, d1]) rfl ⟨_, _, M', Fp', rfl, HE.out.1, ⟨HE.out.2.1.kept, HE.out.2.1.may_, fun b h => (HE.out.2.1.fp b h).imp (hFr b) id, HE.out.2.1.apart⟩, HQ.out, HE.out.2.2⟩
    · go_wp2_with fail
      refine segs_go hst3 (by simp [isLoad]) ?_
      go_wp2_with fail
      refine segs_go (hst4 _ _) (by simp [isLoad]) ?_
      go_wp2_with fail
      refine segs_nil ?_
      go_wp2_with fail
      have d0 := ((BR.set 0 (.func (.func G2) #[] gcaps2)).set 1 (.func (.func F') #[] caps')).cell 0
      have d1 := ((BR.set 0 (.func (.func G2) #[] gcaps2)).set 1 (.func (.func F') #[] caps')).cell 1
      exact bodyPost_ret (v := .agg #[(.func (.func G2) #[] gcaps2), (.func (.func F') #[] caps')]) (by simp [results, Try.f52, go_sem, d0, d1]) rfl ⟨_, _, M', Fp', rfl, HE.out.1, ⟨HE.out.2.1.kept, HE.out.2.1.may_, fun b h => (HE.out.2.1.fp b h).imp (hFr b) id, HE.out.2.1.apart⟩, HQ.out, HE.out.2.2⟩

set_option maxHeartbeats 1000000 in
theorem chain_any (base G B0 : Nat) (hGB : B0 ≤ G) (P : List (List Int)) : ChainC base G B0 P := by
  induction P with
  | nil =>
    intro pv a len cap g M w hp hi hM hB hl
    have hpv : pv = [] := by
      match pv, hp.2 with
      | [], _ => rfl
    subst hpv
    obtain ⟨hlen, hle, hm, h0⟩ := hp.1.at_
    simp only [List.length_nil] at hlen
    subst hlen
    clear h0
    go_enter Try.func33, Try.ntmps33
    go_wp2_with fail
    exact bodyPost_ret (v := .agg #[.nilFunc, .nilFunc]) (by simp [results, Try.f33, go_sem]) rfl ⟨_, _, M, fun _ => False, rfl, gotI_keep _ _ _ _ hi ((((Kept.refl _ w).alloc _).alloc _).alloc _),
      ⟨(((Kept.refl _ w).alloc _).alloc _).alloc _, fun b h => .inl h, fun b h => h.elim, fun b h => h.elim⟩, mayOk_nil rfl _, rfl⟩
  | cons p0 P ih =>
    intro pv a len cap g M w hp hi hM hB hl
    match pv, hp with
    | [], hp => exact hp.2.elim
    | x0 :: pv, hp =>
    obtain ⟨hlen, hle, hm, h0⟩ := hp.1.at_
    simp only [List.length_cons] at hlen h0 hle
    obtain ⟨b, o, rfl, hb, hq, hc⟩ := h0 (by omega)
    have hlen1 : 1 ≤ len := by omega
    have hle' : len ≤ cap := by omega
    unfold maxLen at hm
    have HP := Lib.hid hp
    have hcx := hc 0 (by omega)
    have hx0 := hp.2.1
    obtain ⟨xa, xc, rfl⟩ := VRow.len hx0
    rw [List.length_map] at hx0 hcx
    have HX0 := Lib.hid hx0
    clear h0 hc hlen hle hp hx0
    have hsa : Still w ((((w.alloc (.cells #[.pointer (some ⟨G, 0, none⟩)] 52)).alloc (.cells #[.slice (some ⟨b, o, none⟩) len cap] 48)).alloc (.cells #[.nilFunc, .nilFunc] 36))).drew := ((((still_refl w).alloc _).alloc _).alloc _).drew
    have b0 := ((Blk.new w #[.pointer (some ⟨G, 0, none⟩)] 52).alloc (.cells #[.slice (some ⟨b, o, none⟩) len cap] 48)).alloc (.cells #[.nilFunc, .nilFunc] 36)
    have b1 := (Blk.newAt (w.alloc (.cells #[.pointer (some ⟨G, 0, none⟩)] 52)) #[.slice (some ⟨b, o, none⟩) len cap] 48 (n := w.heap.size + 1) (by simp)).alloc (.cells #[.nilFunc, .nilFunc] 36)
    have bR := Blk.newAt ((w.alloc (.cells #[.pointer (some ⟨G, 0, none⟩)] 52)).alloc (.cells #[.slice (some ⟨b, o, none⟩) len cap] 48)) #[.nilFunc, .nilFunc] 36 (n := w.heap.size + 1 + 1) (by simp)
    have e0 := b0.cell 0
    have e1 := b1.cell 0
    have ce : ((((w.alloc (.cells #[.pointer (some ⟨G, 0, none⟩)] 52)).alloc (.cells #[.slice (some ⟨b, o, none⟩) len cap] 48)).alloc (.cells #[.nilFunc, .nilFunc] 36))).cell? ⟨b, o, none⟩ = some (.slice xa p0.length xc) :=
      (World.cell?_of_block (a := ⟨b, o, none⟩) (hsa.block b hb (fun f => f))).trans hcx
    have cb : ∃ c t f, ((((w.alloc (.cells #[.pointer (some ⟨G, 0, none⟩)] 52)).alloc (.cells #[.slice (some ⟨b, o, none⟩) len cap] 48)).alloc (.cells #[.nilFunc, .nilFunc] 36))).heap[b]? = some (.cells c t f) := cells_of_cell ce
    have hML : ∀ b, M b → b < w.heap.size := gotI_lt _ _ _ hi
    have hGl : G < w.heap.size := by obtain ⟨v, bG, _⟩ := hi; exact bG.lt
    go_enter Try.func33, Try.ntmps33
    go_wp2_with fail
    refine wp_region_text ([4], [9]) [w.heap.size, w.heap.size + 1, b] (by kernel_rfl) (by kernel_rfl) (cellsB_cons b0.cells (cellsB_cons b1.cells (cellsB_cons cb cellsB_nil))) (by simp [segs, isEff, isLoad, askOps, asks, eqOrNe, isNil]; rfl) ?_
    refine segs_go stay_drew (by simp [isLoad]) ?_
    go_wp2_with fail
    refine segs_load stay_drew (fun _ => (by exact ⟨w.heap.size, _, rfl, by simp⟩)) ?_
    go_wp2_with fail
    refine segs_load stay_drew (fun _ => (by exact ⟨w.heap.size + 1, _, rfl, by simp⟩)) ?_
    go_wp2_with fail
    refine segs_load stay_drew (fun _ => (by exact ⟨b, _, rfl, by simp⟩)) ?_
    go_wp2_with fail
    have hpl : (pos p0).length ≤ p0.length := List.length_filter_le _ _
    have hfl : (p0 :: P).flatten.length = p0.length + P.flatten.length := by simp
    refine (lawrow_any base G (· < B0) xa _ xc p0 g _ (VRow.still HX0.out hsa) (by omega) (by simp; omega)).mono ?_
    rintro e w3 ⟨d0, Fd, rfl, k3, hFd, hD⟩
    have hs3 : Still w w3 := hsa.trans k3
    have hz3 := k3.size
    have hzz3 : w.heap.size + 1 + 1 + 1 ≤ w3.heap.size := by simpa using hz3
    have hst3 : StayB [w.heap.size, w.heap.size + 1, b] ((((w.alloc (.cells #[.pointer (some ⟨G, 0, none⟩)] 52)).alloc (.cells #[.slice (some ⟨b, o, none⟩) len cap] 48)).alloc (.cells #[.nilFunc, .nilFunc] 36))) w3 := StayB.kept stay_drew k3 (fun x hx => ⟨by
      simp only [List.mem_cons, List.not_mem_nil, or_false] at hx
      rcases hx with rfl | rfl | rfl <;> simp <;> omega, fun f => f⟩)
    have B0' := b0.drew.still k3
    have B1' := b1.drew.still k3
    have BR' := bR.drew.still k3
    have HB0 := Lib.hid B0'
    have HB1 := Lib.hid B1'
    have HBR := Lib.hid BR'
    have HD := Lib.hid hD
    have HFd : Hid (∀ b, Fd b → w.heap.size + 1 + 1 + 1 ≤ b) := Lib.hid (fun b h => by have := hFd b h; simpa using this)
    clear hFd hD e0 e1 ce cb
    go_wp2_with fail
    refine segs_go hst3 (by simp [isLoad]) ?_
    go_wp2_with fail
    obtain ⟨h1, h2, h3⟩ := pathOf_then (pos P.flatten) (pos p0) g
    have hR : RestC Try.prog (· = .nilFunc) (GotI base G) 52 #[.pointer (some ⟨w.heap.size, 0, none⟩), .pointer (some ⟨w.heap.size + 1, 0, none⟩)] (lastS g (pathOf g (pos p0))) (g ++ pos p0) (pathOf (g ++ pos p0) (pos P.flatten)) (fun b => b < B0 ∨ b = w.heap.size ∨ b = w.heap.size + 1) w3 := by
      refine ⟨⟨_, Try.func52, by kernel_rfl, by kernel_rfl⟩, fun W' M2 hag hi2 hd2 => ?_⟩
      rw [h3] at hi2
      have hag0 : Agree (· < B0) w W' := (Agree.of_kept hs3 (fun _ _ f => f) (fun b h => by omega)).trans (hag.less fun b h => .inl h)
      refine (chain1_any base G B0 P p0 ih pv (.slice xa (p0.map (Value.int .i64)).length xc) _ len cap (g ++ pos p0) M2 (fun b => b < B0 ∨ b = w.heap.size ∨ b = w.heap.size + 1) w.heap.size (w.heap.size + 1) W' (HP.out.agree hag0 (fun b h => h)) hi2 (gotI_ge hi2 hGB) (Nat.le_trans hB hag0.size)
        (by simp only [List.length_append]; omega) (HB0.out.agree hag (.inr (.inl rfl))) (HB1.out.agree hag (.inr (.inr rfl))) (fun b h => .inl h) (hd2 _ (.inr (.inl rfl))) (hd2 _ (.inr (.inr rfl)))).mono ?_
      rintro e w' ⟨may, d, M', Fp', rfl, r1, r2, r3, r4⟩
      exact ⟨may, d, M', Fp', rfl, r1, r2, r3, r4⟩
    have hFrM : ∀ b, (b < B0 ∨ b = w.heap.size ∨ b = w.heap.size + 1) → ¬ M b := fun b h hm => by
      have := hML b hm
      have := hM b hm
      omega
    refine (then_any (· = .nilFunc) (GotI base G) gotI_lt gotI_keep (pathOf g (pos p0)) g (g ++ pos p0) (pathOf (g ++ pos p0) (pos P.flatten)) .nilFunc d0 Fd (fun b => b < B0 ∨ b = w.heap.size ∨ b = w.heap.size + 1) M _ _ w3 (mayOk_nil rfl _) HD.out hR (fun b h => by omega)
      (fun b h hm => by have := HFd.out b h; have := hML b hm; omega) hFrM (gotI_keep _ _ _ _ hi (hs3.mono (fun _ _ f => f.elim)))).mono ?_
    rintro e w5 ⟨may, d, M', Fp', rfl, hi5, mv, hq5, hD5⟩
    rw [h2] at hi5
    rw [h1, ← pos_append] at hq5
    rw [h2, h1, ← pos_append] at hD5
    rw [show p0 ++ P.flatten = (p0 :: P).flatten by simp] at hq5 hD5
    have hXM : ∀ b, w.heap.size ≤ b → ¬ M b := fun b hb h => by have := hML _ h; omega
    have BR5 := HBR.out.kept mv.kept (hXM _ (by omega))
    have hz5 := mv.kept.size
    have hbM : ∀ x ∈ [w.heap.size, w.heap.size + 1, b], x < w3.heap.size ∧ ¬ M x := fun x hx => by
      simp only [List.mem_cons, List.not_mem_nil, or_false] at hx
      rcases hx with rfl | rfl | rfl
      · exact ⟨by omega, hXM _ (by omega)⟩
      · exact ⟨by omega, hXM _ (by omega)⟩
      · exact ⟨by omega, fun h => by have := hM _ h; omega⟩
    have hst5 := StayB.kept hst3 mv.kept hbM
    have hst6 := fun (x y : Value) => StayB.kept hst5 (((only_refl (w.heap.size + 1 + 1) w5).put 0 x).put 1 y) (fun c hx => ⟨Nat.lt_of_lt_of_le (hbM c hx).1 hz5, by
      simp only [List.mem_cons, List.not_mem_nil, or_false] at hx
      rcases hx with rfl | rfl | rfl <;> omega⟩)
    have f0 := BR5.free 0
    have f1 := BR5.free 1
    have c2 := BR5.cell 0
    have c3 := BR5.cell 1
    have HE := Lib.hid (chain_end (X := w.heap.size + 1 + 1) (B0 := B0) hML hs3 (by omega) (by omega) hi5 mv (fun b h => by
      rcases h with h | h | h | h
      · have := HFd.out b h; exact ⟨.inr (by omega), by omega⟩
      · exact ⟨.inl h, by omega⟩
      · exact ⟨.inr (by omega), by omega⟩
      · exact ⟨.inr (by omega), by omega⟩) hD5 may d)
    have HQ := Lib.hid hq5
    have hmc := hq5.1
    have hDC := does_cases _ _ _ hD5
    clear hD5 hq5 h1 h2 h3 hR hpl hfl
    rcases hDC with rfl | ⟨F', caps', rfl⟩
    all_goals rcases hmc with rfl | ⟨G2, gcaps2, rfl⟩
    · go_wp2_with fail
      refine segs_go hst5 (by simp [isLoad]) ?_
      go_wp2_with fail
      refine segs_go (hst6 _ _) (by simp [isLoad]) ?_
      go_wp2_with fail
      refine segs_nil ?_
      go_wp2_with fail
      have d0 := ((BR5.set 0 .nilFunc).set 1 .nilFunc).cell 0
      have d1 := ((BR5.set 0 .nilFunc).set 1 .nilFunc).cell 1
      exact bodyPost_ret (v := .agg #[.nilFunc, .nilFunc]) (by simp [results, Try.f33, go_sem, d0, d1]) rfl ⟨_, _, M', Fp', rfl, HE.out.1, HE.out.2.1, HQ.out, HE.out.2.2⟩
    · go_wp2_with fail
      refine segs_go hst5 (by simp [isLoad]) ?_
      go_wp2_with fail
      refine segs_go (hst6 _ _) (by simp [isLoad]) ?_
      go_wp2_with fail
      refine segs_nil ?_
      go_wp2_with fail
      have d0 := ((BR5.set 0 (.func (.func G2) #[] gcaps2)).set 1 .nilFunc).cell 0
      have d1 := ((BR5.set 0 (.func (.func G2) #[] gcaps2)).set 1 .nilFunc).cell 1
      exact bodyPost_ret (v := .agg #[(.func (.func G2) #[] gcaps2), .nilFunc]) (by simp [results, Try.f33, go_sem, d0, d1]) rfl ⟨_, _, M', Fp', rfl, HE.out.1, HE.out.2.1, HQ.out, HE.out.2.2⟩
    · go_wp2_with fail
      refine segs_go hst5 (by simp [isLoad]) ?_
      go_wp2_with fail
      refine segs_go (hst6 _ _) (by simp [isLoad]) ?_
      go_wp2_with fail
      refine segs_nil ?_
      go_wp2_with fail
      have d0 := ((BR5.set 0 .nilFunc).set 1 (.func (.func F') #[] caps')).cell 0
      have d1 := ((BR5.set 0 .nilFunc).set 1 (.func (.func F') #[] caps')).cell 1
      exact bodyPost_ret (v := .agg #[.nilFunc, (.func (.func F') #[] caps')]) (by simp [results, Try.f33, go_sem, d0, d1]) rfl ⟨_, _, M', Fp', rfl, HE.out.1, HE.out.2.1, HQ.out, HE.out.2.2⟩
    · go_wp2_with fail
      refine segs_go hst5 (by simp [isLoad]) ?_
      go_wp2_with fail
      refine segs_go (hst6 _ _) (by simp [isLoad]) ?_
      go_wp2_with fail
      refine segs_nil ?_
      go_wp2_with fail
      have d0 := ((BR5.set 0 (.func (.func G2) #[] gcaps2)).set 1 (.func (.func F') #[] caps')).cell 0
      have d1 := ((BR5.set 0 (.func (.func G2) #[] gcaps2)).set 1 (.func (.func F') #[] caps')).cell 1
      exact bodyPost_ret (v := .agg #[(.func (.func G2) #[] gcaps2), (.func (.func F') #[] caps')]) (by simp [results, Try.f33, go_sem, d0, d1]) rfl ⟨_, _, M', Fp', rfl, HE.out.1, HE.out.2.1, HQ.out, HE.out.2.2⟩
end Go.Proofs.Ytojjelafkieflaa
