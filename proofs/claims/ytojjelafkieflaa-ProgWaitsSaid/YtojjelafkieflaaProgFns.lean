/-
  What stands here: rows that put numbers behind others: the function that puts one, the row of them, and the rows one behind the other. Under no condition but that there are not too many numbers.
-/
import Derived.Test.YtojjelafkieflaaProgAlive
import Derived.Test.YtojjelafkieflaaTextLast
import Derived.Test.YtojjelafkieflaaAppend
namespace Go.Proofs.Ytojjelafkieflaa
set_option linter.unusedVariables false
set_option linter.unusedSimpArgs false
open Go.RowKit Go.Proofs

theorem infoInt : (Try.prog.info? 3).map (fun i => (i.zero, i.size, i.bytes)) = some (some (.int .i64 0), 1, 8) := by kernel_rfl
theorem infoFunc : (Try.prog.info? 1).map (fun i => (i.zero, i.size, i.bytes)) = some (some .nilFunc, 1, 8) := by kernel_rfl

/-- what was put so far, behind the pointer to G -/
def GotI (base G : Nat) (g : List Int) (M : Nat → Prop) (W : World) : Prop :=
  ∃ v, Blk W G #[v] 32 ∧ W.ownsRow base 3 1 v g.length (g.map (Value.int .i64)) ∧ G < base ∧ base ≤ W.heap.size ∧ ∀ b, M b ↔ b = G ∨ v.ownBlock = some b
theorem owns_lt {w : World} {base : Nat} {e : TypeId} {sz : Nat} {v : Value} {n : Nat} {xs : List Value} (h : w.ownsRow base e sz v n xs) : ∀ k, v.ownBlock = some k → base ≤ k ∧ k < w.heap.size := by
  rintro k hk
  obtain ⟨_, ⟨rfl, _⟩ | ⟨g, cap, cur, rfl, hb, hg, _⟩⟩ := h
  · simp [Value.ownBlock] at hk
  · simp only [Value.ownBlock, Option.some.injEq] at hk; subst hk; exact ⟨hb, lt_of_block hg⟩
theorem owns_same {w w' : World} {base : Nat} {e : TypeId} {sz : Nat} {v : Value} {n : Nat} {xs : List Value} (h : w.ownsRow base e sz v n xs) (k : ∀ b, v.ownBlock = some b → w'.heap[b]? = w.heap[b]?) : w'.ownsRow base e sz v n xs := by
  obtain ⟨hl, ⟨rfl, h0⟩ | ⟨g, cap, cur, rfl, hb, hg, hr⟩⟩ := h
  · exact ⟨hl, .inl ⟨rfl, h0⟩⟩
  · exact ⟨hl, .inr ⟨g, cap, cur, rfl, hb, (k g rfl).trans hg, hr⟩⟩
theorem gotI_lt {base G : Nat} : ∀ g M W, GotI base G g M W → ∀ b, M b → b < W.heap.size := fun g M W h b hb => by
  obtain ⟨v, hb1, ho, _, _, hM⟩ := h
  rcases (hM b).1 hb with rfl | h
  · exact hb1.lt
  · exact (owns_lt ho b h).2
theorem gotI_keep {base G : Nat} : ∀ g M A B, GotI base G g M A → Kept (fun b => ¬ M b) A B → GotI base G g M B := fun g M A B h k => by
  obtain ⟨v, hb1, ho, h1, h2, hM⟩ := h
  refine ⟨v, hb1.kept k (fun hn => hn ((hM G).2 (.inl rfl))), owns_same ho (fun b hb => k.block b (owns_lt ho b hb).2 (fun hn => hn ((hM b).2 (.inr hb)))), h1, Nat.le_trans h2 k.size, hM⟩

set_option maxHeartbeats 1000000 in
theorem put_any (base G X0 X1 : Nat) (g : List Int) (n : Int) (T0 T1 : TypeId) (M : Nat → Prop) (w : World) (hg : g.length < 100000000) (b0 : Blk w X0 #[.pointer (some ⟨G, 0, none⟩)] T0) (b1 : Blk w X1 #[.int .i64 n] T1) (hi : GotI base G g M w) (hX0 : ¬ M X0) (hX1 : ¬ M X1) :
    Calls Try.prog 54 #[.pointer (some ⟨X0, 0, none⟩), .pointer (some ⟨X1, 0, none⟩)] w fun e w' => e = .returned (.tuple #[]) ∧ ∃ M', GotI base G (g ++ [n]) M' w' ∧ Kept M w w' ∧ (∀ b, M' b → M b ∨ w.heap.size ≤ b) := by
  obtain ⟨v, bG, ho, hGb, hbz, hM⟩ := hi
  obtain ⟨i0, hi, hz0, hz1, hz2⟩ := info_parts infoInt
  have c0 := b0.cell 0
  have c1 := b1.cell 0
  have cG := bG.cell 0
  have hd0 := b0.drew
  go_enter Try.func54, Try.ntmps54
  go_wp2_with fail
  refine wp_region_end ([4], [9, 52]) [X0, X1, G] rfl (by kernel_rfl) (by kernel_rfl) (by kernel_rfl) (cellsB_cons b0.cells (cellsB_cons b1.cells (cellsB_cons bG.cells cellsB_nil))) (by simp [segs, isEff, isLoad, askOps, asks, eqOrNe, isNil]; rfl) ?_
  refine segs_go stay_drew (by simp [isLoad]) ?_
  go_wp2_with fail
  refine segs_load stay_drew (fun _ => (by exact ⟨X0, _, rfl, by simp⟩)) ?_
  go_wp2_with fail
  refine segs_load stay_drew (fun _ => (by exact ⟨X0, _, rfl, by simp⟩)) ?_
  go_wp2_with fail
  refine segs_load stay_drew (fun _ => (by exact ⟨G, _, rfl, by simp⟩)) ?_
  go_wp2_with fail
  refine segs_load stay_drew (fun _ => (by exact ⟨X1, _, rfl, by simp⟩)) ?_
  go_wp2_with fail
  have hsa : StayB [X0, X1, G] w (w.alloc (.cells #[.int .i64 n] 3)).drew := StayB.kept stay_drew (((Kept.refl (fun _ => False) w.drew).alloc _)) (fun b hb => ⟨(by simp at hb; rcases hb with rfl | rfl | rfl; exact b0.lt; exact b1.lt; exact bG.lt), fun f => f⟩)
  refine segs_go hsa (by simp [isLoad]) ?_
  have hoa : (w.alloc (.cells #[.int .i64 n] 3)).drew.ownsRow base 3 1 v g.length (g.map (Value.int .i64)) := owns_kept ho (((Kept.refl (fun _ => False) w).alloc _).drew) (fun _ _ _ f => f)
  have hbz' : base ≤ (w.alloc (.cells #[.int .i64 n] 3)).drew.heap.size := by simp; omega
  go_wp2_with (first | (at_builtin; refine wpList_append _ rfl _ _ 32 rfl base 3 i0 (.int .i64 0) 1 8 Try.underlying32 hi hz0 hz1 hz2 rfl (by decide) _ _ _ rfl (hoa) ⟨w.heap.size, 0, none⟩ 1 1 [.int .i64 n] rfl rfl (by intro j u hj; match j, hj with | 0, hj => simp at hj; subst hj; simp [Addr.add]) (by intro u hu; simp at hu; subst hu; rfl) (by unfold maxLen; omega) (by omega) (by simp; omega) ?_) | fail)
  intro v' w2 hap
  have ho2 := hap.owns
  have hg2 := hap.grown
  have hB2 := Lib.hid hap.block
  have hS : Kept (fun k => v.ownBlock = some k) w w2 := Kept.grown (((Kept.refl (fun k => v.ownBlock = some k) w).alloc _).drew) hg2 (fun k e _ => e.symm ▸ rfl)
  have hGv : ¬ v.ownBlock = some G := fun e => by have := (owns_lt ho _ e).1; omega
  have hst2 : StayB [X0, X1, G] w w2 := StayB.kept (fun b hb => rfl) hS (fun b hb => by
    simp only [List.mem_cons, List.not_mem_nil, or_false] at hb
    rcases hb with rfl | rfl | rfl
    · exact ⟨b0.lt, fun e => hX0 ((hM _).2 (.inr e))⟩
    · exact ⟨b1.lt, fun e => hX1 ((hM _).2 (.inr e))⟩
    · exact ⟨bG.lt, hGv⟩)
  have bG2 := bG.kept hS hGv
  have cG2 := bG2.cell 0
  have fG2 := bG2.free 0
  clear cG c0 c1 hoa
  obtain ⟨av, cv, rfl⟩ := owns_slice ho2
  go_wp2_with fail
  refine segs_go hst2 (by simp [isLoad]) ?_
  go_wp2_with fail
  refine segs_nil ?_
  go_wp2_with fail
  go_end0
  have kG : Only G w2 (w2.setCell ⟨G, 0, none⟩ (.slice av (g.length + 1) cv)) := (only_refl G w2).put 0 _
  refine ⟨rfl, fun b => b = G ∨ (Value.slice av (g.length + 1) cv).ownBlock = some b, ⟨_, bG2.set 0 _, ?_, hGb, ?_, fun b => Iff.rfl⟩, ?_, ?_⟩
  · have := owns_kept ho2 kG (fun b hb _ e => by omega)
    rw [List.length_append, List.length_singleton, List.map_append]
    exact this
  · exact Nat.le_trans hbz (Nat.le_trans hS.size kG.size)
  · exact (hS.mono (fun b _ h => (hM b).2 (.inr h))).step kG (fun b _ e => (hM b).2 (.inl e))
  · rintro b (h | h)
    · exact .inl ((hM b).2 (.inl h))
    · rcases hB2.out b h with h | h
      · exact .inl ((hM b).2 (.inr h))
      · exact .inr (by simp at h; omega)

/-- the states through which the numbers zs lead -/
def pathOf : List Int → List Int → List (List Int)
  | _, [] => []
  | g, z :: zs => (g ++ [z]) :: pathOf (g ++ [z]) zs
def pos (zs : List Int) : List Int := zs.filter fun z => decide (0 ≤ z)

/-- what stands for a number in a row -/
def ForN (B X0 : Nat) (W : World) (z : Int) (v : Value) : Prop :=
  (z < 0 ∧ v = .nilFunc) ∨ (0 ≤ z ∧ ∃ X, B ≤ X ∧ v = .func (.func 54) #[] #[.pointer (some ⟨X0, 0, none⟩), .pointer (some ⟨X, 0, none⟩)] ∧ Blk W X #[.int .i64 z] 3)

/-- the function that puts a number, whatever else the state tells -/
def PutC {σ : Type} (I : σ → (Nat → Prop) → World → Prop) (f : List Int → σ) (G : Nat) : Prop :=
  ∀ (X0 X1 : Nat) (g : List Int) (n : Int) (T0 T1 : TypeId) (M : Nat → Prop) (w : World), g.length < 100000000 → Blk w X0 #[.pointer (some ⟨G, 0, none⟩)] T0 → Blk w X1 #[.int .i64 n] T1 → I (f g) M w → ¬ M X0 → ¬ M X1 →
    Calls Try.prog 54 #[.pointer (some ⟨X0, 0, none⟩), .pointer (some ⟨X1, 0, none⟩)] w fun e w' => e = .returned (.tuple #[]) ∧ ∃ M', I (f (g ++ [n])) M' w' ∧ Kept M w w' ∧ (∀ b, M' b → M b ∨ w.heap.size ≤ b)
theorem put_got (base G : Nat) : PutC (GotI base G) id G := fun X0 X1 g n T0 T1 M w hg b0 b1 hi h0 h1 => put_any base G X0 X1 g n T0 T1 M w hg b0 b1 hi h0 h1

theorem acts_of {σ : Type} {I : σ → (Nat → Prop) → World → Prop} {f : List Int → σ} {G : Nat} (hput : PutC I f G) (X0 B : Nat) (T0 : TypeId) (Fp : Nat → Prop) (W : World) (b0 : Blk W X0 #[.pointer (some ⟨G, 0, none⟩)] T0) (h0 : Fp X0) (hB : ∀ X, B ≤ X → X < W.heap.size → Fp X) (hFl : ∀ b, Fp b → b < W.heap.size) : ∀ (zs : List Int) (vs : List Value) (g : List Int), RelL (ForN B X0 W) zs vs → g.length + zs.length < 100000000 →
    Acts Try.prog I vs (f g) ((pathOf g (pos zs)).map f) Fp W
  | [], [], g, _, _ => rfl
  | [], _ :: _, g, h, _ => h.elim
  | _ :: _, [], g, h, _ => h.elim
  | z :: zs, v :: vs, g, h, hl => by
    simp only [List.length_cons] at hl
    rcases h.1 with ⟨hz, rfl⟩ | ⟨hz, X, hBX, rfl, bX⟩
    · have : pos (z :: zs) = pos zs := by simp [pos, hz]
      rw [this]
      exact .inl ⟨rfl, acts_of hput X0 B T0 Fp W b0 h0 hB hFl zs vs g h.2 (by omega)⟩
    · have : pos (z :: zs) = z :: pos zs := by simp [pos, hz]
      rw [this]
      refine .inr ⟨f (g ++ [z]), _, _, _, rfl, rfl, ⟨_, Try.func54, by kernel_rfl, by kernel_rfl⟩, fun W' M hag hi hd => ?_, acts_of hput X0 B T0 Fp W b0 h0 hB hFl zs vs (g ++ [z]) h.2 (by simp; omega)⟩
      have hX := hB X hBX bX.lt
      refine (hput X0 X g z T0 3 M W' (by omega) (b0.agree hag h0) (bX.agree hag hX) hi (hd _ h0) (hd _ hX)).mono ?_
      rintro e W'' ⟨rfl, M', hi', hk, hm⟩
      refine ⟨rfl, M', hi', hk, hm, fun b h => .inl h, fun b hb hM => ?_⟩
      rcases hm b hM with h | h
      · exact hd b hb h
      · have := hFl b hb; have := hag.size; omega

theorem blk_not_own {w : World} {X base n : Nat} {c : Array Value} {T e : TypeId} {v : Value} {xs : List Value} (h : Blk w X c T) (ho : w.ownsRow base e 1 v n xs) (hT : T ≠ e) : v.ownBlock ≠ some X := by
  intro hb
  obtain ⟨_, ⟨rfl, _⟩ | ⟨g, cap, cur, rfl, _, hg, _⟩⟩ := ho
  · simp [Value.ownBlock] at hb
  · simp only [Value.ownBlock, Option.some.injEq] at hb
    subst hb
    unfold Blk at h
    rw [h] at hg
    simp at hg
    exact hT hg.2
theorem forN_kept {B X0 : Nat} {S : Nat → Prop} {w w' : World} {z : Int} {v : Value} (h : ForN B X0 w z v) (k : Kept S w w') (hS : ∀ X, B ≤ X → Blk w X #[.int .i64 z] 3 → ¬ S X) : ForN B X0 w' z v := by
  rcases h with h | ⟨hz, X, hX, hv, hb⟩
  · exact .inl h
  · exact .inr ⟨hz, X, hX, hv, hb.kept k (hS X hX hb)⟩
theorem forN_append {B X0 base n : Nat} {zs : List Int} {wr w1 : World} {v v' : Value} {vs xs : List Value} {o : Obj} (h : RelL (ForN B X0 wr) zs vs) (ho : wr.ownsRow base 1 1 v n xs) {m : Nat} {ys : List Value} (ha : Appended (wr.alloc o) w1 base 1 1 v v' m ys) : RelL (ForN B X0 w1) zs vs :=
  relL_mono (fun z f hf => forN_kept hf (ha.kept (S := fun b => v.ownBlock = some b) (Kept.refl _ _) (fun b _ h => h)) (fun X _ hb => blk_not_own hb ho (by decide))) h

theorem getD_of {zs : List Int} {k : Nat} (h : k < zs.length) : zs.take (k + 1) = zs.take k ++ [zs.getD k 0] := by
  rw [List.take_succ_eq_append_getElem h, List.getD_eq_getElem?_getD, List.getElem?_eq_getElem h]; rfl

theorem does_store {σ : Type} {P : Program} {Q : Value → Prop} {I : σ → (Nat → Prop) → World → Prop} {s : σ} {p : List σ} {Fp : Nat → Prop} {W : World} {d : Value} (X : Nat) (hD : Does P Q I s p Fp W d) (hX : ∀ b, Fp b → b ≠ X) (x y : Value) :
    Does P Q I s p Fp ((W.setCell ⟨X, 0, none⟩ x).setCell ⟨X, 1, none⟩ y) d := by
  match p, hD with
  | [], hD => exact hD
  | s'' :: p, hD => exact does_agree P Q I hD (Agree.of_kept (((only_refl X W).put 0 x).put 1 y) (fun b hb e => hX b hb e) hD.1)

set_option maxHeartbeats 2000000 in
theorem lawrow_gen {σ : Type} {I : σ → (Nat → Prop) → World → Prop} {f : List Int → σ} (hlt : ∀ s M W, I s M W → ∀ b, M b → b < W.heap.size)
    (hI : ∀ s M A B, I s M A → Kept (fun b => ¬ M b) A B → I s M B) (G : Nat) (hput : PutC I f G) (Qz : Nat → Prop) (a : Option Addr) (len cap : Nat) (zs g : List Int) (w : World) (hz : IRow Qz w (.slice a len cap) zs) (hl : g.length + zs.length < 100000000) (hGw : G < w.heap.size) :
    Calls Try.prog 35 #[.pointer (some ⟨G, 0, none⟩), .slice a len cap] w fun e w' => ∃ d Fp', e = .returned (.agg #[.nilFunc, d]) ∧ Still w w' ∧ (∀ b, Fp' b → w.heap.size ≤ b) ∧
      Does Try.prog (· = .nilFunc) I (f g) ((pathOf g (pos zs)).map f) Fp' w' d := by
  obtain ⟨rfl, hml, h0⟩ := hz.cells
  obtain ⟨L, hL⟩ : ∃ L, L = zs.length := ⟨_, rfl⟩
  rw [← hL] at hl h0 ⊢
  obtain ⟨i0, hi, hz0, hz1, hz2⟩ := info_parts infoFunc
  have HL := Lib.hid hL
  have H0 := Lib.hid h0
  clear hL hz h0 hml
  go_enter Try.func35, Try.ntmps35
  go_wp2
  go_loopw [5, 6] (fun f i wr => ∃ (k : Nat) (vs : List Value), k ≤ L ∧ i = .int .i64 k ∧ vs.length = k ∧ wr.ownsRow (w.heap.size + 2) 1 1 f k vs ∧ RelL (ForN (w.heap.size + 2) w.heap.size wr) (zs.take k) vs ∧ Still w wr ∧
    Blk wr w.heap.size #[.pointer (some ⟨G, 0, none⟩)] 52 ∧ Blk wr (w.heap.size + 1) #[.nilFunc, .nilFunc] 36) (fun _ i _ => L - (intOf i).toNat)
  case atStart => exact ⟨0, [], Nat.zero_le _, rfl, rfl, World.ownsRow_nil _ _ _ _, trivial, by (repeat (first | (with_reducible exact Kept.refl _ _) | (with_reducible refine Kept.drewN ?_ _) | (with_reducible refine Kept.drew ?_) | (with_reducible refine Kept.put ?_ _ _) | (with_reducible refine Kept.alloc ?_ _))), (Blk.new _ _ _).alloc _, Blk.newAt _ _ _ (by simp)⟩
  case round =>
    obtain ⟨k, vs, hk, rfl, hvl, hown, hrel, hs, bX, bR⟩ := hrel
    have HV := Lib.hid hvl
    have HR := Lib.hid hrel
    clear hvl hrel
    have hzX := bR.lt
    by_cases hkl : k < L
    · obtain ⟨b, o, rfl, hb, hq, hc⟩ := H0.out (by omega)
      have c1 : wr.cell? ⟨b, o + k, none⟩ = some (.int .i64 (zs.getD k 0)) := by exact (World.cell?_of_block (a := ⟨b, o + k, none⟩) (hs.block b hb (fun f => f))).trans (hc k hkl)
      obtain ⟨z, hzz⟩ : ∃ z, z = zs.getD k 0 := ⟨_, rfl⟩
      rw [← hzz] at c1
      have HZ : Hid (zs.take (k + 1) = zs.take k ++ [z]) := Lib.hid (by rw [hzz]; exact getD_of (by rw [← HL.out]; exact hkl))
      clear hzz hc
      by_cases hneg : z < 0
      · have hR1 : RelL (ForN (w.heap.size + 2) w.heap.size (wr.alloc (.cells #[.int .i64 z] 3))) (zs.take (k + 1)) (vs ++ [.nilFunc]) := by
          rw [HZ.out]
          exact relL_snoc (.inl ⟨hneg, rfl⟩) (relL_mono (fun z f hf => forN_kept hf ((still_refl wr).alloc _) (fun _ _ _ f => f)) HR.out)
        have HR1 := Lib.hid hR1
        clear hR1
        go_wp2_with (first | (at_builtin; refine wpList_append _ rfl _ _ 83 rfl (w.heap.size + 2) 1 i0 .nilFunc 1 8 Try.underlying83 hi hz0 hz1 hz2 rfl (by decide) _ _ _ rfl ((hown.alloc _).alloc _) ⟨wr.heap.size + 1, 0, none⟩ 1 1 [.nilFunc] rfl rfl (by intro j u hj; match j, hj with | 0, hj => simp at hj; subst hj; simp [Addr.add]) (by intro u hu; simp at hu; subst hu; rfl) (by unfold maxLen; omega) (by omega) (by simp; omega) ?_) | fail)
        intro v' w2 ha
        have hown2 := ha.owns
        have hs2 : Still w w2 := ha.kept (hs.alloc _) (fun b hb h => by have := (owns_lt hown b h).1; omega)
        have hk2 : Kept (fun b => u5.ownBlock = some b) wr w2 := ha.kept ((Kept.refl _ wr).alloc _) (fun b _ h => h)
        have bX2 := bX.kept hk2 (fun h => by have := (owns_lt hown _ h).1; omega)
        have bR2 := bR.kept hk2 (fun h => by have := (owns_lt hown _ h).1; omega)
        have hR2 := forN_append HR1.out (hown.alloc _) ha
        have HR2 := Lib.hid hR2
        clear hR2
        go_wp2
        go_roundw
        case rel => exact ⟨k + 1, _, by omega, by go_num, by simp [HV.out], hown2, HR2.out, hs2, bX2, bR2⟩
        case measure => simp [intOf]; omega
      · have hR1 : RelL (ForN (w.heap.size + 2) w.heap.size (wr.alloc (.cells #[.int .i64 z] 3))) (zs.take (k + 1)) (vs ++ [.func (.func 54) #[] #[.pointer (some ⟨w.heap.size, 0, none⟩), .pointer (some ⟨wr.heap.size, 0, none⟩)]]) := by
          rw [HZ.out]
          exact relL_snoc (.inr ⟨by omega, wr.heap.size, by omega, rfl, Blk.new _ _ _⟩) (relL_mono (fun z f hf => forN_kept hf ((still_refl wr).alloc _) (fun _ _ _ f => f)) HR.out)
        have HR1 := Lib.hid hR1
        clear hR1
        go_wp2_with (first | (at_builtin; refine wpList_append _ rfl _ _ 83 rfl (w.heap.size + 2) 1 i0 .nilFunc 1 8 Try.underlying83 hi hz0 hz1 hz2 rfl (by decide) _ _ _ rfl ((hown.alloc _).alloc _) ⟨wr.heap.size + 1, 0, none⟩ 1 1 [.func (.func 54) #[] #[.pointer (some ⟨w.heap.size, 0, none⟩), .pointer (some ⟨wr.heap.size, 0, none⟩)]] rfl rfl (by intro j u hj; match j, hj with | 0, hj => simp at hj; subst hj; simp [Addr.add]) (by intro u hu; simp at hu; subst hu; rfl) (by unfold maxLen; omega) (by omega) (by simp; omega) ?_) | fail)
        intro v' w2 ha
        have hown2 := ha.owns
        have hs2 : Still w w2 := ha.kept (hs.alloc _) (fun b hb h => by have := (owns_lt hown b h).1; omega)
        have hk2 : Kept (fun b => u5.ownBlock = some b) wr w2 := ha.kept ((Kept.refl _ wr).alloc _) (fun b _ h => h)
        have bX2 := bX.kept hk2 (fun h => by have := (owns_lt hown _ h).1; omega)
        have bR2 := bR.kept hk2 (fun h => by have := (owns_lt hown _ h).1; omega)
        have hR2 := forN_append HR1.out (hown.alloc _) ha
        have HR2 := Lib.hid hR2
        clear hR2
        go_wp2
        go_roundw
        case rel => exact ⟨k + 1, _, by omega, by go_num, by simp [HV.out], hown2, HR2.out, hs2, bX2, bR2⟩
        case measure => simp [intOf]; omega
    · obtain rfl : k = L := by omega
      obtain ⟨av, cv, rfl⟩ := owns_slice hown
      have hV : VRow (fun b => w.heap.size ≤ b ∧ b < wr.heap.size ∧ b ≠ w.heap.size + 1) wr (.slice av k cv) vs := (VRow.of_owns hown).inside.mono (fun b h => ⟨by omega, h.2, by omega⟩)
      have hA := acts_of hput w.heap.size (w.heap.size + 2) _ (fun b => w.heap.size ≤ b ∧ b < wr.heap.size ∧ b ≠ w.heap.size + 1) wr bX ⟨by omega, by omega, by omega⟩ (fun X h1 h2 => ⟨by omega, by omega, by omega⟩) (fun b h => h.2.1) zs vs g
        (by have := HR.out; rwa [List.take_of_length_le (by rw [← HL.out]; omega)] at this) (by rw [← HL.out]; omega)
      have HA := Lib.hid hA
      have HVR := Lib.hid hV
      clear hA hV
      go_wp2_with fail
      refine (row_any (· = .nilFunc) rfl _ hlt hI _ _ _ _ _ (f g) _ _ wr rfl HVR.out (fun b h => h.2.1) HA.out).mono ?_
      rintro e w3 ⟨d, Fp3, rfl, k3, hF3, hD⟩
      have bR3 := bR.still k3
      have f0 := bR3.free 0
      have f1 := bR3.free 1
      have c2 := bR3.cell 0
      have c3 := bR3.cell 1
      have hS := hs.trans k3
      have hF4 : ∀ b, Fp3 b → b ≠ w.heap.size + 1 ∧ w.heap.size ≤ b := fun b h => by
        rcases hF3 b h with h | h
        · exact ⟨h.2.2, h.1⟩
        · exact ⟨by omega, by omega⟩
      have HF4 := Lib.hid hF4
      have HD := Lib.hid (does_store (w.heap.size + 1) hD (fun b h => (hF4 b h).1) .nilFunc d)
      have hS4 : Still w ((w3.setCell ⟨w.heap.size + 1, 0, none⟩ .nilFunc).setCell ⟨w.heap.size + 1, 1, none⟩ d) := Kept.step hS (((only_refl (w.heap.size + 1) w3).put 0 .nilFunc).put 1 d) (fun b h e => by omega)
      have HS4 := Lib.hid hS4
      have hDC := does_cases _ _ _ hD
      clear hD hF4 hF3 hS4
      rcases hDC with rfl | ⟨F', caps', rfl⟩
      · go_wp2_with fail
        have d0 := ((bR3.set 0 .nilFunc).set 1 .nilFunc).cell 0
        have d1 := ((bR3.set 0 .nilFunc).set 1 .nilFunc).cell 1
        exact bodyPost_ret (v := .agg #[.nilFunc, .nilFunc]) (by simp [results, Try.f35, go_sem, d0, d1]) rfl ⟨_, Fp3, rfl, HS4.out, fun b h => (HF4.out b h).2, HD.out⟩
      · go_wp2_with fail
        have d0 := ((bR3.set 0 .nilFunc).set 1 (.func (.func F') #[] caps')).cell 0
        have d1 := ((bR3.set 0 .nilFunc).set 1 (.func (.func F') #[] caps')).cell 1
        exact bodyPost_ret (v := .agg #[.nilFunc, .func (.func F') #[] caps']) (by simp [results, Try.f35, go_sem, d0, d1]) rfl ⟨_, Fp3, rfl, HS4.out, fun b h => (HF4.out b h).2, HD.out⟩
theorem lawrow_any (base G : Nat) (Qz : Nat → Prop) (a : Option Addr) (len cap : Nat) (zs g : List Int) (w : World) (hz : IRow Qz w (.slice a len cap) zs) (hl : g.length + zs.length < 100000000) (hGw : G < w.heap.size) :
    Calls Try.prog 35 #[.pointer (some ⟨G, 0, none⟩), .slice a len cap] w fun e w' => ∃ d Fp', e = .returned (.agg #[.nilFunc, d]) ∧ Still w w' ∧ (∀ b, Fp' b → w.heap.size ≤ b) ∧
      Does Try.prog (· = .nilFunc) (GotI base G) g (pathOf g (pos zs)) Fp' w' d := by
  have h := lawrow_gen gotI_lt gotI_keep G (put_got base G) Qz a len cap zs g w hz hl hGw
  rw [List.map_id] at h
  exact h
end Go.Proofs.Ytojjelafkieflaa
