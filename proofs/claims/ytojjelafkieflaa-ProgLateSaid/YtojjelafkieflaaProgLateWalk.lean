/-
  What stands here: the walk of ProgLate. Under no condition but that its argument is a slice of numbers.
-/
import Derived.Test.YtojjelafkieflaaProgRef
namespace Go.Proofs.Ytojjelafkieflaa
set_option linter.unusedVariables false
set_option linter.unusedSimpArgs false
open Go.RowKit Go.Proofs

/-- what was put, how often was asked, and when -/
structure LateS where
  g : List Int
  a : Int
  s : Int
def LateI (base G A S : Nat) (x : LateS) (M : Nat → Prop) (W : World) : Prop :=
  ∃ M0, GotI base G x.g M0 W ∧ Blk W A #[.int .i64 x.a] 3 ∧ Blk W S #[.int .i64 x.s] 3 ∧ (A < base ∧ S < base ∧ A ≠ G ∧ S ≠ G ∧ A ≠ S) ∧ ∀ b, M b ↔ M0 b ∨ b = A ∨ b = S
theorem lateI_lt {base G A S : Nat} : ∀ x M W, LateI base G A S x M W → ∀ b, M b → b < W.heap.size := fun x M W h b hb => by
  obtain ⟨M0, hg, bA, bS, _, hM⟩ := h
  rcases (hM b).1 hb with h | rfl | rfl
  · exact gotI_lt _ _ _ hg b h
  · exact bA.lt
  · exact bS.lt
theorem lateI_keep {base G A S : Nat} : ∀ x M X Y, LateI base G A S x M X → Kept (fun b => ¬ M b) X Y → LateI base G A S x M Y := fun x M X Y h k => by
  obtain ⟨M0, hg, bA, bS, hd, hM⟩ := h
  exact ⟨M0, gotI_keep _ _ _ _ hg (k.mono (fun b _ hn h => hn ((hM b).2 (.inl h)))), bA.kept k (fun hn => hn ((hM A).2 (.inr (.inl rfl)))), bS.kept k (fun hn => hn ((hM S).2 (.inr (.inr rfl)))), hd, hM⟩
theorem gotI_not {base G : Nat} {g : List Int} {M : Nat → Prop} {W : World} (h : GotI base G g M W) {b : Nat} (h1 : b ≠ G) (h2 : b < base) : ¬ M b := fun hm => by
  obtain ⟨v, _, ho, _, _, hM⟩ := h
  rcases (hM b).1 hm with h | h
  · exact h1 h
  · have := (owns_lt ho b h).1; omega
theorem lateI_ge {base G A S B0 : Nat} {x : LateS} {M : Nat → Prop} {W : World} (h : LateI base G A S x M W) (hG : B0 ≤ G) (hA : B0 ≤ A) (hS : B0 ≤ S) : ∀ b, M b → B0 ≤ b := fun b hb => by
  obtain ⟨M0, hg, _, _, _, hM⟩ := h
  rcases (hM b).1 hb with h | rfl | rfl
  · exact gotI_ge hg hG b h
  · exact hA
  · exact hS
theorem put_late (base G A S : Nat) (a s : Int) : PutC (LateI base G A S) (fun g => ⟨g, a, s⟩) G := fun X0 X1 g n T0 T1 M w hg b0 b1 hi h0 h1 => by
  obtain ⟨M0, hgi, bA, bS, hd, hM⟩ := hi
  refine (put_any base G X0 X1 g n T0 T1 M0 w hg b0 b1 hgi (fun h => h0 ((hM _).2 (.inl h))) (fun h => h1 ((hM _).2 (.inl h)))).mono ?_
  rintro e w' ⟨rfl, M1, hg1, k1, hm1⟩
  have hnA := gotI_not hgi hd.2.2.1 hd.1
  have hnS := gotI_not hgi hd.2.2.2.1 hd.2.1
  refine ⟨rfl, fun b => M1 b ∨ b = A ∨ b = S, ⟨M1, hg1, bA.kept k1 hnA, bS.kept k1 hnS, hd, fun b => Iff.rfl⟩, k1.mono (fun b _ h => (hM b).2 (.inl h)), ?_⟩
  rintro b (h | h | h)
  · rcases hm1 b h with h | h
    · exact .inl ((hM b).2 (.inl h))
    · exact .inr h
  · exact .inl ((hM b).2 (.inr (.inl h)))
  · exact .inl ((hM b).2 (.inr (.inr h)))

set_option maxHeartbeats 1000000 in
theorem last_any (base G : Nat) (g : List Int) (M : Nat → Prop) (w : World) (hg : g.length < 100000000) (hgi : GotI base G g M w) :
    Calls Try.prog 37 #[.pointer (some ⟨G, 0, none⟩)] w fun e w' => e = .returned (.tuple #[]) ∧ ∃ M', GotI base G (g ++ [-7]) M' w' ∧ Kept M w w' ∧ (∀ b, M' b → M b ∨ w.heap.size ≤ b) := by
  obtain ⟨v, bG, ho, hGb, hbz, hM⟩ := hgi
  obtain ⟨i0, hi, hz0, hz1, hz2⟩ := info_parts infoInt
  have cG := bG.cell 0
  go_enter Try.func37, Try.ntmps37
  go_wp2_with (first | (at_builtin; refine wpList_append _ rfl _ _ 32 rfl base 3 i0 (.int .i64 0) 1 8 Try.underlying32 hi hz0 hz1 hz2 rfl (by decide) _ _ _ rfl (ho.alloc _) ⟨w.heap.size, 0, none⟩ 1 1 [.int .i64 (-7)] rfl rfl (by intro j u hj; match j, hj with | 0, hj => simp at hj; subst hj; simp [Addr.add]) (by intro u hu; simp at hu; subst hu; rfl) (by unfold maxLen; omega) (by omega) (by simp; omega) ?_) | fail)
  intro v' w2 hap
  have ho2 := hap.owns
  have hB2 := Lib.hid hap.block
  have hS : Kept (fun k => v.ownBlock = some k) w w2 := hap.kept (Kept.refl _ w) (fun b _ h => h)
  have hGv : ¬ v.ownBlock = some G := fun e => by have := (owns_lt ho _ e).1; omega
  have bG2 := bG.kept hS hGv
  have cG2 := bG2.cell 0
  have fG2 := bG2.free 0
  clear cG hap
  obtain ⟨av, cv, rfl⟩ := owns_slice ho2
  go_wp2_with fail
  go_end0
  have kG : Only G w2 (w2.setCell ⟨G, 0, none⟩ (.slice av (g.length + 1) cv)) := (only_refl G w2).put 0 _
  refine ⟨rfl, fun b => b = G ∨ (Value.slice av (g.length + 1) cv).ownBlock = some b, ⟨_, bG2.set 0 _, ?_, hGb, ?_, fun b => Iff.rfl⟩, ?_, ?_⟩
  · have := owns_kept ho2 kG (fun b hb _ e => by omega)
    rw [List.length_append, List.length_singleton, List.map_append]
    exact this
  · exact Nat.le_trans hbz (Nat.le_trans hS.size kG.size)
  · exact (hS.mono (fun b _ h => (hM b).2 (.inr h))).step kG (fun b _ e => (hM b).2 (.inl e))
  · rintro b (h | h)
    · exact .inl ((hM b).2 (.inl h))
    · rcases hB2.out b h with h | h
      · exact .inl ((hM b).2 (.inr h))
      · exact .inr (by simp at h; omega)

theorem last_late {base G A S : Nat} {x : LateS} {M : Nat → Prop} {w : World} (hg : x.g.length < 100000000) (hi : LateI base G A S x M w) :
    Calls Try.prog 37 #[.pointer (some ⟨G, 0, none⟩)] w fun e w' => e = .returned (.tuple #[]) ∧ ∃ M', LateI base G A S ⟨x.g ++ [-7], x.a, x.s⟩ M' w' ∧ Kept M w w' ∧ (∀ b, M' b → M b ∨ w.heap.size ≤ b) := by
  obtain ⟨M0, hgi, bA, bS, hd, hM⟩ := hi
  refine (last_any base G x.g M0 w hg hgi).mono ?_
  rintro e w' ⟨rfl, M1, hg1, k1, hm1⟩
  have hnA := gotI_not hgi hd.2.2.1 hd.1
  have hnS := gotI_not hgi hd.2.2.2.1 hd.2.1
  refine ⟨rfl, fun b => M1 b ∨ b = A ∨ b = S, ⟨M1, hg1, bA.kept k1 hnA, bS.kept k1 hnS, hd, fun b => Iff.rfl⟩, k1.mono (fun b _ h => (hM b).2 (.inl h)), ?_⟩
  rintro b (h | h | h)
  · rcases hm1 b h with h | h
    · exact .inl ((hM b).2 (.inl h))
    · exact .inr h
  · exact .inl ((hM b).2 (.inr (.inl h)))
  · exact .inl ((hM b).2 (.inr (.inr h)))

set_option maxHeartbeats 1000000 in
theorem rest_any (base G A S : Nat) (g : List Int) (hg : g.length < 1000000) (Fp : Nat → Prop) (w : World) (hFl : ∀ b, Fp b → b < w.heap.size) :
    RestC Try.prog (· = .nilFunc) (LateI base G A S) 36 #[.pointer (some ⟨A, 0, none⟩), .pointer (some ⟨G, 0, none⟩), .pointer (some ⟨S, 0, none⟩)] ⟨g, 0, -1⟩ ⟨g, 1, g.length⟩ [⟨g ++ [-7], 1, g.length⟩] Fp w := by
  refine ⟨⟨_, Try.func36, by kernel_rfl, by kernel_rfl⟩, fun W M hag hi hd => ?_⟩
  have hLt := lateI_lt _ _ _ hi
  obtain ⟨M0, hgi, bA, bS, hne, hM⟩ := hi
  obtain ⟨v, bG, ho, hGb, hbz, hM0⟩ := hgi
  simp only at bA bS bG ho
  have bA1 := bA.alloc (.cells #[.nilFunc, .nilFunc] 36)
  have cA := bA1.cell 0
  have fA := bA1.free 0
  obtain ⟨va, vc, rfl⟩ := owns_slice ho
  have bG1 := (bG.other (a := ⟨A, 0, none⟩) (Ne.symm hne.2.2.1) (.int .i64 1)).alloc (.cells #[.nilFunc, .nilFunc] 36)
  have cG := bG1.cell 0
  have bS1 := (bS.other (a := ⟨A, 0, none⟩) (Ne.symm hne.2.2.2.2) (.int .i64 1)).alloc (.cells #[.nilFunc, .nilFunc] 36)
  have cS := bS1.cell 0
  have fS := bS1.free 0
  go_enter Try.func36, Try.ntmps36
  go_wp2_with fail
  have hnA := gotI_not ⟨_, bG, ho, hGb, hbz, hM0⟩ hne.2.2.1 hne.1
  have hnS := gotI_not ⟨_, bG, ho, hGb, hbz, hM0⟩ hne.2.2.2.1 hne.2.1
  have kAS : Kept (fun b => b = A ∨ b = S) W (((W.setCell ⟨A, 0, none⟩ (.int .i64 1)).setCell ⟨S, 0, none⟩ (.int .i64 g.length)).alloc (.cells #[.nilFunc, .nilFunc] 36)) :=
    (Kept.setCell (p := ⟨S, 0, none⟩) (Kept.setCell (p := ⟨A, 0, none⟩) (Kept.refl _ W) (fun _ => .inl rfl) _) (fun _ => .inr rfl) _).alloc _
  have k4 := kAS.alloc (.cells #[.func (.func 37) #[] #[.pointer (some ⟨G, 0, none⟩)]] 1)
  have bR := (Blk.newAt ((W.setCell ⟨A, 0, none⟩ (.int .i64 1)).setCell ⟨S, 0, none⟩ (.int .i64 g.length)) #[.nilFunc, .nilFunc] 36 (n := W.heap.size) (by simp)).alloc (.cells #[.func (.func 37) #[] #[.pointer (some ⟨G, 0, none⟩)]] 1)
  have bF := Blk.newAt (((W.setCell ⟨A, 0, none⟩ (.int .i64 1)).setCell ⟨S, 0, none⟩ (.int .i64 g.length)).alloc (.cells #[.nilFunc, .nilFunc] 36)) #[.func (.func 37) #[] #[.pointer (some ⟨G, 0, none⟩)]] 1 (n := W.heap.size + 1) (by simp)
  have bA4 := ((((bA.set 0 (.int .i64 1)).other (a := ⟨S, 0, none⟩) hne.2.2.2.2 (.int .i64 g.length)).alloc (.cells #[.nilFunc, .nilFunc] 36)).alloc (.cells #[.func (.func 37) #[] #[.pointer (some ⟨G, 0, none⟩)]] 1)).cast (c' := #[.int .i64 1]) (by simp)
  have bS4 := ((((bS.other (a := ⟨A, 0, none⟩) (Ne.symm hne.2.2.2.2) (.int .i64 1)).set 0 (.int .i64 g.length)).alloc (.cells #[.nilFunc, .nilFunc] 36)).alloc (.cells #[.func (.func 37) #[] #[.pointer (some ⟨G, 0, none⟩)]] 1)).cast (c' := #[.int .i64 g.length]) (by simp)
  have hg4 := gotI_keep _ _ _ _ ⟨_, bG, ho, hGb, hbz, hM0⟩ (k4.mono (fun b _ h hm => by rcases h with rfl | rfl; exact hnA hm; exact hnS hm))
  clear bA1 cA fA bG1 cG bS1 cS fS kAS
  generalize (((W.setCell ⟨A, 0, none⟩ (.int .i64 1)).setCell ⟨S, 0, none⟩ (.int .i64 g.length)).alloc (.cells #[.nilFunc, .nilFunc] 36)).alloc (.cells #[.func (.func 37) #[] #[.pointer (some ⟨G, 0, none⟩)]] 1) = W4 at *
  have hFz := bF.lt
  have hi4 : LateI base G A S ⟨g, 1, g.length⟩ M W4 := ⟨M0, hg4, bA4, bS4, hne, hM⟩
  have hV : VRow (fun b => b = W.heap.size + 1) W4 (.slice (some ⟨W.heap.size + 1, 0, none⟩) 1 1) [.func (.func 37) #[] #[.pointer (some ⟨G, 0, none⟩)]] :=
    ⟨_, _, rfl, by simp, by unfold maxLen; omega, fun _ => ⟨_, _, rfl, hFz, rfl, fun j hj => by rw [bF.cell, Nat.zero_add]; simp⟩⟩
  have hA : Acts Try.prog (LateI base G A S) [.func (.func 37) #[] #[.pointer (some ⟨G, 0, none⟩)]] ⟨g, 1, g.length⟩ [⟨g ++ [-7], 1, g.length⟩] (fun b => b = W.heap.size + 1) W4 := by
    refine .inr ⟨_, _, _, _, rfl, rfl, ⟨_, Try.func37, by kernel_rfl, by kernel_rfl⟩, fun X M2 hag2 hi2 hd2 => ?_, rfl⟩
    refine (last_late (x := ⟨g, 1, g.length⟩) (by simp only; omega) hi2).mono ?_
    rintro e X' ⟨rfl, M3, hi3, k3, hm3⟩
    refine ⟨rfl, M3, hi3, k3, hm3, fun b h => .inl h, fun b hb hm => ?_⟩
    rcases hm3 b hm with h | h
    · exact hd2 b hb h
    · have := hag2.size; omega
  refine (row_any (· = .nilFunc) rfl _ lateI_lt lateI_keep _ _ _ _ _ _ _ _ _ rfl hV (fun b e => by subst e; exact hFz) hA).mono ?_
  rintro e w5 ⟨d, Fp3, rfl, k5, hF3, hD⟩
  have hz4 := k4.size
  have hz5 := k5.size
  have hF4 : ∀ b, Fp3 b → W.heap.size + 1 ≤ b := fun b h => by
    rcases hF3 b h with h | h <;> omega
  have bR5 := bR.still k5
  have f0 := bR5.free 0
  have f1 := bR5.free 1
  have c2 := bR5.cell 0
  have c3 := bR5.cell 1
  have kw := ((only_refl W.heap.size w5).put 0 .nilFunc).put 1 d
  have hRM : ¬ M W.heap.size := fun h => by have := hLt _ h; omega
  have HD := Lib.hid (does_store W.heap.size hD (fun b h => by have := hF4 b h; omega) .nilFunc d)
  have HI6 := Lib.hid (lateI_keep _ _ _ _ (lateI_keep _ _ _ _ hi4 (k5.mono (fun _ _ f => f.elim))) (kw.mono (fun b _ e hm => by subst e; exact hRM hm)))
  have HM : Hid (Moved M M Fp Fp3 W ((w5.setCell ⟨W.heap.size, 0, none⟩ .nilFunc).setCell ⟨W.heap.size, 1, none⟩ d)) := Lib.hid
    ⟨((k4.mono (fun b _ h => (hM b).2 (.inr h))).of_still k5).step kw (fun b hb e => by omega), fun b h => .inl h, fun b h => .inr (by have := hF4 b h; omega), fun b h hm => by have := hF4 b h; have := hLt b hm; omega⟩
  have hDC := does_cases _ _ _ hD
  clear hD hA hV
  rcases hDC with rfl | ⟨F', caps', rfl⟩
  · go_wp2_with fail
    have d0 := ((bR5.set 0 .nilFunc).set 1 .nilFunc).cell 0
    have d1 := ((bR5.set 0 .nilFunc).set 1 .nilFunc).cell 1
    exact bodyPost_ret (v := .agg #[.nilFunc, .nilFunc]) (by simp [results, Try.f36, go_sem, d0, d1]) rfl ⟨_, _, M, Fp3, rfl, HI6.out, HM.out, mayOk_nil rfl _, HD.out⟩
  · go_wp2_with fail
    have d0 := ((bR5.set 0 .nilFunc).set 1 (.func (.func F') #[] caps')).cell 0
    have d1 := ((bR5.set 0 .nilFunc).set 1 (.func (.func F') #[] caps')).cell 1
    exact bodyPost_ret (v := .agg #[.nilFunc, (.func (.func F') #[] caps')]) (by simp [results, Try.f36, go_sem, d0, d1]) rfl ⟨_, _, M, Fp3, rfl, HI6.out, HM.out, mayOk_nil rfl _, HD.out⟩

theorem lastS_map {σ τ : Type} (f : σ → τ) : ∀ (l : List σ) (s : σ), lastS (f s) (l.map f) = f (lastS s l)
  | [], _ => rfl
  | x :: l, _ => lastS_map f l x
theorem lastS_then {σ : Type} : ∀ (l : List σ) (s t : σ) (p : List σ), lastS (thenS s l t) (thenP l t p) = lastS t p
  | [], _, _, _ => rfl
  | x :: l, s, t, p => lastS_then l x t p
theorem len_then {σ : Type} : ∀ (l : List σ) (t : σ) (p : List σ), (thenP l t p).length = l.length + p.length
  | [], _, _ => by simp [thenP]
  | x :: l, t, p => by simp [thenP, len_then l t p]; omega
theorem len_path : ∀ (zs g : List Int), (pathOf g zs).length = zs.length
  | [], _ => rfl
  | z :: zs, g => by simp [pathOf, len_path zs]

set_option maxHeartbeats 4000000 in
theorem progLate_walk (a0 : Option Addr) (len0 cap0 : Nat) (z0 : List Int) (w : World) (w0 : IsRow .i64 w a0 len0 cap0 z0) :
    Calls Try.prog 8 #[.slice a0 len0 cap0] w fun e w' => e = .returned (.bool true) ∧ Below w.heap.size w w' := by
  have hz := (VRow.inside (IRow.of_is w0)).mono (R := fun b => b < w.heap.size) (fun b h => h.2)
  have hle := w0.le
  unfold maxLen at hle
  clear w0
  obtain ⟨zs, hzs⟩ : ∃ zs, zs = z0.take len0 := ⟨_, rfl⟩
  rw [← hzs] at hz
  have HZ := Lib.hid hz
  have hlz : len0 = zs.length := (IRow.cells hz).1
  have HLZ := Lib.hid hlz
  clear hz hzs hlz
  by_cases h30 : 30 < len0
  · go_enter Try.func8, Try.ntmps8
    go_wp2_with fail
    refine (alive_any _).mono ?_
    rintro e w1 ⟨rfl, k1⟩
    go_wp2_with fail
    go_ret
    exact ⟨rfl, k1⟩
  · go_enter Try.func8, Try.ntmps8
    go_wp2_with fail
    refine (alive_any _).mono ?_
    rintro e w1 ⟨rfl, k1⟩
    go_wp2_with fail
    have hs1 := k1.size
    have bG := ((Blk.new w1 #[.slice none 0 0] 32).alloc (.cells #[.int .i64 0] 3)).alloc (.cells #[.int .i64 (-1)] 3)
    have bA := (Blk.newAt (w1.alloc (.cells #[.slice none 0 0] 32)) #[.int .i64 0] 3 (n := w1.heap.size + 1) (by simp)).alloc (.cells #[.int .i64 (-1)] 3)
    have bS := Blk.newAt ((w1.alloc (.cells #[.slice none 0 0] 32)).alloc (.cells #[.int .i64 0] 3)) #[.int .i64 (-1)] 3 (n := w1.heap.size + 1 + 1) (by simp)
    have kA : Below w.heap.size w (((w1.alloc (.cells #[.slice none 0 0] 32)).alloc (.cells #[.int .i64 0] 3)).alloc (.cells #[.int .i64 (-1)] 3)) :=
      below_still k1 ((((still_refl w1).alloc _).alloc _).alloc _) (Nat.le_refl _)
    generalize ((w1.alloc (.cells #[.slice none 0 0] 32)).alloc (.cells #[.int .i64 0] 3)).alloc (.cells #[.int .i64 (-1)] 3) = w2 at *
    generalize hG : w1.heap.size = G at *
    have hzS := bS.lt
    have hs2 := kA.size
    have hG0 : GotI w2.heap.size G [] (fun b => b = G ∨ (Value.slice none 0 0).ownBlock = some b) w2 := ⟨_, bG, World.ownsRow_nil _ _ _ _, by omega, Nat.le_refl _, fun b => Iff.rfl⟩
    have hi2 : LateI w2.heap.size G (G + 1) (G + 1 + 1) ⟨[], 0, -1⟩ (fun b => (b = G ∨ (Value.slice none 0 0).ownBlock = some b) ∨ b = G + 1 ∨ b = G + 1 + 1) w2 := ⟨_, hG0, bA, bS, by omega, fun b => Iff.rfl⟩
    have hMlt := lateI_lt _ _ _ hi2
    have hMge : ∀ b, ((b = G ∨ (Value.slice none 0 0).ownBlock = some b) ∨ b = G + 1 ∨ b = G + 1 + 1) → w.heap.size ≤ b := fun b h => by
      rcases h with (h | h) | h | h
      · omega
      · simp [Value.ownBlock] at h
      · omega
      · omega
    obtain ⟨M, hM⟩ : ∃ M, M = (fun b => (b = G ∨ (Value.slice none 0 0).ownBlock = some b) ∨ b = G + 1 ∨ b = G + 1 + 1) := ⟨_, rfl⟩
    rw [← hM] at hi2
    have hMlt' : ∀ b, M b → b < w2.heap.size := by rw [hM]; exact hMlt
    have hMge' : ∀ b, M b → w.heap.size ≤ b := by rw [hM]; exact hMge
    have HI2 := Lib.hid hi2
    have hpl : (pos zs).length ≤ zs.length := List.length_filter_le _ _
    clear hM hMlt hMge hG0 bG bA bS hi2
    refine (lawrow_gen lateI_lt lateI_keep G (put_late w2.heap.size G (G + 1) (G + 1 + 1) 0 (-1)) (fun b => b < w.heap.size) a0 len0 cap0 zs [] w2 (HZ.out.keep (kept_of_below kA) (fun b hb _ => by omega)) (by rw [← HLZ.out]; simp only [List.length_nil]; omega) (by omega)).mono ?_
    rintro e w3 ⟨d0, Fd, rfl, k3, hFd, hD⟩
    have HD := Lib.hid hD
    clear hD
    have hs3 := k3.size
    go_wp2_with fail
    have hR := rest_any w2.heap.size G (G + 1) (G + 1 + 1) (pos zs) (by rw [← HLZ.out] at hpl; omega) (fun _ => False) w3 (fun _ f => f.elim)
    have hlast : lastS (⟨[], 0, -1⟩ : LateS) ((pathOf [] (pos zs)).map fun g => ⟨g, 0, -1⟩) = ⟨pos zs, 0, -1⟩ := by
      rw [lastS_map (fun g => (⟨g, 0, -1⟩ : LateS)) (pathOf [] (pos zs)) [], (pathOf_then [] (pos zs) []).2.2]; rfl
    refine (then_any (· = .nilFunc) (LateI w2.heap.size G (G + 1) (G + 1 + 1)) lateI_lt lateI_keep ((pathOf [] (pos zs)).map fun g => ⟨g, 0, -1⟩) ⟨[], 0, -1⟩ ⟨pos zs, 1, (pos zs).length⟩ [⟨pos zs ++ [-7], 1, (pos zs).length⟩] .nilFunc d0 Fd (fun _ => False) M _ _ w3 (mayOk_nil rfl _) HD.out
      (by rw [hlast]; exact hR) (fun b f => f.elim) (fun b h hm => by have := hFd b h; have := hMlt' b hm; omega) (fun b f => f.elim) (lateI_keep _ _ _ _ HI2.out (k3.mono (fun _ _ f => f.elim)))).mono ?_
    rintro e w4 ⟨may, d, M4, Fp4, rfl, hi4, mv, hq4, hD4⟩
    have hlast4 := lastS_then ((pathOf [] (pos zs)).map fun g => (⟨g, 0, -1⟩ : LateS)) ⟨[], 0, -1⟩ ⟨pos zs, 1, (pos zs).length⟩ [⟨pos zs ++ [-7], 1, (pos zs).length⟩]
    have hlen4 := len_then ((pathOf [] (pos zs)).map fun g => (⟨g, 0, -1⟩ : LateS)) ⟨pos zs, 1, (pos zs).length⟩ [⟨pos zs ++ [-7], 1, (pos zs).length⟩]
    have hs0 : thenS (⟨[], 0, -1⟩ : LateS) ((pathOf [] (pos zs)).map fun g => (⟨g, 0, -1⟩ : LateS)) ⟨pos zs, 1, (pos zs).length⟩ = if pos zs = [] then ⟨pos zs, 1, (pos zs).length⟩ else ⟨[], 0, -1⟩ := by
      cases hp : pos zs with
      | nil => rfl
      | cons z r => rfl
    generalize thenS (⟨[], 0, -1⟩ : LateS) ((pathOf [] (pos zs)).map fun g => (⟨g, 0, -1⟩ : LateS)) ⟨pos zs, 1, (pos zs).length⟩ = s0 at *
    generalize thenP ((pathOf [] (pos zs)).map fun g => (⟨g, 0, -1⟩ : LateS)) ⟨pos zs, 1, (pos zs).length⟩ [⟨pos zs ++ [-7], 1, (pos zs).length⟩] = path at *
    simp only [List.length_map, len_path, List.length_cons, List.length_nil] at hlen4
    simp only [lastS] at hlast4
    have hs4 := mv.kept.size
    have hk4 : Below w.heap.size w w4 := below_step (below_still kA k3 (Nat.le_refl _)) mv.kept (Nat.le_refl _) (fun i hi h => by have := hMge' i h; omega)
    have HD4 := Lib.hid hD4
    have HL4 := Lib.hid hlen4
    have HS4 := Lib.hid hlast4
    have HS0 := Lib.hid hs0
    have hpne : path ≠ [] := by intro e; rw [e] at hlen4; simp at hlen4
    obtain rfl := hq4.2 hpne
    obtain ⟨F, fcaps, rfl⟩ : ∃ F caps, d = .func (.func F) #[] caps := by
      match path, hpne, hD4 with
      | s' :: l, _, hD4 => obtain ⟨_, F, caps, hd, _⟩ := hD4; exact ⟨F, caps, hd⟩
    have hap := mv.apart
    clear hD4 hlen4 hlast4 hs0 hR hlast hq4 mv
    go_wp2_with fail
    have ka : Still w4 (w4.alloc (.cells #[.nilFunc, .func (.func F) #[] fcaps] 36)) := (still_refl w4).alloc _
    have hi5 := lateI_keep _ _ _ _ hi4 (ka.mono (fun _ _ f => f.elim))
    have HD5 : Hid (Does Try.prog (· = .nilFunc) (LateI w2.heap.size G (G + 1) (G + 1 + 1)) s0 path Fp4 (w4.alloc (.cells #[.nilFunc, .func (.func F) #[] fcaps] 36)) (.func (.func F) #[] fcaps)) := Lib.hid (by
      match path, hpne, HD4.out with
      | s' :: l, _, hD => exact does_agree _ _ _ hD (Agree.of_kept ka (fun _ _ f => f) hD.1))
    refine (going_new (· = .nilFunc) _ lateI_lt lateI_keep .nilFunc _ s0 path M4 Fp4 _ (mayOk_nil rfl _) HD5.out hi5 hap).mono ?_
    rintro e w5 ⟨p, hp5, rfl, k5, Fp5, hF5, hg5⟩
    rw [World.size_alloc] at hp5
    have hk5 : Below w.heap.size w w5 := below_still hk4 (ka.trans k5) (Nat.le_refl _)
    have HG5 := Lib.hid hg5
    clear hg5 hi5 hi4 HD4 HD5
    go_wp2_with fail
    have hlen2 : (zs.map (Value.int .i64)).length = len0 := by rw [List.length_map, HLZ.out]
    have hPt : Parts (fun _ => True) (w5.alloc (.cells #[.slice a0 len0 cap0] 32)) (.slice (some ⟨w5.heap.size, 0, none⟩) 1 1) [.slice a0 len0 cap0] [zs] :=
      ⟨⟨_, _, rfl, by simp, by unfold maxLen; omega, fun _ => ⟨_, _, rfl, by simp, trivial, fun j hj => by rw [(Blk.new w5 _ _).cell, Nat.zero_add]; simp⟩⟩,
       ⟨((HZ.out.keep (kept_of_below hk5) (fun b hb _ => by omega)).still ((still_refl w5).alloc _)).mono (fun _ _ => trivial), trivial⟩⟩
    refine (refrow_any _ _ [zs] _ 1 1 _ hPt (by simp) (fun q hq => by simp only [List.mem_singleton] at hq; subst hq; rw [← HLZ.out]; omega)).mono ?_
    rintro e w6 ⟨⟨want, rfl, hw6⟩, k6⟩
    rw [World.size_alloc] at hw6 k6
    obtain ⟨wa, wc, rfl⟩ := VRow.len hw6
    rw [List.length_map]
    simp only [List.flatten_cons, List.flatten_nil, List.append_nil]
    obtain ⟨W, hW⟩ : ∃ W, W = pos zs := ⟨_, rfl⟩
    rw [← hW] at hpl HL4 HS4 HS0 ⊢
    have hWl : W.length ≤ 30 := by rw [← HLZ.out] at hpl; omega
    have hFp5 : ∀ b, Fp5 b → b < w5.heap.size := by
      obtain ⟨_, _, _, _, hD⟩ := HG5.out.blk
      match path, hpne, hD with
      | s' :: l, _, hD => exact hD.1
    have hp5' : p < w5.heap.size := by obtain ⟨_, _, hb, _⟩ := HG5.out.blk; exact hb.lt
    have kk : Kept (fun b => w5.heap.size ≤ b) w5 w6 := Kept.step ((Kept.refl _ w5).alloc (.cells #[.slice a0 len0 cap0] 32)) (kept_of_below k6) (fun i hi h => by omega)
    have HG6 := Lib.hid (going_kept lateI_keep HG5.out kk (fun b hb h => by have := lateI_lt _ _ _ HG5.out.st b hb; omega) (fun b hb h => by have := hFp5 b hb; omega) (by omega))
    have hk6 : Below w.heap.size w w6 := below_step hk5 kk (Nat.le_refl _) (fun i hi h => by have := hk5.size; omega)
    obtain ⟨_, _, bA6, _, _, _⟩ := HG6.out.st
    have cA6 := bA6.cell 0
    clear hPt hw6 HG5 k6 kk hFp5 hW hlen2 hFd HD HI2 bA6
    by_cases hWe : W = []
    · have hs0 := HS0.out
      rw [if_pos hWe] at hs0
      subst hs0
      obtain ⟨m, hm⟩ : ∃ m, m = W.length := ⟨_, rfl⟩
      have hm0 : m = 0 := by rw [hm, hWe]; rfl
      rw [← hm]
      have HMW := Lib.hid hm
      subst hm0
      clear hm hWe HS0
      go_wp2_with fail
      go_loopw [9] (fun i wr => ∃ (k : Nat) (M Fp : Nat → Prop) (s : LateS) (l : List LateS) (j : Int), k ≤ 40 ∧ i = .int .i64 k ∧ Going (· = .nilFunc) (LateI w2.heap.size G (G + 1) (G + 1 + 1)) p j s l M Fp wr ∧ (lastS s l = ⟨W ++ [-7], 1, W.length⟩ ∧ l.length ≤ 31 - k) ∧ (0 ≤ j ∧ j ≤ k) ∧
      Below w.heap.size w wr) (fun i _ => 40 - (intOf i).toNat)
      case atStart => exact ⟨0, M4, Fp5, _, path, 0, by omega, rfl, HG6.out, ⟨HS4.out, by rw [HL4.out]; omega⟩, by omega, hk6⟩
      case round =>
        obtain ⟨k, M, Fp, s, l, j, hk, rfl, hg, hll, hj, hbel⟩ := hrel
        have HG := Lib.hid hg
        have HLL := Lib.hid hll
        clear hg hll
        by_cases hlt : k < 40
        · match l, HG, HLL with
          | [], HG, HLL =>
            go_wp2_with fail
            refine (going_stop HG.out).mono ?_
            rintro e v1 ⟨rfl, s1⟩
            go_wp2_with fail
            go_roundw
            case rel => exact ⟨k + 1, M, Fp, s, [], j, by omega, by go_num, going_still lateI_keep HG.out s1, ⟨HLL.out.1, by simp⟩, by omega, below_still hbel s1 (Nat.le_refl _)⟩
            case measure => simp [intOf]; omega
          | s' :: l, HG, HLL =>
            go_wp2_with fail
            refine (going_step lateI_lt lateI_keep (by omega) HG.out).mono ?_
            rintro e v1 ⟨rfl, M1, Fp1, hg1, k1', hm1⟩
            have HG1 := Lib.hid hg1
            clear hg1
            go_wp2_with fail
            go_roundw
            case rel =>
              refine ⟨k + 1, M1, Fp1, s', l, j + 1, by omega, by go_num, HG1.out, ⟨HLL.out.1, by have := HLL.out.2; simp only [List.length_cons] at this; omega⟩, by omega, below_step hbel k1' (Nat.le_refl _) (fun i hi h => ?_)⟩
              rcases h with h | h
              · have := lateI_ge (B0 := w.heap.size) HG.out.st (by omega) (by omega) (by omega) i h; omega
              · omega
            case measure => simp [intOf]; omega
        · obtain rfl : k = 40 := by omega
          have hl0 : l = [] := List.eq_nil_of_length_eq_zero (by have := HLL.out.2; omega)
          subst hl0
          have hs : s = ⟨W ++ [-7], 1, W.length⟩ := HLL.out.1
          subst hs
          obtain ⟨M0, hgi, bA, bS, _, _⟩ := HG.out.st
          obtain ⟨gv, bGr, hgo, _, _, _⟩ := hgi
          obtain ⟨ga, gc, rfl⟩ := owns_slice hgo
          have hrow : IRow (fun b => w2.heap.size ≤ b) wr (.slice ga (W ++ [-7]).length gc) (W ++ [-7]) := VRow.of_owns hgo
          obtain ⟨_, _, hrc⟩ := hrow.cells
          obtain ⟨b, o, rfl, _, _, hc⟩ := hrc (by simp)
          have c7 := hc W.length (by simp)
          have c8 : List.getD (W ++ [(-7 : Int)]) W.length 0 = -7 := by simp [List.getD_eq_getElem?_getD]
          rw [c8] at c7
          clear c8
          have cG := bGr.cell 0
          have cA := bA.cell 0
          have cS := bS.cell 0
          rw [List.length_append, List.length_singleton] at cG
          clear hc hrc hrow hgo bGr bA bS HLL
          simp only [] at cA cS
          have hw0 := HMW.out
          rw [← hw0] at cS cG c7
          rw [Nat.add_zero] at c7
          rw [Nat.zero_add] at cG
          clear hw0
          go_wp2_with fail
          refine (going_done HG.out).mono ?_
          rintro e v1 ⟨rfl, rfl⟩
          go_wp2_with fail
          go_ret
          exact ⟨rfl, hbel⟩
    · have hs0 := HS0.out
      rw [if_neg hWe] at hs0
      subst hs0
      have hm0 : 0 < W.length := List.length_pos_iff.2 hWe
      clear hWe HS0
      go_wp2_with fail
      go_loopw [9] (fun i wr => ∃ (k : Nat) (M Fp : Nat → Prop) (s : LateS) (l : List LateS) (j : Int), k ≤ 40 ∧ i = .int .i64 k ∧ Going (· = .nilFunc) (LateI w2.heap.size G (G + 1) (G + 1 + 1)) p j s l M Fp wr ∧ (lastS s l = ⟨W ++ [-7], 1, W.length⟩ ∧ l.length ≤ 31 - k) ∧ (0 ≤ j ∧ j ≤ k) ∧
      Below w.heap.size w wr) (fun i _ => 40 - (intOf i).toNat)
      case atStart => exact ⟨0, M4, Fp5, _, path, 0, by omega, rfl, HG6.out, ⟨HS4.out, by rw [HL4.out]; omega⟩, by omega, hk6⟩
      case round =>
        obtain ⟨k, M, Fp, s, l, j, hk, rfl, hg, hll, hj, hbel⟩ := hrel
        have HG := Lib.hid hg
        have HLL := Lib.hid hll
        clear hg hll
        by_cases hlt : k < 40
        · match l, HG, HLL with
          | [], HG, HLL =>
            go_wp2_with fail
            refine (going_stop HG.out).mono ?_
            rintro e v1 ⟨rfl, s1⟩
            go_wp2_with fail
            go_roundw
            case rel => exact ⟨k + 1, M, Fp, s, [], j, by omega, by go_num, going_still lateI_keep HG.out s1, ⟨HLL.out.1, by simp⟩, by omega, below_still hbel s1 (Nat.le_refl _)⟩
            case measure => simp [intOf]; omega
          | s' :: l, HG, HLL =>
            go_wp2_with fail
            refine (going_step lateI_lt lateI_keep (by omega) HG.out).mono ?_
            rintro e v1 ⟨rfl, M1, Fp1, hg1, k1', hm1⟩
            have HG1 := Lib.hid hg1
            clear hg1
            go_wp2_with fail
            go_roundw
            case rel =>
              refine ⟨k + 1, M1, Fp1, s', l, j + 1, by omega, by go_num, HG1.out, ⟨HLL.out.1, by have := HLL.out.2; simp only [List.length_cons] at this; omega⟩, by omega, below_step hbel k1' (Nat.le_refl _) (fun i hi h => ?_)⟩
              rcases h with h | h
              · have := lateI_ge (B0 := w.heap.size) HG.out.st (by omega) (by omega) (by omega) i h; omega
              · omega
            case measure => simp [intOf]; omega
        · obtain rfl : k = 40 := by omega
          have hl0 : l = [] := List.eq_nil_of_length_eq_zero (by have := HLL.out.2; omega)
          subst hl0
          have hs : s = ⟨W ++ [-7], 1, W.length⟩ := HLL.out.1
          subst hs
          obtain ⟨M0, hgi, bA, bS, _, _⟩ := HG.out.st
          obtain ⟨gv, bGr, hgo, _, _, _⟩ := hgi
          obtain ⟨ga, gc, rfl⟩ := owns_slice hgo
          have hrow : IRow (fun b => w2.heap.size ≤ b) wr (.slice ga (W ++ [-7]).length gc) (W ++ [-7]) := VRow.of_owns hgo
          obtain ⟨_, _, hrc⟩ := hrow.cells
          obtain ⟨b, o, rfl, _, _, hc⟩ := hrc (by simp)
          have c7 := hc W.length (by simp)
          have c8 : List.getD (W ++ [(-7 : Int)]) W.length 0 = -7 := by simp [List.getD_eq_getElem?_getD]
          rw [c8] at c7
          clear c8
          have cG := bGr.cell 0
          have cA := bA.cell 0
          have cS := bS.cell 0
          rw [List.length_append, List.length_singleton] at cG
          clear hc hrc hrow hgo bGr bA bS HLL
          simp only [] at cA cS
          go_wp2_with fail
          refine (going_done HG.out).mono ?_
          rintro e v1 ⟨rfl, rfl⟩
          go_wp2_with fail
          go_ret
          exact ⟨rfl, hbel⟩
end Go.Proofs.Ytojjelafkieflaa
