/-
  What stands here: the document's example of a program holds. Under no condition.
-/
import Derived.Test.YtojjelafkieflaaStageProg
namespace Go.Proofs.Ytojjelafkieflaa
set_option linter.unusedVariables false
set_option linter.unusedSimpArgs false
open Go.RowKit Go.Proofs

/-- the state is what the cell of block S holds -/
def CellI (S : Nat) (T : TypeId) (x : Value) (M : Nat → Prop) (W : World) : Prop := (∀ b, M b ↔ b = S) ∧ Blk W S #[x] T
theorem cellI_lt {S : Nat} {T : TypeId} : ∀ x M W, CellI S T x M W → ∀ b, M b → b < W.heap.size := fun x M W h b hb => by
  obtain rfl := (h.1 b).1 hb; exact h.2.lt
theorem cellI_keep {S : Nat} {T : TypeId} : ∀ x M A B, CellI S T x M A → Kept (fun b => ¬ M b) A B → CellI S T x M B := fun x M A B h k =>
  ⟨h.1, h.2.kept k (fun hn => hn ((h.1 S).2 rfl))⟩
theorem cellI_only {S : Nat} {T : TypeId} {x y : Value} {M Fp : Nat → Prop} {A B : World} (h : CellI S T x M A) (hd : ∀ b, Fp b → ¬ M b) (k : Only S A B) (hb : Blk B S #[y] T) : CellI S T y M B ∧ Moved M M Fp Fp A B :=
  ⟨⟨h.1, hb⟩, k.mono (fun b _ e => (h.1 b).2 e), fun b h => .inl h, fun b h => .inl h, hd⟩

def strA : ByteArray := ⟨#[97]⟩
def strAB : ByteArray := ⟨#[97, 98]⟩
theorem alive1_any (S : Nat) (T : TypeId) (w : World) (hb : Blk w S #[.string ⟨#[]⟩] T) :
    Calls Try.prog 49 #[.pointer (some ⟨S, 0, none⟩)] w fun e w' => e = .returned (.tuple #[]) ∧ Only S w w' ∧ Blk w' S #[.string strA] T := by
  have c0 := hb.cell 0
  have f0 := hb.free 0
  go_enter Try.func49, Try.ntmps49
  go_wp2
  go_end0
  exact ⟨rfl, (only_refl S w).put _ _, hb.set 0 _⟩
theorem alive2_any (S : Nat) (T : TypeId) (w : World) (hb : Blk w S #[.string strA] T) :
    Calls Try.prog 50 #[.pointer (some ⟨S, 0, none⟩)] w fun e w' => e = .returned (.tuple #[]) ∧ Only S w w' ∧ Blk w' S #[.string strAB] T := by
  have c0 := hb.cell 0
  have f0 := hb.free 0
  unfold strA at c0
  go_enter Try.func50, Try.ntmps50
  go_wp2
  go_end0
  exact ⟨rfl, (only_refl S w).put _ _, hb.set 0 _⟩

set_option maxHeartbeats 1000000 in
theorem alive_any (w : World) : Calls Try.prog 16 #[] w fun e w' => e = .returned (.bool true) ∧ Below w.heap.size w w' := by
  go_enter Try.func16, Try.ntmps16
  go_wp2_with fail
  have bS := (Blk.new w #[.string ⟨#[]⟩] 9).alloc (.cells #[.func (.func 49) #[] #[.pointer (some ⟨w.heap.size, 0, none⟩)], .func (.func 50) #[] #[.pointer (some ⟨w.heap.size, 0, none⟩)]] 1)
  have bR := Blk.newAt (w.alloc (.cells #[.string ⟨#[]⟩] 9)) #[.func (.func 49) #[] #[.pointer (some ⟨w.heap.size, 0, none⟩)], .func (.func 50) #[] #[.pointer (some ⟨w.heap.size, 0, none⟩)]] 1 (n := w.heap.size + 1) (by simp)
  have hk : Below w.heap.size w _ := ((Below.refl _ w).alloc (Nat.le_refl _) (.cells #[.string ⟨#[]⟩] 9)).alloc (by simp) (.cells #[.func (.func 49) #[] #[.pointer (some ⟨w.heap.size, 0, none⟩)], .func (.func 50) #[] #[.pointer (some ⟨w.heap.size, 0, none⟩)]] 1)
  generalize (w.alloc (.cells #[.string ⟨#[]⟩] 9)).alloc (.cells #[.func (.func 49) #[] #[.pointer (some ⟨w.heap.size, 0, none⟩)], .func (.func 50) #[] #[.pointer (some ⟨w.heap.size, 0, none⟩)]] 1) = w1 at *
  have hz1 := bR.lt
  have hv : VRow (fun b => b = w.heap.size + 1) w1 (.slice (some ⟨w.heap.size + 1, 0, none⟩) 2 2) [.func (.func 49) #[] #[.pointer (some ⟨w.heap.size, 0, none⟩)], .func (.func 50) #[] #[.pointer (some ⟨w.heap.size, 0, none⟩)]] :=
    ⟨_, _, rfl, by simp, by unfold maxLen; omega, fun _ => ⟨_, _, rfl, hz1, rfl, fun j hj => by rw [bR.cell, Nat.zero_add]; simp⟩⟩
  have hA : Acts Try.prog (CellI w.heap.size 9) [.func (.func 49) #[] #[.pointer (some ⟨w.heap.size, 0, none⟩)], .func (.func 50) #[] #[.pointer (some ⟨w.heap.size, 0, none⟩)]] (.string ⟨#[]⟩) [.string strA, .string strAB] (fun b => b = w.heap.size + 1) w1 := by
    refine .inr ⟨_, _, _, _, rfl, rfl, ⟨_, Try.func49, by kernel_rfl, by kernel_rfl⟩, fun W M _ hi hd => ?_, .inr ⟨_, _, _, _, rfl, rfl, ⟨_, Try.func50, by kernel_rfl, by kernel_rfl⟩, fun W M _ hi hd => ?_, rfl⟩⟩
    · refine (alive1_any _ _ _ hi.2).mono ?_
      rintro e W' ⟨rfl, k, b⟩
      exact ⟨rfl, M, cellI_only hi hd k b⟩
    · refine (alive2_any _ _ _ hi.2).mono ?_
      rintro e W' ⟨rfl, k, b⟩
      exact ⟨rfl, M, cellI_only hi hd k b⟩
  refine (row_any (· = .nilFunc) rfl _ cellI_lt cellI_keep _ _ _ _ _ _ _ _ _ rfl hv (fun b e => by subst e; exact hz1) hA).mono ?_
  rintro e w2 ⟨d, Fp, rfl, k2, hF, hD⟩
  have bS2 := bS.still k2
  have hi2 : CellI w.heap.size 9 (.string ⟨#[]⟩) (fun b => b = w.heap.size) w2 := ⟨fun b => Iff.rfl, bS2⟩
  have hFs : ∀ b, Fp b → ¬ b = w.heap.size := fun b h e => by (rcases hF b h with h | h; omega; omega)
  have hDD := Lib.hid hD
  clear hD hA hv
  go_wp2_with fail
  refine (going_new (· = .nilFunc) _ cellI_lt cellI_keep .nilFunc d _ _ (fun b => b = w.heap.size) Fp w2 (mayOk_nil rfl _) hDD.out hi2 hFs).mono ?_
  rintro e w3 ⟨p, hp, rfl, k3, Fp3, hF3, hg⟩
  have hpz : w.heap.size < p := by have := k2.size; omega
  have hk3 : Below w.heap.size w w3 := below_still hk (k2.trans k3) (Nat.le_refl _)
  clear hDD
  have HG := Lib.hid hg
  clear hg
  go_wp2_with fail
  refine (going_done HG.out).mono ?_
  rintro e w4 ⟨rfl, rfl⟩
  go_wp2_with fail
  refine (going_step cellI_lt cellI_keep (by omega) HG.out).mono ?_
  rintro e w5 ⟨rfl, M5, Fp5, hg5, k5, hm5⟩
  have HG5 := Lib.hid hg5
  have c5 := hg5.st.2.cell 0
  unfold strA at c5
  have hs5 := hg5.st.1
  clear hg5
  go_wp2_with fail
  refine (going_step cellI_lt cellI_keep (by omega) HG5.out).mono ?_
  rintro e w6 ⟨rfl, M6, Fp6, hg6, k6, hm6⟩
  have HG6 := Lib.hid hg6
  have c6 := hg6.st.2.cell 0
  unfold strAB at c6
  clear hg6 c5
  go_wp2_with fail
  refine (going_done HG6.out).mono ?_
  rintro e w7 ⟨rfl, rfl⟩
  go_wp2_with fail
  refine (going_stop HG6.out).mono ?_
  rintro e w7 ⟨rfl, k7⟩
  go_wp2_with fail
  refine (going_steps (going_still cellI_keep HG6.out k7)).mono ?_
  rintro e w8 ⟨rfl, rfl⟩
  go_wp2_with fail
  go_ret
  refine ⟨rfl, below_still (below_step (below_step hk3 k5 (Nat.le_refl _) ?_) k6 (Nat.le_refl _) ?_) k7 (Nat.le_refl _)⟩
  · intro i hi h; rcases h with h | h <;> omega
  · intro i hi h; rcases h with h | h
    · have := (hs5 i).1 h; omega
    · omega
end Go.Proofs.Ytojjelafkieflaa
