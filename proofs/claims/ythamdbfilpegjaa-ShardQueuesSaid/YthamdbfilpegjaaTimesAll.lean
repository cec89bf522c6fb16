/-
  What stands here: the iterator over a time's digits has its contract. Under no condition.
-/
import Derived.Test.YthamdbfilpegjaaRange
import Derived.Shelf.Abstract
import Derived.Shelf.RegionOpen
import Derived.WalkKit
import Derived.OwnWalkIn
import Derived.TacticsInMore
import Derived.LoopNIn
import Derived.LoopIn
import Derived.Test.YthamdbfilpegjaaProg
namespace Go.Proofs.Ythamdbfilpegjaa
set_option linter.unusedVariables false
set_option linter.unusedSimpArgs false
open Go.RowKit Go.Proofs
attribute [local go_sem] Oper.semAt_some

/-- a time's digit -/
def dg (t : Int) (i : Nat) : Int := t / 64 ^ i % 64
def dgs (t : Int) (k : Nat) : List (Nat × Int) := (List.range k).map fun i => (i, dg t i)
def encD (x : Nat × Int) : Array Value := #[.int .i64 x.1, .int .i64 x.2]

theorem and63 {x : Int} (h0 : 0 ≤ x) (h1 : x ≤ 18446744073709551615) : bits BinOp.and IntKind.u64 x 63 = x % 64 := by
  have h := bits_and_u64_nat x.toNat 63 (by omega) (by omega)
  rw [show (63 : Nat) = 2 ^ 6 - 1 from rfl, Nat.and_two_pow_sub_one_eq_mod, Int.toNat_of_nonneg h0] at h
  exact h.trans (by omega)
theorem z_bd {t : Int} (ht : 0 ≤ t ∧ t < 18446744073709551616) (k : Nat) : 0 ≤ t / 64 ^ k ∧ t / 64 ^ k < 18446744073709551616 := by
  have hp : (0 : Int) < 64 ^ k := Int.pow_pos (by omega)
  exact ⟨Int.ediv_nonneg ht.1 (by omega), Int.lt_of_le_of_lt (Int.ediv_le_self _ ht.1) ht.2⟩
theorem z_succ (t : Int) (k : Nat) : t / 64 ^ (k + 1) = t / 64 ^ k / 64 := by
  rw [Int.pow_succ, Int.ediv_ediv_of_nonneg (Int.le_of_lt (Int.pow_pos (by omega)))]
theorem dgs_succ (t : Int) (k : Nat) : dgs t (k + 1) = dgs t k ++ [(k, dg t k)] := by
  unfold dgs; rw [List.range_succ, List.map_append]; rfl
theorem dgs_pre (t : Int) {k m : Nat} (h : k ≤ m) : dgs t k <+: dgs t m := by
  obtain ⟨d, rfl⟩ : ∃ d, m = k + d := ⟨m - k, by omega⟩
  clear h
  induction d with
  | zero => exact List.prefix_refl _
  | succ d ih => rw [← Nat.add_assoc, dgs_succ]; exact ih.trans (List.prefix_append _ _)

theorem all1_in (F : Fence) (n : Nat) (hF : F.fn 69) (hro : F.round = none) (hn : 1 ≤ n) (l T : Nat) (t : Int) (ht : 0 ≤ t ∧ t < 18446744073709551616) (tt : TypeId) (J Jx : List (Nat × Int) → World → Prop)
    (W : World) (hT : Blk W T #[.int .u64 t] tt) (hJ : ∀ s A B, J s A → Only T A B → J s B) (hJx : ∀ s A B, Jx s A → Only T A B → Jx s B)
    (hY : ∀ pre x W1, J pre W1 → T < W1.heap.size → pre.length < 11 → YieldAt F (n - 1) Try.prog l (encD x) W1 fun e W' =>
      (e = .returned (.bool true) ∧ J (pre ++ [x]) W' ∧ Kept (· ≠ T) W1 W') ∨ (e = .returned (.bool false) ∧ Jx (pre ++ [x]) W'))
    (h0 : J [] W) :
    CallsIn F n Try.prog 69 #[.func (.yield l) #[] #[], .pointer (some ⟨T, 0, none⟩)] W fun e W' => (∃ v, e = .returned v) ∧ ((∃ xs, xs = dgs t 11 ∧ J xs W') ∨ (∃ pre, pre <+: dgs t 11 ∧ Jx pre W')) := by
  refine callsIn_of_wp Try.func69 rfl hF ?_ hro
  simp only [Try.ntmps69, List.size_toArray, List.length_cons, List.length_nil, Nat.reduceAdd, Nat.reduceSub, Array.replicate_succ, Array.replicate_zero, List.push_toArray, List.append_toArray, List.nil_append, List.cons_append]
  gi_wp2
  gi_loopw [4] (fun i wr => ∃ k : Nat, k ≤ 11 ∧ i = .int .i64 k ∧ J (dgs t k) wr ∧ Blk wr T #[.int .u64 (t / 64 ^ k)] tt) (fun i _ => 11 - (intOf i).toNat)
  case atStart => exact ⟨0, by omega, rfl, h0, by simpa using hT⟩
  case round =>
    obtain ⟨k, hk, rfl, hj, hb⟩ := hrel
    have c0 := hb.cell 0
    by_cases h : k < 11
    · obtain ⟨fn, tmps, assign, body, hy, hR⟩ := hY (dgs t k) (k, dg t k) wr hj hb.lt (by simp [dgs]; omega)
      dsimp only [encD] at hy
      have hz : 0 ≤ t / 64 ^ k ∧ t / 64 ^ k < 18446744073709551616 := z_bd ht k
      have hd : bits BinOp.and IntKind.u64 (t / 64 ^ k) 63 = dg t k := and63 hz.1 (by omega)
      have hw : wrap64 (dg t k) = dg t k := wrap64_in _ (by unfold dg; omega) (by unfold dg; omega)
      gi_wp2
      refine hR.mono ?_
      rintro e W3 (⟨rfl, hJ3, hk3⟩ | ⟨rfl, hJx3⟩)
      · have hb3 : Blk W3 T #[.int .u64 (t / 64 ^ k)] tt := hb.kept hk3 (fun h => h rfl)
        have c3 := hb3.cell 0
        have f3 := hb3.free 0
        gi_wp2
        go_roundw
        case rel => exact ⟨k + 1, by omega, by go_num, by rw [dgs_succ]; exact hJ _ _ _ hJ3 ((only_refl T W3).put _ _), by rw [z_succ]; exact hb3.set 0 _⟩
        case measure => simp [intOf]; omega
      · gi_wp2
        refine bodyPost_ret (results_none rfl _ _ _) rfl ?_
        exact ⟨⟨_, rfl⟩, .inr ⟨dgs t k ++ [(k, dg t k)], by rw [← dgs_succ]; exact dgs_pre t (by omega), hJx3⟩⟩
    · gi_wp2
      obtain rfl : k = 11 := by omega
      go_end0
      exact ⟨⟨_, rfl⟩, .inl ⟨_, rfl, hj⟩⟩

theorem all_stops (F : Fence) (n : Nat) (hF : F.fn 69) (hro : F.round = none) (hn : 1 ≤ n) (T : Nat) (t : Int) (ht : 0 ≤ t ∧ t < 18446744073709551616) (tt : TypeId) :
    IterC0 F n Try.prog 69 #[.pointer (some ⟨T, 0, none⟩)] encD (fun xs => xs = dgs t 11) (fun pre => pre <+: dgs t 11) 11 T (fun W => Blk W T #[.int .u64 t] tt) :=
  fun l J Jx W hT hJ hJx hY h0 => all1_in F n hF hro hn l T t ht tt J Jx W hT hJ hJx hY h0

theorem all_of (t : Int) (w : World) : Calls Try.prog 61 #[.int .u64 t] w fun e w' => e = .returned (.func (.func 69) #[] #[.pointer (some ⟨w.heap.size, 0, none⟩)]) ∧ Still w w' ∧ Blk w' w.heap.size #[.int .u64 t] 29 := by
  go_enter Try.func61, Try.ntmps61
  go_wp2
  go_ret
  exact ⟨rfl, by (repeat (first | (with_reducible exact Kept.refl _ _) | (with_reducible refine Kept.drewN ?_ _) | (with_reducible refine Kept.drew ?_) | (with_reducible refine Kept.put ?_ _ _) | (with_reducible refine Kept.alloc ?_ _))), Blk.new _ _ _⟩
end Go.Proofs.Ythamdbfilpegjaa
