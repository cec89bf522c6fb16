/-
  What stands here: the table of Go's library for the place of the lowest bit; the iterator over a word's slots has its contract. Under the condition that the table is as its initialiser lays it.
-/
import Derived.Test.YthinhbaklcijmaaDoorRangeQ
import Derived.Test.YthinhbaklcijmaaDoorBitsMath
import Derived.Shelf.Abstract
import Derived.Shelf.RegionOpen
import Derived.WalkKit
import Derived.OwnWalkIn
import Derived.TacticsInMore
import Derived.LoopNIn
import Derived.LoopIn
namespace Go.Proofs.YthinhbaklcijmaaDoor
set_option linter.unusedVariables false
set_option linter.unusedSimpArgs false
open Go.RowKit Go.Proofs
attribute [local go_sem] Oper.semAt_some

/-- the table -/
def Tab (w : World) : Prop := ∀ j, j < 64 → w.cell? ⟨0, j, none⟩ = some (.int .u8 (Lib.deBruijn64tab.getD j 0))
theorem Tab.lt {w : World} (h : Tab w) : 0 < w.heap.size := lt_of_cell (h 0 (by omega))
theorem Tab.kept {S : Nat → Prop} {w w' : World} (h : Tab w) (k : Kept S w w') (hS : ¬ S 0) : Tab w' := fun j hj =>
  (World.cell?_of_block (w := w) (a := ⟨0, j, none⟩) (k.block 0 h.lt hS)).trans (h j hj)
theorem Tab.below {w w' : World} {B : Nat} (h : Tab w) (k : Below B w w') (hB : 0 < B) : Tab w' := h.kept (kept_of_below k) (by omega)

theorem tz64_core (x k idx : Nat) (w : World) (hx0 : x ≠ 0)
    (key : IntKind.u64.wrap (bits BinOp.and IntKind.u64 (x : Int) (IntKind.u64.wrap (-(x : Int))) * 285870213051353865) / 288230376151711744 = (idx : Int))
    (hi : idx < 64) (hk : k < 64) (hcell : w.cell? ⟨0, idx, none⟩ = some (.int .u8 k)) :
    Calls Tryd.prog 66 #[.int .u64 x] w fun e w' => e = .returned (.int .i64 k) ∧ w = w' := by
  have hx0' : ((x : Int) == 0) = false := by simp; omega
  go_enter Tryd.func66, Tryd.ntmps66
  go_wp2_with (first | simp only [key] | fail)
  go_ret
  exact ⟨rfl, rfl⟩
theorem tz64_key (x a : Nat) (hx : x < 18446744073709551616) (hx0 : x ≠ 0) (hlow : x &&& (18446744073709551616 - x) = a) :
    IntKind.u64.wrap (bits BinOp.and IntKind.u64 (x : Int) (IntKind.u64.wrap (-(x : Int))) * 285870213051353865) / 288230376151711744 = ((a * 285870213051353865 % 18446744073709551616 / 288230376151711744 : Nat) : Int) := by
  have e1 : IntKind.u64.wrap (-(x : Int)) = ((18446744073709551616 - x : Nat) : Int) := by rw [IntKind.wrap_u64]; omega
  rw [e1, bits_and_u64_nat x _ hx (by omega), hlow, IntKind.wrap_u64]
  omega
theorem tz64_any (x : Nat) (hx : x < 18446744073709551616) (hx0 : x ≠ 0) (w : World) (hT : Tab w) :
    Calls Tryd.prog 66 #[.int .u64 x] w fun e w' => e = .returned (.int .i64 (Lib.ctz 64 x)) ∧ w = w' := by
  obtain ⟨hlow, hk⟩ := Lib.lowest_bit 64 x hx0 (by simpa using hx)
  obtain ⟨hi, htab⟩ := Lib.deBruijn64_at _ hk
  have hcell := hT _ hi
  rw [htab] at hcell
  exact tz64_core x _ _ w hx0 (tz64_key x _ hx hx0 (by simpa using hlow)) hi hk hcell

def encS (x : Nat) : Array Value := #[.int .i64 x]
theorem ball1_in (n : Nat) (hn : 1 ≤ n) (l T : Nat) (m : Nat) (hm : m < 18446744073709551616) (tt : TypeId) (J Jx : List Nat → World → Prop)
    (W : World) (hT : Blk W T #[.int .u64 m] tt) (hQ : ∀ s A, J s A → Tab A) (hJ : ∀ s A B, J s A → Only T A B → J s B) (hJx : ∀ s A B, Jx s A → Only T A B → Jx s B)
    (hY : ∀ pre x W1, J pre W1 → T < W1.heap.size → pre ++ [x] <+: slots m → pre.length < 64 → YieldAt Fence.wide (n - 1) Tryd.prog l (encS x) W1 fun e W' =>
      (e = .returned (.bool true) ∧ J (pre ++ [x]) W' ∧ Kept (· ≠ T) W1 W') ∨ (e = .returned (.bool false) ∧ Jx (pre ++ [x]) W'))
    (h0 : J [] W) :
    CallsIn Fence.wide n Tryd.prog 65 #[.func (.yield l) #[] #[], .pointer (some ⟨T, 0, none⟩)] W fun e W' => (∃ v, e = .returned v) ∧ ((∃ xs, xs = slots m ∧ J xs W') ∨ (∃ pre, pre <+: slots m ∧ Jx pre W')) := by
  have c0 := hT.cell 0
  refine callsIn_of_wp Tryd.func65 rfl trivial ?_ rfl
  simp only [Tryd.ntmps65, List.size_toArray, List.length_cons, List.length_nil, Nat.reduceAdd, Nat.reduceSub, Array.replicate_succ, Array.replicate_zero, List.push_toArray, List.append_toArray, List.nil_append, List.cons_append]
  gi_wp2
  gi_loopw [3] (fun i wr => ∃ (r : Nat) (pre : List Nat), r < 18446744073709551616 ∧ i = .int .u64 r ∧ slots m = pre ++ slots r ∧ J pre wr ∧ T < wr.heap.size) (fun i _ => (slots (intOf i).toNat).length)
  case atStart => exact ⟨m, [], hm, rfl, rfl, h0, hT.lt⟩
  case round =>
    obtain ⟨r, pre, hr, rfl, hs, hj, hlt⟩ := hrel
    by_cases h : r = 0
    · subst h
      gi_wp2
      go_end0
      rw [slots_zero, List.append_nil] at hs
      exact ⟨⟨_, rfl⟩, .inl ⟨_, rfl, hs ▸ hj⟩⟩
    · have hc := slots_cons h hr
      have hpl : pre.length < 64 := by
        have := congrArg List.length hs
        rw [hc] at this
        simp only [List.length_append, List.length_cons] at this
        have h64 : (slots m).length ≤ 64 := by unfold slots; exact Nat.le_trans (List.length_filter_le _ _) (by simp)
        omega
      obtain ⟨fn, tmps, assign, body, hy, hR⟩ := hY pre (Lib.ctz 64 r) wr hj hlt (by rw [hs, hc]; exact ⟨slots (r &&& (r - 1)), by rw [List.append_assoc]; rfl⟩) hpl
      dsimp only [encS] at hy
      gi_wp2
      refine ⟨trivial, callsIn_wide.2 ((tz64_any r hr h wr (hQ _ _ hj)).mono ?_)⟩
      rintro e W2 ⟨rfl, rfl⟩
      have hw1 : IntKind.u64.wrap ((r : Int) - 1) = ((r - 1 : Nat) : Int) := by rw [IntKind.wrap_u64]; omega
      have hand := bits_and_u64_nat r (r - 1) hr (by omega)
      have hlt2 := and_pred_lt hr
      gi_wp2
      refine hR.mono ?_
      rintro e W3 (⟨rfl, hJ3, hk3⟩ | ⟨rfl, hJx3⟩)
      · gi_wp2
        go_roundw
        case rel => exact ⟨r &&& (r - 1), pre ++ [Lib.ctz 64 r], hlt2, rfl, by rw [hs, hc, List.append_assoc]; rfl, hJ3, Nat.lt_of_lt_of_le hlt hk3.size⟩
        case measure => simp [intOf, hc]
      · gi_wp2
        refine bodyPost_ret (results_none rfl _ _ _) rfl ?_
        exact ⟨⟨_, rfl⟩, .inr ⟨pre ++ [Lib.ctz 64 r], by rw [hs, hc]; exact ⟨slots (r &&& (r - 1)), by rw [List.append_assoc]; rfl⟩, hJx3⟩⟩
theorem ball_stops (n : Nat) (hn : 1 ≤ n) (T : Nat) (m : Nat) (hm : m < 18446744073709551616) (tt : TypeId) :
    IterC Fence.wide n Tryd.prog 65 #[.pointer (some ⟨T, 0, none⟩)] encS (fun xs => xs = slots m) (fun pre => pre <+: slots m) 64 T (fun W => Blk W T #[.int .u64 m] tt) (fun _ => Tab) :=
  fun l J Jx W hT hQ hJ hJx hY h0 => ball1_in n hn l T m hm tt J Jx W hT hQ hJ hJx hY h0
theorem ball_of (m : Int) (w : World) : Calls Tryd.prog 60 #[.int .u64 m] w fun e w' => e = .returned (.func (.func 65) #[] #[.pointer (some ⟨w.heap.size, 0, none⟩)]) ∧ Still w w' ∧ Blk w' w.heap.size #[.int .u64 m] 100 := by
  go_enter Tryd.func60, Tryd.ntmps60
  go_wp2
  go_ret
  exact ⟨rfl, by (repeat (first | (with_reducible exact Kept.refl _ _) | (with_reducible refine Kept.drewN ?_ _) | (with_reducible refine Kept.drew ?_) | (with_reducible refine Kept.put ?_ _ _) | (with_reducible refine Kept.alloc ?_ _))), Blk.new _ _ _⟩
end Go.Proofs.YthinhbaklcijmaaDoor
