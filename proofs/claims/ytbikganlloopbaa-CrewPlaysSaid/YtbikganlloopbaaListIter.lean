/-
  What stands here: the iterator over a list's nodes has its contract; all values of a list; what a list drains. Under no condition but that the world holds it.
-/
import Derived.Test.YtbikganlloopbaaListMem
import Derived.Test.YtbikganlloopbaaListOut
import Derived.Test.YtbikganlloopbaaText
import Derived.Test.YtbikganlloopbaaRangeQ
import Derived.Shelf.Abstract
import Derived.Shelf.RegionOpen
import Derived.WalkKit
import Derived.OwnWalkIn
import Derived.TacticsInMore
import Derived.LoopNIn
import Derived.LoopIn
namespace Go.Proofs.Ytbikganlloopbaa
set_option linter.unusedVariables false
set_option linter.unusedSimpArgs false
open Go.RowKit Go.Proofs
attribute [local go_sem] Oper.semAt_some

def encN (x : Nat) : Array Value := #[.pointer (some ⟨x, 0, none⟩)]
/-- what the iterator meets, behind the nodes pre of xs -/
def NextOk (l : Nat) (xs pre : List Nat) (W : World) : Prop :=
  (pre = [] → W.cell? ⟨l, 0, none⟩ = some (ptrO (hd xs none))) ∧ ∀ x rest, xs = pre ++ x :: rest → W.cell? ⟨x, 2, none⟩ = some (ptrO (hd rest none))
def remN (xs : List Nat) (v : Value) : Nat := match v with
  | .pointer (some a) => xs.length - xs.idxOf a.block
  | _ => 0
theorem idx_at {pre rest : List Nat} {x : Nat} (h : (pre ++ x :: rest).Nodup) : (pre ++ x :: rest).idxOf x = pre.length := by
  have hx : x ∉ pre := fun hm => (List.nodup_append.1 h).2.2 x hm x (by simp) rfl
  rw [List.idxOf_append, if_neg hx, List.idxOf_cons_self]; omega
theorem infoElem_i : (Try.prog.info? 3).map (fun i => (i.zero, i.size, i.bytes)) = some (some (.int .i64 0), 1, 8) := by kernel_rfl
theorem owns_base {w : World} {base base' : Nat} {e : TypeId} {sz : Nat} {v : Value} {n : Nat} {xs : List Value} (h : w.ownsRow base e sz v n xs) (hb : base' ≤ base) : w.ownsRow base' e sz v n xs := by
  obtain ⟨hl, h | ⟨g, cap, cur, hv, hbg, hr⟩⟩ := h
  · exact ⟨hl, .inl h⟩
  · exact ⟨hl, .inr ⟨g, cap, cur, hv, by omega, hr⟩⟩
/-- the block of a row that is one's own -/
theorem owns_blk {w : World} {base : Nat} {e : TypeId} {v : Value} {n : Nat} {xs : List Value} (h : w.ownsRow base e 1 v n xs) (hn : 0 < n) : ∃ g cap cur, v = .slice (some ⟨g, 0, none⟩) n cap ∧ base ≤ g ∧ Blk w g cur e ∧ n ≤ cap ∧ cap ≤ maxLen ∧ cur.size = cap ∧ cur.toList.take n = xs := by
  obtain ⟨hl, ⟨rfl, rfl⟩ | ⟨g, cap, cur, rfl, hb, hg, hn, hm, hc, ht⟩⟩ := h
  · omega
  · rw [Nat.mul_one] at hl hc ht
    exact ⟨g, cap, cur, rfl, hb, hg, hn, hm, hc, ht⟩
theorem blk_row {w : World} {g n cap : Nat} {cur : Array Value} {e : TypeId} (h : Blk w g cur e) (hn : n ≤ cur.size) (hc : n ≤ cap) (hm : cap ≤ maxLen) : VRow (· = g) w (.slice (some ⟨g, 0, none⟩) n cap) (cur.toList.take n) := by
  have hl : (cur.toList.take n).length = n := by rw [List.length_take]; simp; omega
  refine ⟨_, cap, by rw [hl], by omega, hm, fun _ => ⟨g, 0, rfl, h.lt, rfl, fun j hj => ?_⟩⟩
  rw [hl] at hj
  rw [Nat.zero_add, h.cell j, List.getElem?_take_of_lt hj]
  simp
theorem infoElem_t : (Try.prog.info? 189).map (fun i => (i.zero, i.size, i.bytes)) = some (some (.pointer none), 1, 8) := by kernel_rfl

theorem LW_t.nextok {s : LS} {w : World} (h : LW_t s w) {l : Nat} (hl : s.kd l = 1) : w.cell? ⟨l, 0, none⟩ = some (ptrO (hd (s.sq l) none)) ∧ ∀ pre x rest, s.sq l = pre ++ x :: rest → w.cell? ⟨x, 2, none⟩ = some (ptrO (hd rest none)) ∧ w.cell? ⟨x, 0, none⟩ = some (s.nd x).val := by
  refine ⟨(h.lists l hl).cell 0, fun pre x rest he => ?_⟩
  have hx := (h.inv.mem l x hl (by rw [he]; simp)).1
  have hn := (h.inv.ends hl he).2
  have c := (h.nodes x hx).cell 2
  rw [hn] at c
  exact ⟨c, (h.nodes x hx).cell 0⟩
/-- the values of nodes -/
def valsOf_t (s : LS) (xs : List Nat) : List Value := xs.map fun x => (s.nd x).val


end Go.Proofs.Ytbikganlloopbaa
