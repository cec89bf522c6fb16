/-
  What stands here: a floor's block, and what its functions do with it. Under no condition but that the world holds it.
-/
import Derived.Test.YtbikganlloopbaaFPipe
import Derived.Test.YtbikganlloopbaaTurn
namespace Go.Proofs.Ytbikganlloopbaa
set_option linter.unusedVariables false
set_option linter.unusedSimpArgs false
open Go.RowKit Go.Proofs
theorem infoFloor : (Try.prog.info? 86).map (fun i => i.size) = some 27 := by kernel_rfl
/-- a floor's cells -/
abbrev floorC (cf : Nat → Int) (sb : Nat) (sh : Value) (p g : Nat) (bz l t u : Int) : Array Value :=
  #[.int .i64 (cf 0), .int .i64 (cf 1), .int .i64 (cf 2), .int .i64 (cf 3), .int .i64 (cf 4), .int .i64 (cf 5), .pointer (some ⟨sb, 0, none⟩), sh, .pointer (some ⟨p, 0, none⟩), .pointer (some ⟨g, 0, none⟩),
    .bool false, .int .i64 0, .int .i64 0, .int .i64 0, .int .i64 0, .int .i64 0, .int .i64 0, .int .i64 0, .int .i64 bz, .int .i64 l, .int .i64 t, .int .i64 u, .int .u64 0, .int .i64 0, .int .i64 0, .int .i64 0, .slice none 0 0]
/-- a floor -/
def FlB (f : Nat) (cf : Nat → Int) (sb : Nat) (sh : Value) (p g : Nat) (bz : Int) (W : World) : Prop := ∃ l t u, Blk W f (floorC cf sb sh p g bz l t u) 86
section
variable {f sb p g : Nat} {cf : Nat → Int} {sh : Value} {bz : Int} {W W' : World}
theorem FlB.kept (h : FlB f cf sb sh p g bz W) {S : Nat → Prop} (k : Kept S W W') (hS : ¬ S f) : FlB f cf sb sh p g bz W' := by
  obtain ⟨l, t, u, hb⟩ := h
  exact ⟨l, t, u, hb.kept k hS⟩
theorem FlB.still (h : FlB f cf sb sh p g bz W) (k : Still W W') : FlB f cf sb sh p g bz W' := h.kept k (fun e => e)
theorem FlB.lt (h : FlB f cf sb sh p g bz W) : f < W.heap.size := by
  obtain ⟨l, t, u, hb⟩ := h
  exact hb.lt
theorem fpipe (h : FlB f cf sb sh p g bz W) : Calls Try.prog 12 #[.pointer (some ⟨f, 0, none⟩)] W fun e w' => e = .returned (.pointer (some ⟨p, 0, none⟩)) ∧ W = w' := by
  obtain ⟨l, t, u, hb⟩ := h
  have c : W.cell? ⟨f, 8, none⟩ = some (.pointer (some ⟨p, 0, none⟩)) := hb.cell 8
  clear hb
  go_enter Try.func12, Try.ntmps12
  go_wp2_with fail
  go_ret
  exact ⟨rfl, rfl⟩
theorem flog (h : FlB f cf sb sh p g bz W) : Calls Try.prog 17 #[.pointer (some ⟨f, 0, none⟩)] W fun e w' => e = .returned (.pointer (some ⟨g, 0, none⟩)) ∧ W = w' := by
  obtain ⟨l, t, u, hb⟩ := h
  have c : W.cell? ⟨f, 9, none⟩ = some (.pointer (some ⟨g, 0, none⟩)) := hb.cell 9
  clear hb
  go_enter Try.func17, Try.ntmps17
  go_wp2_with fail
  go_ret
  exact ⟨rfl, rfl⟩
theorem fbusy (h : FlB f cf sb sh p g bz W) : Calls Try.prog 26 #[.pointer (some ⟨f, 0, none⟩)] W fun e w' => e = .returned (.int .i64 bz) ∧ FlB f cf sb sh p g bz w' ∧ Only f W w' := by
  obtain ⟨l, t, u, hb⟩ := h
  have HL := Lib.hid (load_any f 18 _ bz l rfl _ W hb rfl rfl)
  clear hb
  go_enter Try.func26, Try.ntmps26
  go_wp2_with fail
  refine HL.out.mono ?_
  rintro e w1 ⟨rfl, k1, b1⟩
  go_wp2_with fail
  go_ret
  exact ⟨rfl, ⟨_, t, u, b1⟩, k1⟩
theorem countfn (A : Nat) (by_ n : Int) (T : TypeId) (w : World) (hA : Blk w A #[.int .i64 by_] T) (h1 : -1000000 ≤ n ∧ n ≤ 1000000) (h2 : -1000000 ≤ by_ ∧ by_ ≤ 1000000) :
    Calls Try.prog 83 #[.int .i64 n, .pointer (some ⟨A, 0, none⟩)] w fun e w' => e = .returned (.tuple #[.int .i64 (n + by_), .bool (decide (0 ≤ n + by_))]) ∧ Still w w' := by
  have c : w.cell? ⟨A, 0, none⟩ = some (.int .i64 by_) := hA.cell 0
  clear hA
  go_enter Try.func83, Try.ntmps83
  go_wp2_with fail
  go_quiet (fail)
  go_wp2_with fail
  go_ret2
  exact ⟨rfl, (still_refl w).drewN _⟩
set_option maxHeartbeats 1000000 in
theorem fcount (by_ : Int) (h : FlB f cf sb sh p g bz W) (h1 : -1000000 ≤ bz ∧ bz ≤ 1000000) (h2 : by_ = 1 ∨ by_ = -1) (h3 : 0 ≤ bz + by_) :
    Calls Try.prog 76 #[.pointer (some ⟨f, 18, none⟩), .int .i64 by_] W fun e w' => e = .returned (.int .i64 0) ∧ FlB f cf sb sh p g (bz + by_) w' ∧ Only f W w' := by
  obtain ⟨l, t, u, hb⟩ := h
  have hlt := hb.lt
  have bA : Blk (W.alloc (.cells #[.int .i64 by_] 3)) W.heap.size #[.int .i64 by_] 3 := Blk.new _ _ _
  have bL := hb.alloc (.cells #[.int .i64 by_] 3)
  have hk := (only_refl f W).alloc (.cells #[.int .i64 by_] 3)
  have hd : decide (0 ≤ bz + by_) = true := decide_eq_true h3
  go_enter Try.func76, Try.ntmps76
  go_wp2_with fail
  refine (turn_yes 83 #[.pointer (some ⟨W.heap.size, 0, none⟩)] ⟨_, Try.func83, by kernel_rfl, by kernel_rfl⟩ f 18 _ bz l t u (bz + by_) rfl rfl rfl _ _ bL rfl rfl rfl rfl
    (fun w1 w2 => Still w1 w2) (fun w1 k1 b1 => (countfn W.heap.size by_ bz _ w1 (bA.only k1 (by omega)) h1 (by omega)).mono (fun e w2 h => ⟨h.1.trans (by rw [hd]), b1.still h.2, h.2⟩))).mono ?_
  rintro e w1 ⟨rfl, w2, w3, k2, k3, k4, b1⟩
  go_wp2_with fail
  go_ret
  exact ⟨rfl, ⟨_, _, _, b1⟩, ((hk.trans k2).of_still k3).trans k4⟩
theorem fwork (on : Bool) (h : FlB f cf sb sh p g bz W) (h1 : -1000000 ≤ bz ∧ bz ≤ 1000000) (h3 : 0 ≤ bz + if on then 1 else -1) :
    Calls Try.prog 59 #[.pointer (some ⟨f, 0, none⟩), .bool on] W fun e w' => e = .returned (.int .i64 0) ∧ FlB f cf sb sh p g (bz + if on then 1 else -1) w' ∧ Only f W w' := by
  cases on with
  | true =>
    have HC := Lib.hid (fcount 1 h h1 (.inl rfl) h3)
    clear h h3
    go_enter Try.func59, Try.ntmps59
    go_wp2_with fail
    refine HC.out.mono ?_
    rintro e w1 ⟨rfl, b1, k1⟩
    go_wp2_with fail
    go_ret
    exact ⟨rfl, b1, k1⟩
  | false =>
    have HC := Lib.hid (fcount (-1) h h1 (.inr rfl) h3)
    clear h h3
    go_enter Try.func59, Try.ntmps59
    go_wp2_with fail
    refine HC.out.mono ?_
    rintro e w1 ⟨rfl, b1, k1⟩
    go_wp2_with fail
    go_ret
    exact ⟨rfl, b1, k1⟩
end
end Go.Proofs.Ytbikganlloopbaa
