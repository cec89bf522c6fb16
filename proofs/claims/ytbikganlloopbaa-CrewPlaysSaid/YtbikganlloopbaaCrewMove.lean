/-
  What stands here: what May and Step of a worker do. Under no condition but that the world holds it.
-/
import Derived.Test.YtbikganlloopbaaCrewPut
namespace Go.Proofs.Ytbikganlloopbaa
set_option linter.unusedVariables false
set_option linter.unusedSimpArgs false
open Go.RowKit Go.Proofs
set_option maxHeartbeats 2000000 in
set_option maxRecDepth 100000 in
theorem pstep_take {col : Nat → Nat} {i f p g N M k q bx : Nat} {cf : Nat → Int} {bz n m : Int} {x : FiringV} {rest logs : List FiringV} {w : World} (h : CF col f p g N M cf bz (x :: rest) logs w) (hM : M < 100000) (hbz : 0 ≤ bz ∧ bz < 100000)
    (hk : BlkC col (10 + i) w k #[.pointer (some ⟨f, 0, none⟩), .pointer (some ⟨q, 0, none⟩), .slice none 0 0, .int .i64 n] 96) (hq : BlkC col (10 + i) w q #[takeM bx, takeD bx, .int .i64 m] 156) (hx : BlkC col (10 + i) w bx #[.pointer (some ⟨k, 0, none⟩)] 31) :
    Calls Try.prog 40 #[.pointer (some ⟨q, 0, none⟩)] w fun e w' => e = .returned (.bool true) ∧ ∃ col', Move (fun c => c = 1 ∨ c = 2 ∨ c = 10 + i) col col' w w' ∧ CF col' f p g N M cf (bz + 1) rest logs w' ∧ WkB col' i f k n x w' := by
  have hmay : Calls Try.prog 36 #[.pointer (some ⟨q, 0, none⟩)] w fun e w' => e = .returned (.bool true) ∧ Still w w' := by
    obtain ⟨s, sb, sh, c, l, mx, hf, cf1, hp, cp, cc, cy, hl, ha, hb⟩ := h
    have h9 := wmayfn hf hp (by omega) hx.1 hk.1
    rw [decide_eq_true (by simp : 0 < (x :: rest).length)] at h9
    exact may_ask q _ _ _ _ m _ w hq.1 ⟨_, Try.func56, by kernel_rfl, by kernel_rfl⟩ true h9
  have hcf := fun args wx => run_callFunc (P := Try.prog) (F := 57) ⟨_, Try.func57, by kernel_rfl, by kernel_rfl⟩ args wx
  have hqk : q ≠ k := hq.1.other_size hk.1 (by simp)
  have hxq : bx ≠ q := hx.1.other_size hq.1 (by simp)
  have HM := Lib.hid hmay
  have H := Lib.hid h
  have HK := Lib.hid hk
  have HQ := Lib.hid hq
  have HX := Lib.hid hx
  have HN := Lib.hid (And.intro hqk hxq)
  clear hmay h hk hq hx hqk hxq
  go_enter Try.func40, Try.ntmps40
  go_wp2_with fail
  refine HM.out.mono ?_
  rintro e w1 ⟨rfl, k1⟩
  have hq1 := HQ.out.still k1
  have c1 : w1.cell? ⟨q, 1, none⟩ = some (takeD bx) := hq1.1.cell 1
  have c2 : w1.cell? ⟨q, 2, none⟩ = some (.int .i64 m) := hq1.1.cell 2
  have f2 := hq1.1.free 2
  have K1 := Lib.hid k1
  have HQ1 := Lib.hid hq1
  clear k1 hq1
  go_wp2_with fail
  obtain ⟨w2, hw2⟩ : ∃ w2, w2 = w1.setCell ⟨q, 2, none⟩ (.int .i64 (wrap64 (m + 1))) := ⟨_, rfl⟩
  have k2 : Kept (· = q) w w2 := by rw [hw2]; exact (K1.out.mono (fun _ _ f => f.elim) : Kept (· = q) w w1).put 2 _
  obtain ⟨hqk, hxq⟩ := HN.out
  have hq2 : BlkC col (10 + i) w2 q #[takeM bx, takeD bx, .int .i64 (wrap64 (m + 1))] 156 := ⟨by rw [hw2]; exact HQ1.out.1.set' rfl, HQ1.out.2⟩
  have hk2 : BlkC col (10 + i) w2 k #[.pointer (some ⟨f, 0, none⟩), .pointer (some ⟨q, 0, none⟩), .slice none 0 0, .int .i64 n] 96 := ⟨HK.out.1.kept k2 (fun e => hqk e.symm), HK.out.2⟩
  have hx2 : BlkC col (10 + i) w2 bx #[.pointer (some ⟨k, 0, none⟩)] 31 := ⟨HX.out.1.kept k2 hxq, HX.out.2⟩
  have m2 : Move (fun c => c = 1 ∨ c = 2 ∨ c = 10 + i) col col w w2 := .still' k2 (fun y hy => by rw [hy]; exact .inr (.inr HQ.out.2))
  have h2 : CF col f p g N M cf bz (x :: rest) logs w2 := H.out.move (S := (· = 10 + i)) (.still' k2 (fun y hy => by rw [hy]; exact HQ.out.2)) (by omega) (by omega) (by omega) (by omega)
  rw [← hw2]
  refine (takes2 h2 hM hbz hk2 hx2).mono ?_
  rintro e w3 ⟨b1, b2, hb, cap, col3, rfl, m3, k3, h3, hk3, ho3, hp3⟩
  have hq3 : Blk w3 q _ _ := hq2.1.kept k3 (by rw [hq2.2]; omega)
  have hq3c : col3 q = 10 + i := (m3.re q hq2.1.lt).trans hq2.2
  have d0 : w3.cell? ⟨q, 0, none⟩ = some (takeM bx) := hq3.cell 0
  have d1 : w3.cell? ⟨q, 1, none⟩ = some (takeD bx) := hq3.cell 1
  have f0 := hq3.free 0
  have f1 := hq3.free 1
  have Q3 := Lib.hid hq3
  have M3 := Lib.hid (m2.trans m3)
  have H3 := Lib.hid (And.intro h3 (And.intro hk3 (And.intro ho3 hp3)))
  clear hw2 k2 hq2 hk2 hx2 m2 h2 m3 k3 h3 hk3 ho3 hp3 hq3 c1 c2 f2
  go_wp2_with fail
  go_ret
  obtain ⟨h3, hk3, ho3, hp3⟩ := H3.out
  obtain ⟨wz, hwz⟩ : ∃ wz, wz = (w3.setCell ⟨q, 0, none⟩ .nilFunc).setCell ⟨q, 1, none⟩ (thenV b1 b2) := ⟨_, rfl⟩
  rw [← hwz]
  have kz : Only q w3 wz := by rw [hwz]; exact ((only_refl q w3).put 0 _).put 1 _
  have hqz : Blk wz q #[.nilFunc, thenV b1 b2, .int .i64 (wrap64 (m + 1))] 156 := by rw [hwz]; exact (Q3.out.set 0 _).set' rfl
  have mz : Move (· = 10 + i) col3 col3 w3 wz := .still' kz (fun y hy => by rw [hy]; exact hq3c)
  obtain ⟨b3, b4, b5, a, g1, g2, g4, g5, g3⟩ := hp3
  have hbq : hb ≠ q := fun e => by
    obtain ⟨-, c0, -⟩ := owns_firing ho3
    rw [e] at c0
    have h8 : w3.cell? ⟨q, 0, none⟩ = some (takeM bx) := Q3.out.cell 0
    rw [h8] at c0
    simp at c0
  have hb1q : b1 ≠ q := g1.1.other_size Q3.out (by simp)
  have hb2q : b2 ≠ q := g2.1.other_size Q3.out (by simp)
  have hb4q : b4 ≠ q := g4.1.other_size Q3.out (by simp)
  have hb5q : b5 ≠ q := g5.1.other_size Q3.out (by simp)
  have hb3q : b3 ≠ q := g3.1.other_size Q3.out (by simp)
  refine ⟨rfl, col3, M3.out.trans (mz.mono fun c h => .inr (.inr h)), h3.move mz (by omega) (by omega) (by omega) (by omega), q, _, b1, b2, hb, cap, ⟨hk3.1.kept kz (fun e => hqk e.symm), hk3.2⟩, ⟨hqz, hq3c⟩, ⟨owns_kept2 ho3.1 kz (fun b hb9 e => hbq (by simp only [Value.ownBlock, Option.some.injEq] at hb9; rw [hb9]; exact e)), ho3.2⟩, b3, b4, b5, a, ⟨g1.1.kept kz hb1q, g1.2⟩, ⟨g2.1.kept kz hb2q, g2.2⟩, ⟨g4.1.kept kz hb4q, g4.2⟩, ⟨g5.1.kept kz hb5q, g5.2⟩, ⟨g3.1.kept kz hb3q, g3.2⟩⟩
set_option maxHeartbeats 2000000 in
set_option maxRecDepth 100000 in
theorem pstep_put {col : Nat → Nat} {i f p g N M k q hb cap b1 b2 : Nat} {cf : Nat → Int} {bz n m : Int} {x : FiringV} {xs logs : List FiringV} {w : World} (h : CF col f p g N M cf bz xs logs w) (hM : logs.length < 1000000) (hbz : 1 ≤ bz ∧ bz < 100000) (hn : 0 ≤ n ∧ n < 1000000)
    (hk : BlkC col (10 + i) w k #[.pointer (some ⟨f, 0, none⟩), .pointer (some ⟨q, 0, none⟩), .slice (some ⟨hb, 0, none⟩) 1 cap, .int .i64 n] 96) (hq : BlkC col (10 + i) w q #[.nilFunc, thenV b1 b2, .int .i64 m] 156)
    (ho : Owns col (10 + i) w 40 4 (.slice (some ⟨hb, 0, none⟩) 1 cap) 1 x.cl) (hp : PutB col (10 + i) k b1 b2 w) :
    Calls Try.prog 40 #[.pointer (some ⟨q, 0, none⟩)] w fun e w' => e = .returned (.bool true) ∧ ∃ col', Move (fun c => c = 1 ∨ c = 3 ∨ c = 6 ∨ c = 10 + i) col col' w w' ∧ CF col' f p g N M cf (bz - 1) xs (logs ++ [x]) w' ∧ WkA col' i f k (n + 1) w' := by
  have hmay : Calls Try.prog 36 #[.pointer (some ⟨q, 0, none⟩)] w fun e w' => e = .returned (.bool true) ∧ w = w' := may_free q _ _ m _ w hq.1
  have hcf := fun args wx => run_callFunc (P := Try.prog) (F := 77) ⟨_, Try.func77, by kernel_rfl, by kernel_rfl⟩ args wx
  have hqk : q ≠ k := hq.1.other_size hk.1 (by simp)
  have c1 : w.cell? ⟨q, 1, none⟩ = some (thenV b1 b2) := hq.1.cell 1
  have c2 : w.cell? ⟨q, 2, none⟩ = some (.int .i64 m) := hq.1.cell 2
  have f2 := hq.1.free 2
  have HM := Lib.hid hmay
  have H := Lib.hid h
  have HK := Lib.hid hk
  have HQ := Lib.hid hq
  have HN := Lib.hid hqk
  have HO := Lib.hid ho
  have HP := Lib.hid hp
  clear hmay h hk hq hqk ho hp
  go_enter Try.func40, Try.ntmps40
  go_wp2_with fail
  refine HM.out.mono ?_
  rintro e w1 ⟨rfl, rfl⟩
  go_wp2_with fail
  obtain ⟨w2, hw2⟩ : ∃ w2, w2 = w.setCell ⟨q, 2, none⟩ (.int .i64 (wrap64 (m + 1))) := ⟨_, rfl⟩
  have k2 : Only q w w2 := by rw [hw2]; exact (only_refl q w).put 2 _
  have hqk := HN.out
  have hq2 : BlkC col (10 + i) w2 q #[.nilFunc, thenV b1 b2, .int .i64 (wrap64 (m + 1))] 156 := ⟨by rw [hw2]; exact HQ.out.1.set' rfl, HQ.out.2⟩
  have hk2 : BlkC col (10 + i) w2 k #[.pointer (some ⟨f, 0, none⟩), .pointer (some ⟨q, 0, none⟩), .slice (some ⟨hb, 0, none⟩) 1 cap, .int .i64 n] 96 := ⟨HK.out.1.kept k2 (fun e => hqk e.symm), HK.out.2⟩
  have m2 : Move (· = 10 + i) col col w w2 := .still' k2 (fun y hy => by rw [hy]; exact HQ.out.2)
  have h2 := H.out.move m2 (by omega) (by omega) (by omega) (by omega)
  obtain ⟨b3, b4, b5, a, g1, g2, g4, g5, g3⟩ := HP.out
  have hbq : hb ≠ q := fun e => by
    obtain ⟨-, c0, -⟩ := owns_firing HO.out
    rw [e] at c0
    have h8 : w.cell? ⟨q, 0, none⟩ = some .nilFunc := HQ.out.1.cell 0
    rw [h8] at c0
    simp at c0
  have hb1q : b1 ≠ q := g1.1.other_size HQ.out.1 (by simp)
  have hb2q : b2 ≠ q := g2.1.other_size HQ.out.1 (by simp)
  have hb4q : b4 ≠ q := g4.1.other_size HQ.out.1 (by simp)
  have hb5q : b5 ≠ q := g5.1.other_size HQ.out.1 (by simp)
  have hb3q : b3 ≠ q := g3.1.other_size HQ.out.1 (by simp)
  have ho2 : Owns col (10 + i) w2 40 4 (.slice (some ⟨hb, 0, none⟩) 1 cap) 1 x.cl := ⟨owns_kept2 HO.out.1 k2 (fun b hb9 e => hbq (by simp only [Value.ownBlock, Option.some.injEq] at hb9; rw [hb9]; exact e)), HO.out.2⟩
  have hp2 : PutB col (10 + i) k b1 b2 w2 := ⟨b3, b4, b5, a, ⟨g1.1.kept k2 hb1q, g1.2⟩, ⟨g2.1.kept k2 hb2q, g2.2⟩, ⟨g4.1.kept k2 hb4q, g4.2⟩, ⟨g5.1.kept k2 hb5q, g5.2⟩, ⟨g3.1.kept k2 hb3q, g3.2⟩⟩
  rw [← hw2]
  refine (cthen1 h2 hM hbz hn hk2 ho2 hp2).mono ?_
  rintro e w3 ⟨bx, col3, rfl, m3, k3, h3, hk3, hx3⟩
  have hq3 : Blk w3 q _ _ := hq2.1.kept k3 (by rw [hq2.2]; omega)
  have hq3c : col3 q = 10 + i := (m3.re q hq2.1.lt).trans hq2.2
  have d0 : w3.cell? ⟨q, 0, none⟩ = some .nilFunc := hq3.cell 0
  have d1 : w3.cell? ⟨q, 1, none⟩ = some (thenV b1 b2) := hq3.cell 1
  have f0 := hq3.free 0
  have f1 := hq3.free 1
  have Q3 := Lib.hid hq3
  have M3 := Lib.hid ((m2.mono (T := fun c => c = 1 ∨ c = 3 ∨ c = 6 ∨ c = 10 + i) (fun c h => .inr (.inr (.inr h)))).trans m3)
  have H3 := Lib.hid (And.intro h3 (And.intro hk3 hx3))
  clear hw2 k2 hq2 hk2 m2 h2 m3 k3 h3 hk3 hx3 hq3 c1 c2 f2 ho2 hp2 g1 g2 g3 g4 g5
  go_wp2_with fail
  go_ret
  obtain ⟨h3, hk3, hx3⟩ := H3.out
  obtain ⟨wz, hwz⟩ : ∃ wz, wz = (w3.setCell ⟨q, 0, none⟩ (takeM bx)).setCell ⟨q, 1, none⟩ (takeD bx) := ⟨_, rfl⟩
  rw [← hwz]
  have kz : Only q w3 wz := by rw [hwz]; exact ((only_refl q w3).put 0 _).put 1 _
  have hqz : Blk wz q #[takeM bx, takeD bx, .int .i64 (wrap64 (m + 1))] 156 := by rw [hwz]; exact (Q3.out.set 0 _).set' rfl
  have mz : Move (· = 10 + i) col3 col3 w3 wz := .still' kz (fun y hy => by rw [hy]; exact hq3c)
  have hxq : bx ≠ q := hx3.1.other_size Q3.out (by simp)
  exact ⟨rfl, col3, M3.out.trans (mz.mono fun c h => .inr (.inr (.inr h))), h3.move mz (by omega) (by omega) (by omega) (by omega), q, bx, _, ⟨hk3.1.kept kz (fun e => hqk e.symm), hk3.2⟩, ⟨hqz, hq3c⟩, hx3.1.kept kz hxq, hx3.2⟩
end Go.Proofs.Ytbikganlloopbaa
