/-
  What stands here: rows of firings, what a log holds, and how two rows are compared. Under no condition but that the world holds them.
-/
import Derived.Test.YtbikganlloopbaaFList
import Derived.Test.YtbikganlloopbaaFloorNew2
import Derived.Test.YtbikganlloopbaaRow
import Derived.Deep.QuietTactic
import Derived.BigQuiet
namespace Go.Proofs.Ytbikganlloopbaa
set_option linter.unusedVariables false
set_option linter.unusedSimpArgs false
open Go.RowKit Go.Proofs
deriving instance DecidableEq for FiringV
theorem infoFiring : (Try.prog.info? 40).map (fun i => (i.zero, i.size, i.bytes)) = some (some (.agg #[.int .u64 0, .int .u64 0, .int .u64 0, .int .u64 0]), 4, 32) := by kernel_rfl
/-- a firing's cells -/
def FiringV.cl (z : FiringV) : List Value := [.int .u64 z.id, .int .u64 z.gen, .int .u64 z.dl, .int .u64 z.tick]
/-- a row of firings, cell by cell -/
def cells4 (ts : List FiringV) : List Value := ts.flatMap FiringV.cl
theorem cells4_snoc (ts : List FiringV) (t : FiringV) : cells4 (ts ++ [t]) = cells4 ts ++ t.cl := by unfold cells4; simp
theorem cells4_len (ts : List FiringV) : (cells4 ts).length = ts.length * 4 := by
  induction ts with
  | nil => rfl
  | cons x l ih => show (x.cl ++ cells4 l).length = _; rw [List.length_append, ih, List.length_cons]; show 4 + _ = _; omega
theorem cells4_at : ∀ (ts : List FiringV) (j : Nat) (t : FiringV) (i : Nat), ts[j]? = some t → i < 4 → (cells4 ts)[j * 4 + i]? = some (FC t.v i)
  | [], _, _, _, h, _ => by simp at h
  | x :: ts, 0, t, i, h, hi => by
    simp at h
    subst h
    show (x.cl ++ cells4 ts)[0 * 4 + i]? = _
    rw [List.getElem?_append_left (by show 0 * 4 + i < 4; omega), Nat.zero_mul, Nat.zero_add]
    match i, hi with
    | 0, _ => rfl
    | 1, _ => rfl
    | 2, _ => rfl
    | 3, _ => rfl
  | x :: ts, j + 1, t, i, h, hi => by
    show (x.cl ++ cells4 ts)[(j + 1) * 4 + i]? = _
    have h5 : x.cl.length = 4 := rfl
    rw [List.getElem?_append_right (by omega), show (j + 1) * 4 + i - x.cl.length = j * 4 + i by omega]
    exact cells4_at ts j t i (by simpa using h) hi
/-- the value is a slice of firings, in a block that Q tells -/
def FRow (Q : Nat → Prop) (w : World) (v : Value) (ts : List FiringV) : Prop :=
  ∃ a cap, v = .slice a ts.length cap ∧ ts.length ≤ cap ∧ cap ≤ maxLen ∧ (0 < ts.length → ∃ b o, a = some ⟨b, o, none⟩ ∧ b < w.heap.size ∧ Q b ∧ ∀ j t, ts[j]? = some t → ∀ i, i < 4 → w.cell? ⟨b, o + j * 4 + i, none⟩ = some (FC t.v i))
theorem FRow.nil (Q : Nat → Prop) (w : World) (a : Option Addr) (cap : Nat) (hc : cap ≤ maxLen) : FRow Q w (.slice a 0 cap) [] := ⟨a, cap, rfl, Nat.zero_le _, hc, fun h => absurd h (by simp)⟩
theorem FRow.of_owns {w : World} {base : Nat} {v : Value} {n : Nat} {ts : List FiringV} (h : w.ownsRow base 40 4 v n (cells4 ts)) : FRow (base ≤ ·) w v ts := by
  obtain ⟨hl, ⟨rfl, h0⟩ | ⟨g, cap, cur, rfl, hb, hg, hn, hm, hc, ht⟩⟩ := h
  · rw [cells4_len] at hl
    obtain rfl : ts = [] := List.eq_nil_of_length_eq_zero (by omega)
    exact ⟨none, 0, rfl, Nat.le_refl _, Nat.zero_le _, fun h9 => absurd h9 (by simp)⟩
  · rw [cells4_len] at hl
    obtain rfl : n = ts.length := by omega
    refine ⟨some ⟨g, 0, none⟩, cap, rfl, hn, hm, fun _ => ⟨g, 0, rfl, lt_of_block hg, hb, fun j t hj i hi => ?_⟩⟩
    have h9 := cells4_at ts j t i hj hi
    rw [← ht] at h9
    have hlt := (List.getElem?_eq_some_iff.1 h9).1
    rw [List.length_take] at hlt
    rw [List.getElem?_take_of_lt (by omega)] at h9
    simp only [World.cell?, hg, Nat.zero_add]
    simpa using h9
theorem FRow.keep {Q : Nat → Prop} {S : Nat → Prop} {w w' : World} {v : Value} {ts : List FiringV} (h : FRow Q w v ts) (k : Kept S w w') (hn : ∀ b, Q b → b < w.heap.size → ¬ S b) : FRow Q w' v ts := by
  obtain ⟨a, cap, hv, hl, hm, h0⟩ := h
  refine ⟨a, cap, hv, hl, hm, fun hp => ?_⟩
  obtain ⟨b, o, ha, hb, hq, hc⟩ := h0 hp
  exact ⟨b, o, ha, Nat.lt_of_lt_of_le hb k.size, hq, fun j t hj i hi => (World.cell?_of_block (a := ⟨b, o + j * 4 + i, none⟩) (k.block b hb (hn b hq hb))).trans (hc j t hj i hi)⟩
theorem FRow.still {Q : Nat → Prop} {w w' : World} {v : Value} {ts : List FiringV} (h : FRow Q w v ts) (k : Still w w') : FRow Q w' v ts := h.keep k (fun _ _ _ f => f)
theorem FRow.mono {Q R : Nat → Prop} {w : World} {v : Value} {ts : List FiringV} (h : FRow Q w v ts) (hq : ∀ b, b < w.heap.size → Q b → R b) : FRow R w v ts := by
  obtain ⟨a, cap, hv, hl, hm, h0⟩ := h
  exact ⟨a, cap, hv, hl, hm, fun hp => by obtain ⟨b, o, ha, hb, h1, hc⟩ := h0 hp; exact ⟨b, o, ha, hb, hq b hb h1, hc⟩⟩
theorem FRow.inside {Q : Nat → Prop} {w : World} {v : Value} {ts : List FiringV} (h : FRow Q w v ts) : FRow (fun b => Q b ∧ b < w.heap.size) w v ts := by
  obtain ⟨a, cap, hv, hl, hm, h0⟩ := h
  exact ⟨a, cap, hv, hl, hm, fun hp => by obtain ⟨b, o, ha, hb, h1, hc⟩ := h0 hp; exact ⟨b, o, ha, hb, ⟨h1, hb⟩, hc⟩⟩
theorem firing_eq {t u : FiringV} : t = u ↔ t.id = u.id ∧ t.gen = u.gen ∧ t.dl = u.dl ∧ t.tick = u.tick := by
  constructor
  · rintro rfl; exact ⟨rfl, rfl, rfl, rfl⟩
  · cases t; cases u; rintro ⟨rfl, rfl, rfl, rfl⟩; rfl
theorem neq_firing (t u : FiringV) (W : World) : (binOp .neq 40 t.v u.v).run Try.prog W = .ok (.bool (!decide (t = u))) W := by
  have hp : Try.prog.stoodInHeld 40 = false := by kernel_rfl
  have ht : Try.prog.underlying 40 = some (.struct (Try.prog.fieldsOf 40)) := by kernel_rfl
  rw [run_neq_struct, run_equalIn_agg W 9999 _ _ _ ht hp]
  clear hp ht
  simp [go_sem, Op.eqFields]
  by_cases h : t = u
  · subst h; simp
  · have h2 := h
    rw [firing_eq] at h2
    rw [decide_eq_false h]
    repeat' split
    all_goals first | rfl | (exfalso; exact h2 ⟨by assumption, by assumption, by assumption, by assumption⟩)
/-- two rows of firings are compared -/
theorem rsame (x y : Value) (ts us : List FiringV) (Q Q' : Nat → Prop) (w : World) (hx : FRow Q w x ts) (hy : FRow Q' w y us) (hbig : ts.length < 1000000) : Calls Try.prog 16 #[x, y] w fun e w' => e = .returned (.bool (decide (ts = us))) ∧ Still w w' := by
  obtain ⟨a, c, rfl, hl, hm, h0⟩ := hx
  obtain ⟨b, d, rfl, hl', hm', h0'⟩ := hy
  by_cases hne : ts.length = us.length
  · obtain ⟨n, hn⟩ : ∃ n, ts.length = n := ⟨_, rfl⟩
    have hn2 : us.length = n := by rw [← hne, hn]
    rw [hn] at hl h0 hbig ⊢
    rw [hn2] at hl' h0' ⊢
    have HX := Lib.hid h0
    have HY := Lib.hid h0'
    have HN := Lib.hid (And.intro hn hn2)
    clear h0 h0' hn hn2 hne
    go_enter Try.func16, Try.ntmps16
    go_wp2_with fail
    go_loopw [5] (fun p wr => ∃ j : Nat, p = .int .i64 j ∧ j ≤ n ∧ (∀ i, i < j → ts[i]? = us[i]?) ∧ Still w wr) (fun p _ => n - (intOf p).toNat)
    case atStart => exact ⟨0, rfl, Nat.zero_le _, by omega, still_refl w⟩
    case round =>
      obtain ⟨j, rfl, hj, hall, hk⟩ := hrel
      have HA := Lib.hid hall
      clear hall
      by_cases hjn : j < n
      · obtain ⟨t, ht⟩ : ∃ t, ts[j]? = some t := ⟨_, List.getElem?_eq_getElem (by rw [HN.out.1]; exact hjn)⟩
        obtain ⟨u, hu⟩ : ∃ u, us[j]? = some u := ⟨_, List.getElem?_eq_getElem (by rw [HN.out.2]; exact hjn)⟩
        obtain ⟨A, oA, rfl, hA, -, hcA⟩ := HX.out (by omega)
        obtain ⟨B, oB, rfl, hB, -, hcB⟩ := HY.out (by omega)
        have cell : ∀ (X i : Nat) (v : Value), X < w.heap.size → w.cell? ⟨X, i, none⟩ = some v → wr.cell? ⟨X, i, none⟩ = some v := fun X i v hX hc => (World.cell?_of_block (a := ⟨X, i, none⟩) (hk.block X hX (fun f => f))).trans hc
        have a0 : wr.cell? ⟨A, oA + j * 4, none⟩ = some (.int .u64 t.id) := cell _ _ _ hA (hcA j t ht 0 (by omega))
        have a1 : wr.cell? ⟨A, oA + j * 4 + 1, none⟩ = some (.int .u64 t.gen) := cell _ _ _ hA (hcA j t ht 1 (by omega))
        have a2 : wr.cell? ⟨A, oA + j * 4 + 2, none⟩ = some (.int .u64 t.dl) := cell _ _ _ hA (hcA j t ht 2 (by omega))
        have a3 : wr.cell? ⟨A, oA + j * 4 + 3, none⟩ = some (.int .u64 t.tick) := cell _ _ _ hA (hcA j t ht 3 (by omega))
        have b0 : wr.cell? ⟨B, oB + j * 4, none⟩ = some (.int .u64 u.id) := cell _ _ _ hB (hcB j u hu 0 (by omega))
        have b1 : wr.cell? ⟨B, oB + j * 4 + 1, none⟩ = some (.int .u64 u.gen) := cell _ _ _ hB (hcB j u hu 1 (by omega))
        have b2 : wr.cell? ⟨B, oB + j * 4 + 2, none⟩ = some (.int .u64 u.dl) := cell _ _ _ hB (hcB j u hu 2 (by omega))
        have b3 : wr.cell? ⟨B, oB + j * 4 + 3, none⟩ = some (.int .u64 u.tick) := cell _ _ _ hB (hcB j u hu 3 (by omega))
        have hneq := neq_firing t u
        have HT := Lib.hid (And.intro ht hu)
        clear cell hcA hcB ht hu
        go_wp2_with fail
        go_quiet (fail)
        by_cases htu : t = u
        · rw [decide_eq_true htu]
          go_wp2_with fail
          go_roundw
          case rel => exact ⟨j + 1, by go_num, hjn, fun i hi => (by
            rcases Nat.lt_or_ge i j with h9 | h9
            · exact HA.out i h9
            · obtain rfl : i = j := by omega
              rw [HT.out.1, HT.out.2, htu]), hk.drewN nq⟩
          case measure => simp [intOf]; omega
        · rw [decide_eq_false htu]
          go_wp2_with fail
          go_ret
          refine ⟨?_, hk.drewN nq⟩
          have hd : decide (ts = us) = false := decide_eq_false (fun h9 => by
            have h8 := HT.out.1
            rw [h9, HT.out.2] at h8
            exact htu (Option.some.inj h8).symm)
          rw [hd]
          rfl
      · obtain rfl : j = n := by omega
        go_wp2_with fail
        go_ret
        refine ⟨?_, hk⟩
        have hd : decide (ts = us) = true := decide_eq_true (List.ext_getElem? fun i => by
          rcases Nat.lt_or_ge i j with h9 | h9
          · exact HA.out i h9
          · rw [List.getElem?_eq_none (by rw [HN.out.1]; exact h9), List.getElem?_eq_none (by rw [HN.out.2]; exact h9)])
        rw [hd]
        rfl
  · have hd : decide (ts = us) = false := decide_eq_false (fun e => hne (by rw [e]))
    rw [hd]
    have hb : ((ts.length : Int) != (us.length : Int)) = true := by rw [bne_iff_ne]; omega
    clear h0 h0' hd
    generalize ts.length = n1 at *
    generalize us.length = n2 at *
    go_enter Try.func16, Try.ntmps16
    go_wp2_with fail
    go_ret
    exact ⟨rfl, still_refl w⟩
/-- a log that has firings: its block has the colour 6, its row 3 -/
abbrev LGS (c : Nat) : Prop := c = 3 ∨ c = 6
def LG (col : Nat → Nat) (g : Nat) (xs : List FiringV) (W : World) : Prop := ∃ v, BlkC col 6 W g #[v] 137 ∧ Owns col 3 W 40 4 v xs.length (cells4 xs)
theorem LG.move {S : Nat → Prop} {col col' : Nat → Nat} {g : Nat} {xs : List FiringV} {W W' : World} (h : LG col g xs W) (m : Move S col col' W W') (hn : ¬ S 3) (hn6 : ¬ S 6) : LG col' g xs W' := by
  obtain ⟨v, h1, h2⟩ := h
  exact ⟨v, h1.move m hn6, h2.move m hn⟩
theorem Owns.add {col : Nat → Nat} {c : Nat} {w w1 : World} {e : TypeId} {sz n n0 : Nat} {v v' : Value} {xs ys : List Value} (h : Owns col c w e sz v n0 ys) (ha : Appended w w1 0 e sz v v' n xs) : Owns (ext col w.heap.size c) c w1 e sz v' n xs ∧ Move (· = c) col (ext col w.heap.size c) w w1 := by
  refine ⟨⟨ha.owns, fun g hg => ?_⟩, recol_ext _ _ _, (Kept.refl _ w).grown ha.grown (fun k e _ => h.2 k e)⟩
  rcases ha.block g hg with h1 | h1
  · rw [recol_ext col _ c g (owns_lt h.1 g h1)]; exact h.2 g h1
  · exact ext_new col h1
set_option maxHeartbeats 1000000 in
theorem gput {col : Nat → Nat} {g hb cap : Nat} {xs : List FiringV} {x : FiringV} {w : World} (h : LG col g xs w) (hl : xs.length < 1000000) (hcap : 1 ≤ cap ∧ cap ≤ maxLen)
    (d0 : w.cell? ⟨hb, 0, none⟩ = some (.int .u64 x.id)) (d1 : w.cell? ⟨hb, 1, none⟩ = some (.int .u64 x.gen)) (d2 : w.cell? ⟨hb, 2, none⟩ = some (.int .u64 x.dl)) (d3 : w.cell? ⟨hb, 3, none⟩ = some (.int .u64 x.tick)) :
    Calls Try.prog 79 #[.pointer (some ⟨g, 0, none⟩), .slice (some ⟨hb, 0, none⟩) 1 cap] w fun e w' => e = .returned (.tuple #[]) ∧ ∃ col', Move LGS col col' w w' ∧ LG col' g (xs ++ [x]) w' := by
  obtain ⟨i0, hi, hz0, hz1, hz2⟩ := info_parts infoFiring
  obtain ⟨v, bg, ow⟩ := h
  have c0 : w.cell? ⟨g, 0, none⟩ = some v := bg.1.cell 0
  have hoa := ow.1
  obtain ⟨oa, oc, rfl, -, -⟩ := ow.form
  have hcl : ∀ j u, x.cl[j]? = some u → w.cell? ((⟨hb, 0, none⟩ : Addr).add j) = some u := fun j u hj => by
    rw [addr_add, Nat.zero_add]
    match j, hj with
    | 0, hj => rw [d0]; exact hj
    | 1, hj => rw [d1]; exact hj
    | 2, hj => rw [d2]; exact hj
    | 3, hj => rw [d3]; exact hj
  have BG := Lib.hid bg
  have OW := Lib.hid ow
  have HCL := Lib.hid hcl
  have HC := Lib.hid hcap
  clear bg ow hcl hcap d0 d1 d2 d3
  obtain ⟨L, hL⟩ : ∃ L, L = xs.length := ⟨_, rfl⟩
  rw [← hL] at hoa hl c0
  have HL := Lib.hid hL
  rw [← hL] at BG OW
  clear hL
  go_enter Try.func79, Try.ntmps79
  go_wp2_with (first | (at_builtin; go_loud (refine wpList_append _ rfl _ _ 22 rfl 0 40 i0 (.agg #[.int .u64 0, .int .u64 0, .int .u64 0, .int .u64 0]) 4 32 Try.underlying22 hi hz0 hz1 hz2 rfl (by decide) _ _ _ rfl hoa ⟨hb, 0, none⟩ 1 cap x.cl rfl rfl HCL.out (by intro u hu; simp only [FiringV.cl, List.mem_cons, List.not_mem_nil, or_false] at hu; rcases hu with rfl | rfl | rfl | rfl <;> rfl) (by unfold maxLen; omega) (by omega) (Nat.zero_le _) ?_)) | fail)
  intro v1 w1 hap
  obtain ⟨o1, m1⟩ := Owns.add OW.out hap
  obtain ⟨a1, c1, rfl⟩ := owns_slice hap.owns
  have b1 := BG.out.move m1 (by show ¬ 6 = 3; omega)
  have f0 := b1.1.free 0
  have c1' : w1.cell? ⟨g, 0, none⟩ = some (.slice oa L oc) := b1.1.cell 0
  clear hap hoa c0
  go_wp2_with fail
  go_end0
  have m2 : Move LGS (ext col w.heap.size 3) (ext col w.heap.size 3) w1 (w1.setCell ⟨g, 0, none⟩ (.slice a1 (L + 1) c1)) := .still' ((only_refl g w1).put 0 _) (fun y hy => by show _ ∨ _; rw [hy]; exact .inr b1.2)
  refine ⟨rfl, ext col w.heap.size 3, (m1.mono (fun c h => .inl h)).trans m2, _, ⟨b1.1.set' rfl, b1.2⟩, ?_⟩
  rw [List.length_append, List.length_singleton, ← HL.out, cells4_snoc]
  exact o1.kept ((only_refl g w1).put 0 _) (fun y _ h3 e => by rw [e, b1.2] at h3; omega)
end Go.Proofs.Ytbikganlloopbaa
