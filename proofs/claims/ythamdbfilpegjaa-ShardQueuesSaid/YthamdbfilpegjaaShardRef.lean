/-
  What stands here: rows of tasks compared, by the program. Under no condition but that the world holds them.
-/
import Derived.Test.YthamdbfilpegjaaShardTurn
import Derived.Deep.QuietTactic
import Derived.BigQuiet
namespace Go.Proofs.Ythamdbfilpegjaa
set_option linter.unusedVariables false
set_option linter.unusedSimpArgs false
open Go.RowKit Go.Proofs
deriving instance DecidableEq for TaskV
theorem task_eq {t u : TaskV} : t = u ↔ t.id = u.id ∧ t.slot = u.slot ∧ t.gen = u.gen ∧ t.dl = u.dl ∧ t.per = u.per := by
  constructor
  · rintro rfl; exact ⟨rfl, rfl, rfl, rfl, rfl⟩
  · cases t; cases u; rintro ⟨rfl, rfl, rfl, rfl, rfl⟩; rfl
theorem neq_task (t u : TaskV) (W : World) : (binOp .neq 31 t.v u.v).run Try.prog W = .ok (.bool (!decide (t = u))) W := by
  have hp : Try.prog.stoodInHeld 31 = false := by kernel_rfl
  have ht : Try.prog.underlying 31 = some (.struct (Try.prog.fieldsOf 31)) := by kernel_rfl
  rw [run_neq_struct, run_equalIn_agg W 9999 _ _ _ ht hp]
  clear hp ht
  simp [go_sem, Op.eqFields]
  by_cases h : t = u
  · subst h; simp
  · have h2 := h
    rw [task_eq] at h2
    rw [decide_eq_false h]
    repeat' split
    all_goals first | rfl | (exfalso; exact h2 ⟨by assumption, by assumption, by assumption, by assumption, by assumption⟩)
/-- two rows of tasks are compared -/
theorem rtasks (x y : Value) (ts us : List TaskV) (Q Q' : Nat → Prop) (w : World) (hx : TRow Q w x ts) (hy : TRow Q' w y us) (hbig : ts.length < 1000000) : Calls Try.prog 20 #[x, y] w fun e w' => e = .returned (.bool (decide (ts = us))) ∧ Still w w' := by
  obtain ⟨a, c, rfl, hl, hm, h0⟩ := hx
  obtain ⟨b, d, rfl, hl', hm', h0'⟩ := hy
  by_cases hne : ts.length = us.length
  · obtain ⟨n, hn⟩ : ∃ n, ts.length = n := ⟨_, rfl⟩
    have hn2 : us.length = n := by rw [← hne, hn]
    rw [hn] at hl h0 hbig ⊢
    rw [hn2] at hl' h0' ⊢
    have HX := Lib.hid h0
    have HY := Lib.hid h0'
    have HN := Lib.hid (And.intro hn hn2)
    clear h0 h0' hn hn2 hne
    go_enter Try.func20, Try.ntmps20
    go_wp2_with fail
    go_loopw [5] (fun p wr => ∃ j : Nat, p = .int .i64 j ∧ j ≤ n ∧ (∀ i, i < j → ts[i]? = us[i]?) ∧ Still w wr) (fun p _ => n - (intOf p).toNat)
    case atStart => exact ⟨0, rfl, Nat.zero_le _, by omega, still_refl w⟩
    case round =>
      obtain ⟨j, rfl, hj, hall, hk⟩ := hrel
      have HA := Lib.hid hall
      clear hall
      by_cases hjn : j < n
      · obtain ⟨t, ht⟩ : ∃ t, ts[j]? = some t := ⟨_, List.getElem?_eq_getElem (by rw [HN.out.1]; exact hjn)⟩
        obtain ⟨u, hu⟩ : ∃ u, us[j]? = some u := ⟨_, List.getElem?_eq_getElem (by rw [HN.out.2]; exact hjn)⟩
        obtain ⟨A, rfl, hA, -, hcA⟩ := HX.out (by omega)
        obtain ⟨B, rfl, hB, -, hcB⟩ := HY.out (by omega)
        have cell : ∀ (X i : Nat) (v : Value), X < w.heap.size → w.cell? ⟨X, i, none⟩ = some v → wr.cell? ⟨X, i, none⟩ = some v := fun X i v hX hc => (World.cell?_of_block (a := ⟨X, i, none⟩) (hk.block X hX (fun f => f))).trans hc
        have a0 : wr.cell? ⟨A, j * 5, none⟩ = some (.int .u64 t.id) := by rw [Nat.mul_comm]; exact cell _ _ _ hA (hcA j t ht 0 (by omega))
        have a1 : wr.cell? ⟨A, j * 5 + 1, none⟩ = some (.int .i64 t.slot) := by rw [Nat.mul_comm]; exact cell _ _ _ hA (hcA j t ht 1 (by omega))
        have a2 : wr.cell? ⟨A, j * 5 + 2, none⟩ = some (.int .u64 t.gen) := by rw [Nat.mul_comm]; exact cell _ _ _ hA (hcA j t ht 2 (by omega))
        have a3 : wr.cell? ⟨A, j * 5 + 3, none⟩ = some (.int .u64 t.dl) := by rw [Nat.mul_comm]; exact cell _ _ _ hA (hcA j t ht 3 (by omega))
        have a4 : wr.cell? ⟨A, j * 5 + 4, none⟩ = some (.int .u64 t.per) := by rw [Nat.mul_comm]; exact cell _ _ _ hA (hcA j t ht 4 (by omega))
        have b0 : wr.cell? ⟨B, j * 5, none⟩ = some (.int .u64 u.id) := by rw [Nat.mul_comm]; exact cell _ _ _ hB (hcB j u hu 0 (by omega))
        have b1 : wr.cell? ⟨B, j * 5 + 1, none⟩ = some (.int .i64 u.slot) := by rw [Nat.mul_comm]; exact cell _ _ _ hB (hcB j u hu 1 (by omega))
        have b2 : wr.cell? ⟨B, j * 5 + 2, none⟩ = some (.int .u64 u.gen) := by rw [Nat.mul_comm]; exact cell _ _ _ hB (hcB j u hu 2 (by omega))
        have b3 : wr.cell? ⟨B, j * 5 + 3, none⟩ = some (.int .u64 u.dl) := by rw [Nat.mul_comm]; exact cell _ _ _ hB (hcB j u hu 3 (by omega))
        have b4 : wr.cell? ⟨B, j * 5 + 4, none⟩ = some (.int .u64 u.per) := by rw [Nat.mul_comm]; exact cell _ _ _ hB (hcB j u hu 4 (by omega))
        have hneq := neq_task t u
        have HT := Lib.hid (And.intro ht hu)
        clear cell hcA hcB ht hu
        go_wp2_with fail
        go_quiet (fail)
        by_cases htu : t = u
        · rw [decide_eq_true htu]
          go_wp2_with fail
          go_roundw
          case rel => exact ⟨j + 1, by go_num, hjn, fun i hi => (by
            rcases Nat.lt_or_ge i j with h9 | h9
            · exact HA.out i h9
            · obtain rfl : i = j := by omega
              rw [HT.out.1, HT.out.2, htu]), hk.drewN nq⟩
          case measure => simp [intOf]; omega
        · rw [decide_eq_false htu]
          go_wp2_with fail
          go_ret
          refine ⟨?_, hk.drewN nq⟩
          have hd : decide (ts = us) = false := decide_eq_false (fun h9 => by
            have h8 := HT.out.1
            rw [h9, HT.out.2] at h8
            exact htu (Option.some.inj h8).symm)
          rw [hd]
          rfl
      · obtain rfl : j = n := by omega
        go_wp2_with fail
        go_ret
        refine ⟨?_, hk⟩
        have : ts = us := List.ext_getElem? (fun i => by
          rcases Nat.lt_or_ge i j with h9 | h9
          · exact HA.out i h9
          · rw [List.getElem?_eq_none (by rw [HN.out.1]; exact h9), List.getElem?_eq_none (by rw [HN.out.2]; exact h9)])
        rw [decide_eq_true this]
        rfl
  · have hb : decide (ts = us) = false := decide_eq_false (fun h9 => hne (by rw [h9]))
    rw [hb]
    clear h0 h0' hb
    have hne' : (ts.length : Int) ≠ (us.length : Int) := by omega
    go_enter Try.func20, Try.ntmps20
    go_wp2_with fail
    go_ret
    exact ⟨rfl, still_refl w⟩
end Go.Proofs.Ythamdbfilpegjaa
