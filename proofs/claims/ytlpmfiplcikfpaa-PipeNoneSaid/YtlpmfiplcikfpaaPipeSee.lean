/-
  What stands here: what a pipe tells. Under no condition but that the world holds it.
-/
import Derived.Test.YtlpmfiplcikfpaaPipe
import Derived.Deep.RegionWith
import Derived.Deep.CutRange
import Derived.Deep.CutBlock
namespace Go.Proofs.Ytlpmfiplcikfpaa
set_option linter.unusedVariables false
set_option linter.unusedSimpArgs false
open Go.RowKit Go.Proofs
open Go.Conc

section
variable {s : LS} {p c l N : Nat} {xs : List Int} {most : Nat} {shut : Bool}
set_option maxRecDepth 100000 in
theorem pspilled_i (w : World) (h : PW_i s w p c l N xs most shut) : Calls Try.prog 12 #[.pointer (some ⟨p, 0, none⟩)] w fun e w' => e = .returned (.int .i64 (xs.length - N : Nat)) ∧ w = w' := by
  have hl := llen_i s w h.lw l h.kl
  rw [h.len] at hl
  have c1 : w.cell? ⟨p, 1, none⟩ = some (.pointer (some ⟨l, 0, none⟩)) := h.blk.cell 1
  have HL := Lib.hid hl
  clear h hl
  generalize xs.length - N = q at *
  go_enter Try.func12, Try.ntmps12
  go_wp2_with fail
  refine HL.out.mono ?_
  rintro e w1 ⟨rfl, rfl⟩
  go_wp2_with fail
  go_ret
  exact ⟨rfl, rfl⟩
set_option maxRecDepth 100000 in
theorem pmost_i (w : World) (h : PW_i s w p c l N xs most shut) : Calls Try.prog 15 #[.pointer (some ⟨p, 0, none⟩)] w fun e w' => e = .returned (.int .i64 most) ∧ w = w' := by
  have c2 : w.cell? ⟨p, 2, none⟩ = some (.int .i64 most) := h.blk.cell 2
  clear h
  go_enter Try.func15, Try.ntmps15
  go_wp2_with fail
  go_ret
  exact ⟨rfl, rfl⟩
set_option maxRecDepth 100000 in
theorem pshut_i (w : World) (h : PW_i s w p c l N xs most shut) : Calls Try.prog 13 #[.pointer (some ⟨p, 0, none⟩)] w fun e w' => e = .returned (.int .i64 (if shut then 3 else 0)) ∧ PW_i s w' p c l N xs most true ∧ Kept (fun y => y = p) w w' := by
  have c3 : w.cell? ⟨p, 3, none⟩ = some (.bool shut) := h.blk.cell 3
  have f3 := h.blk.free 3
  have H := Lib.hid h
  clear h
  cases shut with
  | true =>
    go_enter Try.func13, Try.ntmps13
    go_wp2_with fail
    go_ret
    exact ⟨rfl, H.out, Kept.refl _ _⟩
  | false =>
    go_enter Try.func13, Try.ntmps13
    go_wp2_with fail
    go_ret
    have k5 : Kept (fun y => y = p) w (w.setCell ⟨p, 3, none⟩ (.bool true)) := Kept.setCell (S := fun y => y = p) (Kept.refl _ _) (fun _ => rfl) _
    have P4 := H.out
    exact ⟨rfl, ⟨P4.blk.set' rfl, P4.ch.kept k5 (fun e => P4.pc e.symm), P4.lw.kept k5 (fun x hx e => hx (by have h9 : x = p := e; rw [h9]; exact P4.sp)), P4.kl, P4.sp, P4.sc, P4.vals, P4.n1⟩, k5⟩
set_option maxRecDepth 100000 in
theorem pclosed_i (w : World) (h : PW_i s w p c l N xs most shut) : Calls Try.prog 14 #[.pointer (some ⟨p, 0, none⟩)] w fun e w' => e = .returned (.bool (shut && decide (xs.length = 0))) ∧ w = w' := by
  have c0 : w.cell? ⟨p, 0, none⟩ = some (.chan (some c)) := h.blk.cell 0
  have c3 : w.cell? ⟨p, 3, none⟩ = some (.bool shut) := h.blk.cell 3
  obtain ⟨sn, rn, hc⟩ := h.ch
  have hlen := fun ty => run_len_chan (P := Try.prog) 56 ty Try.underlying56 hc
  rw [take_size_i] at hlen
  have hn1 := h.n1
  clear h
  cases shut with
  | false =>
    go_enter Try.func14, Try.ntmps14
    go_wp2_with fail
    go_ret
    exact ⟨by rfl, rfl⟩
  | true =>
    obtain ⟨m, hm⟩ : ∃ m, m = min N xs.length := ⟨_, rfl⟩
    rw [← hm] at hlen
    by_cases h0 : xs.length = 0
    · have e0 : m = 0 := by omega
      rw [decide_eq_true h0]
      subst e0
      clear hm
      go_enter Try.func14, Try.ntmps14
      go_wp2_with fail
      go_ret
      exact ⟨by rfl, rfl⟩
    · have e0 : ((m : Int) == 0) = false := by rw [beq_eq_false_iff_ne]; omega
      rw [decide_eq_false h0]
      clear hm
      go_enter Try.func14, Try.ntmps14
      go_wp2_with fail
      go_ret
      exact ⟨by rfl, rfl⟩
set_option maxRecDepth 100000 in
theorem plen_i (w : World) (h : PW_i s w p c l N xs most shut) (hx : xs.length < 100000) : Calls Try.prog 11 #[.pointer (some ⟨p, 0, none⟩)] w fun e w' => e = .returned (.int .i64 xs.length) ∧ Still w w' := by
  have c0 : w.cell? ⟨p, 0, none⟩ = some (.chan (some c)) := h.blk.cell 0
  have c1 : w.cell? ⟨p, 1, none⟩ = some (.pointer (some ⟨l, 0, none⟩)) := h.blk.cell 1
  obtain ⟨sn, rn, hc⟩ := h.ch
  have hlen : ∀ n ty, (Builtin.len_ #[56] ty #[.chan (some c)]).run Try.prog (w.drewN n) = .ok (goInt (min N xs.length : Nat)) (w.drewN n) := fun n ty => by
    have hc' : (w.drewN n).heap[c]? = some (.chan N ((xs.take N).map pv_i).toArray false sn rn false) := hc
    have := run_len_chan (P := Try.prog) 56 ty Try.underlying56 hc'
    rw [take_size_i] at this
    exact this
  have hl : ∀ n, Calls Try.prog 26 #[.pointer (some ⟨l, 0, none⟩)] (w.drewN n) fun e w' => e = .returned (.int .i64 (xs.length - N : Nat)) ∧ w' = w.drewN n := fun n => by
    have := llen_i s (w.drewN n) (h.lw.still ((still_refl w).drewN n)) l h.kl
    rw [h.len] at this
    exact this.mono fun e w' h9 => ⟨h9.1, h9.2.symm⟩
  have HL := Lib.hid hl
  clear h hl hc
  obtain ⟨m, hm⟩ : ∃ m, m = min N xs.length := ⟨_, rfl⟩
  obtain ⟨q, hq⟩ : ∃ q, q = xs.length - N := ⟨_, rfl⟩
  rw [← hm] at hlen
  rw [← hq] at HL
  have e9 : (m : Int) + q = xs.length := by omega
  have E9 := Lib.hid e9
  have hmb : m < 200000 := by omega
  have hqb : q < 200000 := by omega
  clear hm hq e9
  generalize xs.length = X at *
  go_enter Try.func11, Try.ntmps11
  go_upto_region 3 with fail
  go_quiet (exact Calls.quiet_of_same (HL.out _))
  go_wp2_with fail
  go_ret
  exact ⟨by rw [← E9.out]; rfl, (still_refl w).drewN _⟩
end

section
variable {s : LS} {p c l N : Nat} {xs : List ByteArray} {most : Nat} {shut : Bool}
set_option maxRecDepth 100000 in
theorem pspilled_s (w : World) (h : PW_s s w p c l N xs most shut) : Calls Try.prog 24 #[.pointer (some ⟨p, 0, none⟩)] w fun e w' => e = .returned (.int .i64 (xs.length - N : Nat)) ∧ w = w' := by
  have hl := llen_s s w h.lw l h.kl
  rw [h.len] at hl
  have c1 : w.cell? ⟨p, 1, none⟩ = some (.pointer (some ⟨l, 0, none⟩)) := h.blk.cell 1
  have HL := Lib.hid hl
  clear h hl
  generalize xs.length - N = q at *
  go_enter Try.func24, Try.ntmps24
  go_wp2_with fail
  refine HL.out.mono ?_
  rintro e w1 ⟨rfl, rfl⟩
  go_wp2_with fail
  go_ret
  exact ⟨rfl, rfl⟩
end

end Go.Proofs.Ytlpmfiplcikfpaa
