/-
  What stands here: a ticket of a ring of tasks: its step. Under no condition but that the blocks hold it.
-/
import Derived.Test.YthamdbfilpegjaaRingK
import Derived.Laws.EntriesVeiled
namespace Go.Proofs.Ythamdbfilpegjaa
set_option linter.unusedVariables false
set_option linter.unusedSimpArgs false
open Go.RowKit Go.Proofs

set_option maxHeartbeats 1000000 in
/-- a ticket's step -/
theorem kstepped_t {b sb tk : Nat} {T Ts Tt : TypeId} {r : RS} {k : TS} (w : World) (h : RingK b sb T Ts r w) (ht : Blk w tk (tickC b k) Tt) (hb : tk ≠ b) (hsb : tk ≠ sb) (hk : TickOk r k) (hbig : r.t + 1 < 1000000000000) :
    Calls Try.prog 13 #[.pointer (some ⟨tk, 0, none⟩)] w fun e w' => e = .returned (.int .i64 (stepK r k).2.status) ∧ RingK b sb T Ts (stepK r k).1 w' ∧ Blk w' tk (tickC b (stepK r k).2) Tt ∧ Kept (fun x => x = b ∨ x = sb ∨ x = tk) w w' := by
  have htl := ht.lt
  have bF := Blk.new w #[.func (.func 33) #[] #[], .func (.func 34) #[] #[], .func (.func 35) #[] #[]] 78
  have hA : Still w (w.alloc (.cells #[.func (.func 33) #[] #[], .func (.func 34) #[] #[], .func (.func 35) #[] #[]] 78)) := (still_refl w).alloc _
  have hA' := h.still hA
  have htA := ht.still hA
  have c3 : (w.alloc (.cells #[.func (.func 33) #[] #[], .func (.func 34) #[] #[], .func (.func 35) #[] #[]] 78)).cell? ⟨tk, 3, none⟩ = some (.int .i64 k.status) := htA.cell 3
  have c2 : (w.alloc (.cells #[.func (.func 33) #[] #[], .func (.func 34) #[] #[], .func (.func 35) #[] #[]] 78)).cell? ⟨tk, 2, none⟩ = some (.int .i64 k.next) := htA.cell 2
  have HA := Lib.hid hA
  have HA' := Lib.hid hA'
  have HTA := Lib.hid htA
  clear hA hA' htA
  have hn2 := hk.next
  by_cases hs : k.status = 0
  · have hs1 : ((k.status : Int) == 0) = true := by rw [beq_iff_eq]; omega
    obtain ⟨kp, kn, ks, kf⟩ := k
    simp only at hs hs1 c2 c3 hn2 HTA hk
    subst hs
    match kn, hn2 with
    | 0, _ =>
      go_enter Try.func13, Try.ntmps13
      go_wp2_with fail
      refine (klook_t _ HA'.out HTA.out hb hsb).mono ?_
      rintro e w1 ⟨rfl, h1, ht1, k1⟩
      have e3 := ht1.cell 3
      have HI := Lib.hid h1
      have HT := Lib.hid ht1
      have HK := Lib.hid k1
      clear h1 ht1 k1
      go_wp2_with fail
      go_ret
      exact ⟨by simp [stepK], by simpa [stepK] using HI.out, by simpa [stepK] using HT.out, (HA.out.then (HK.out.mono (fun _ _ h => by rcases h with h | h; exact .inl h; exact .inr (.inr h))))⟩
    | 1, _ =>
      obtain ⟨st, hst⟩ : ∃ st, st = (weighK r ⟨kp, 1, 0, kf⟩).status := ⟨_, rfl⟩
      have HST := Lib.hid hst
      go_enter Try.func13, Try.ntmps13
      go_wp2_with fail
      refine (kweigh_t _ HA'.out HTA.out hb hsb hk.pos).mono ?_
      rintro e w1 ⟨rfl, h1, ht1, k1⟩
      have e3 := ht1.cell 3
      have HI := Lib.hid h1
      have HT := Lib.hid ht1
      have HK := Lib.hid k1
      clear h1 ht1 k1
      have e3' : w1.cell? ⟨tk, 3, none⟩ = some (.int .i64 st) := by rw [hst]; exact e3
      clear e3 hst
      go_wp2_with fail
      go_ret
      exact ⟨by rw [HST.out]; simp [stepK], by simpa [stepK] using HI.out, by simpa [stepK] using HT.out, (HA.out.then (HK.out.mono (fun _ _ h => by exact .inr h)))⟩
    | 2, _ =>
      by_cases he : kp = r.t
      · have hc := ktake_t _ HA'.out HTA.out hb hsb hk.pos (fun e => ⟨by have := hk.room rfl rfl; simp only at this e; omega, hbig⟩)
        rw [if_pos he, if_pos he] at hc
        have HS : Hid (stepK r ⟨kp, 2, 0, kf⟩ = (r.more, ⟨kp, 0, 2, kf⟩)) := Lib.hid (by show (if kp = r.t then r.more else r, if kp = r.t then (⟨kp, 0, 2, kf⟩ : TS) else ⟨kp, 0, 0, kf⟩) = _; rw [if_pos he, if_pos he])
        have HC := Lib.hid hc
        clear hc he
        go_enter Try.func13, Try.ntmps13
        go_wp2_with fail
        refine HC.out.mono ?_
        rintro e w1 ⟨rfl, h1, ht1, k1⟩
        have e3 := ht1.cell 3
        have HI := Lib.hid h1
        have HT := Lib.hid ht1
        have HK := Lib.hid k1
        clear h1 ht1 k1
        go_wp2_with fail
        go_ret
        rw [HS.out]
        exact ⟨rfl, HI.out, HT.out, HA.out.then (HK.out.mono (fun _ _ h => by rcases h with h | h; exact .inl h; exact .inr (.inr h)))⟩
      · have hc := ktake_t _ HA'.out HTA.out hb hsb hk.pos (fun e => ⟨by have := hk.room rfl rfl; simp only at this e; omega, hbig⟩)
        rw [if_neg he, if_neg he] at hc
        have HS : Hid (stepK r ⟨kp, 2, 0, kf⟩ = (r, ⟨kp, 0, 0, kf⟩)) := Lib.hid (by show (if kp = r.t then r.more else r, if kp = r.t then (⟨kp, 0, 2, kf⟩ : TS) else ⟨kp, 0, 0, kf⟩) = _; rw [if_neg he, if_neg he])
        have HC := Lib.hid hc
        clear hc he
        go_enter Try.func13, Try.ntmps13
        go_wp2_with fail
        refine HC.out.mono ?_
        rintro e w1 ⟨rfl, h1, ht1, k1⟩
        have e3 := ht1.cell 3
        have HI := Lib.hid h1
        have HT := Lib.hid ht1
        have HK := Lib.hid k1
        clear h1 ht1 k1
        go_wp2_with fail
        go_ret
        rw [HS.out]
        exact ⟨rfl, HI.out, HT.out, HA.out.then (HK.out.mono (fun _ _ h => by rcases h with h | h; exact .inl h; exact .inr (.inr h)))⟩
  · have hs1 : ((k.status : Int) == 0) = false := by rw [beq_eq_false_iff_ne]; omega
    have hS : stepK r k = (r, k) := by unfold stepK; rw [if_neg hs]
    rw [hS]
    go_enter Try.func13, Try.ntmps13
    go_wp2_with fail
    go_ret
    exact ⟨rfl, HA'.out, HTA.out, HA.out.mono (fun _ _ f => f.elim)⟩
end Go.Proofs.Ythamdbfilpegjaa
