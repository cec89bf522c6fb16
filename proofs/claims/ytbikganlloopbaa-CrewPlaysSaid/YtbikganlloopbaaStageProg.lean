/-
  What stands here: what New, Done, May, Step and Steps do with a program whose stage makes steps. Under no condition.
-/
import Derived.Test.YtbikganlloopbaaStageThen
namespace Go.Proofs.Ytbikganlloopbaa
set_option linter.unusedVariables false
set_option linter.unusedSimpArgs false
open Go.RowKit Go.Proofs

def FuncV (v : Value) : Prop := v = .nilFunc ∨ ∃ F caps, v = .func (.func F) #[] caps

theorem new_any (may d : Value) (h1 : FuncV may) (h2 : FuncV d) (w : World) :
    Calls Try.prog 34 #[.agg #[may, d]] w fun e w' => e = .returned (.pointer (some ⟨w.heap.size + 1, 0, none⟩)) ∧ Still w w' ∧ Blk w' (w.heap.size + 1) #[may, d, .int .i64 0] 156 := by
  rcases h1 with rfl | ⟨F, caps, rfl⟩
  all_goals rcases h2 with rfl | ⟨F2, caps2, rfl⟩
  all_goals
    go_enter Try.func34, Try.ntmps34
    go_wp2
    go_ret
    exact ⟨rfl, by (repeat (first | (with_reducible exact Kept.refl _ _) | (with_reducible refine Kept.drewN ?_ _) | (with_reducible refine Kept.drew ?_) | (with_reducible refine Kept.put ?_ _ _) | (with_reducible refine Kept.alloc ?_ _))), Blk.newAt _ _ _ (by simp)⟩

theorem until_any (may d : Value) (h1 : FuncV may) (h2 : FuncV d) (w : World) :
    Calls Try.prog 55 #[may, d] w fun e w' => e = .returned (.agg #[may, d]) ∧ Still w w' := by
  rcases h1 with rfl | ⟨F, caps, rfl⟩
  · rcases h2 with rfl | ⟨F2, caps2, rfl⟩
    · go_enter Try.func55, Try.ntmps55
      go_wp2
      exact bodyPost_ret (v := .agg #[.nilFunc, .nilFunc]) (by simp [results, Try.f55, go_sem]) rfl ⟨rfl, by (repeat (first | (with_reducible exact Kept.refl _ _) | (with_reducible refine Kept.drewN ?_ _) | (with_reducible refine Kept.drew ?_) | (with_reducible refine Kept.put ?_ _ _) | (with_reducible refine Kept.alloc ?_ _)))⟩
    · go_enter Try.func55, Try.ntmps55
      go_wp2
      exact bodyPost_ret (v := .agg #[.nilFunc, .func (.func F2) #[] caps2]) (by simp [results, Try.f55, go_sem]) rfl ⟨rfl, by (repeat (first | (with_reducible exact Kept.refl _ _) | (with_reducible refine Kept.drewN ?_ _) | (with_reducible refine Kept.drew ?_) | (with_reducible refine Kept.put ?_ _ _) | (with_reducible refine Kept.alloc ?_ _)))⟩
  · rcases h2 with rfl | ⟨F2, caps2, rfl⟩
    · go_enter Try.func55, Try.ntmps55
      go_wp2
      exact bodyPost_ret (v := .agg #[.func (.func F) #[] caps, .nilFunc]) (by simp [results, Try.f55, go_sem]) rfl ⟨rfl, by (repeat (first | (with_reducible exact Kept.refl _ _) | (with_reducible refine Kept.drewN ?_ _) | (with_reducible refine Kept.drew ?_) | (with_reducible refine Kept.put ?_ _ _) | (with_reducible refine Kept.alloc ?_ _)))⟩
    · go_enter Try.func55, Try.ntmps55
      go_wp2
      exact bodyPost_ret (v := .agg #[.func (.func F) #[] caps, .func (.func F2) #[] caps2]) (by simp [results, Try.f55, go_sem]) rfl ⟨rfl, by (repeat (first | (with_reducible exact Kept.refl _ _) | (with_reducible refine Kept.drewN ?_ _) | (with_reducible refine Kept.drew ?_) | (with_reducible refine Kept.put ?_ _ _) | (with_reducible refine Kept.alloc ?_ _)))⟩

theorem done_none (w : World) : Calls Try.prog 63 #[.pointer none] w fun e w' => e = .returned (.bool true) ∧ w = w' := by
  go_enter Try.func63, Try.ntmps63
  go_wp2
  go_ret
  exact ⟨rfl, rfl⟩
theorem done_yes (p : Nat) (may : Value) (n : Int) (T : TypeId) (w : World) (hb : Blk w p #[may, .nilFunc, .int .i64 n] T) :
    Calls Try.prog 63 #[.pointer (some ⟨p, 0, none⟩)] w fun e w' => e = .returned (.bool true) ∧ w = w' := by
  have hE := fun w => nil_eq34 w
  have c1 := hb.cell 1
  go_enter Try.func63, Try.ntmps63
  go_wp2
  go_ret
  exact ⟨rfl, rfl⟩
theorem done_no (p : Nat) (may : Value) (F : FuncId) (caps : Array Value) (n : Int) (T : TypeId) (w : World) (hb : Blk w p #[may, .func (.func F) #[] caps, .int .i64 n] T) :
    Calls Try.prog 63 #[.pointer (some ⟨p, 0, none⟩)] w fun e w' => e = .returned (.bool false) ∧ w = w' := by
  have hE := fun w => func_eq34 F caps w
  have c1 := hb.cell 1
  go_enter Try.func63, Try.ntmps63
  go_wp2
  go_ret
  exact ⟨rfl, rfl⟩

theorem may_none (w : World) : Calls Try.prog 36 #[.pointer none] w fun e w' => e = .returned (.bool false) ∧ w = w' := by
  go_enter Try.func36, Try.ntmps36
  go_wp2_with fail
  refine (done_none _).mono ?_
  rintro e w1 ⟨rfl, rfl⟩
  go_wp2_with fail
  go_ret
  exact ⟨rfl, rfl⟩
theorem may_done (p : Nat) (may : Value) (n : Int) (T : TypeId) (w : World) (hb : Blk w p #[may, .nilFunc, .int .i64 n] T) :
    Calls Try.prog 36 #[.pointer (some ⟨p, 0, none⟩)] w fun e w' => e = .returned (.bool false) ∧ w = w' := by
  go_enter Try.func36, Try.ntmps36
  go_wp2_with fail
  refine (done_yes p may n T w hb).mono ?_
  rintro e w1 ⟨rfl, rfl⟩
  go_wp2_with fail
  go_ret
  exact ⟨rfl, rfl⟩
theorem may_free (p : Nat) (F : FuncId) (caps : Array Value) (n : Int) (T : TypeId) (w : World) (hb : Blk w p #[.nilFunc, .func (.func F) #[] caps, .int .i64 n] T) :
    Calls Try.prog 36 #[.pointer (some ⟨p, 0, none⟩)] w fun e w' => e = .returned (.bool true) ∧ w = w' := by
  have hE := fun w => nil_eq23 w
  have c0 := hb.cell 0
  go_enter Try.func36, Try.ntmps36
  go_wp2_with fail
  refine (done_no p .nilFunc F caps n T w hb).mono ?_
  rintro e w1 ⟨rfl, rfl⟩
  go_wp2_with fail
  go_ret
  exact ⟨rfl, rfl⟩
theorem may_ask (p : Nat) (G : FuncId) (gcaps : Array Value) (F : FuncId) (caps : Array Value) (n : Int) (T : TypeId) (w : World) (hb : Blk w p #[.func (.func G) #[] gcaps, .func (.func F) #[] caps, .int .i64 n] T) (hG : Callable Try.prog G) (r : Bool)
    (hcall : Calls Try.prog G gcaps w fun e w' => e = .returned (.bool r) ∧ Still w w') :
    Calls Try.prog 36 #[.pointer (some ⟨p, 0, none⟩)] w fun e w' => e = .returned (.bool r) ∧ Still w w' := by
  have hcf := fun args wx => run_callFunc (P := Try.prog) hG args wx
  have hE := fun w => func_eq23 G gcaps w
  have c0 := hb.cell 0
  go_enter Try.func36, Try.ntmps36
  go_wp2_with fail
  refine (done_no p (.func (.func G) #[] gcaps) F caps n T w hb).mono ?_
  rintro e w1 ⟨rfl, rfl⟩
  go_wp2_with fail
  refine hcall.mono ?_
  rintro e w1 ⟨rfl, k1⟩
  go_wp2_with fail
  go_ret
  exact ⟨rfl, k1⟩

theorem step_no (p : Value) (w : World) (hm : Calls Try.prog 36 #[p] w fun e w' => e = .returned (.bool false) ∧ Still w w') :
    Calls Try.prog 40 #[p] w fun e w' => e = .returned (.bool false) ∧ Still w w' := by
  go_enter Try.func40, Try.ntmps40
  go_wp2_with fail
  refine hm.mono ?_
  rintro e w1 ⟨rfl, k1⟩
  go_wp2_with fail
  go_ret
  exact ⟨rfl, k1⟩


section
variable {σ : Type}
/-- a program at p that has made n steps and goes on from s through the states l -/
structure Going (Q : Value → Prop) (I : σ → (Nat → Prop) → World → Prop) (p : Nat) (n : Int) (s : σ) (l : List σ) (M Fp : Nat → Prop) (W : World) : Prop where
  blk : ∃ may d, Blk W p #[may, d, .int .i64 n] 156 ∧ MayOk Q l may ∧ Does Try.prog Q I s l Fp W d
  st : I s M W
  apart : ∀ b, Fp b → ¬ M b
  pM : ¬ M p
  pF : ¬ Fp p

theorem going_end {p : Nat} {n : Int} {s' : σ} {l : List σ} {M M2 Fp Fp2 : Nat → Prop} {w w1 w2 : World} {x y : Value} {c : Array Value} (Q : Value → Prop) (I : σ → (Nat → Prop) → World → Prop) (hlt : ∀ s M W, I s M W → ∀ b, M b → b < W.heap.size)
    (hI : ∀ s M A B, I s M A → Kept (fun b => ¬ M b) A B → I s M B) (kp : Kept (fun b => b = p) w w1) (hpM : ¬ M p) (hpF : ¬ Fp p) (hap : ∀ b, Fp b → ¬ M b) (hlp : p < w.heap.size) (mv : Moved M M2 Fp Fp2 w1 w2) (hi2 : I s' M2 w2) (hq : MayOk Q l x)
    (hD : Does Try.prog Q I s' l Fp2 w2 y) (hb2 : Blk w2 p c 156) (hc : (c.setIfInBounds 0 x).setIfInBounds 1 y = #[x, y, .int .i64 (n + 1)]) :
    (∃ M' Fp', Going Q I p (n + 1) s' l M' Fp' ((w2.setCell ⟨p, 0, none⟩ x).setCell ⟨p, 1, none⟩ y) ∧ Kept (fun b => M b ∨ b = p) w ((w2.setCell ⟨p, 0, none⟩ x).setCell ⟨p, 1, none⟩ y) ∧ (∀ b, M' b → M b ∨ w.heap.size ≤ b) ∧ (∀ b, Fp' b → Fp b ∨ w.heap.size ≤ b)) := by
  have kw : Only p w2 ((w2.setCell ⟨p, 0, none⟩ x).setCell ⟨p, 1, none⟩ y) := ((only_refl p w2).put 0 x).put 1 y
  have hsz := kp.size
  have hM2 : ∀ b, M2 b → M b ∨ w.heap.size ≤ b := fun b h => by
    rcases mv.may_ b h with h | h
    · exact .inl h
    · exact .inr (by omega)
  have hpM2 : ¬ M2 p := fun h => by (rcases hM2 p h with h | h; exact hpM h; omega)
  have hpF2 : ¬ Fp2 p := fun h => by (rcases mv.fp p h with h | h; exact hpF h; omega)
  refine ⟨M2, Fp2, ⟨⟨x, y, ?_, hq, ?_⟩, hI _ _ _ _ hi2 (kw.mono (fun b _ e => by subst e; exact hpM2)), mv.apart, hpM2, hpF2⟩, ?_, hM2, fun b h => (mv.fp b h).imp id (fun h => by omega)⟩
  · have := (hb2.set 0 x).set 1 y
    rwa [hc] at this
  · match l, hD with
    | [], hD => exact hD
    | s'' :: l, hD => exact does_agree _ Q I hD (Agree.of_kept kw (fun b hb e => hpF2 (e ▸ hb)) hD.1)
  · exact ((kp.mono (fun b _ e => .inr e)).step mv.kept (fun b _ h => .inl h)).step kw (fun b _ e => .inr e)

set_option maxHeartbeats 1000000 in
theorem step_yes (Q : Value → Prop) (I : σ → (Nat → Prop) → World → Prop) (hlt : ∀ s M W, I s M W → ∀ b, M b → b < W.heap.size)
    (hI : ∀ s M A B, I s M A → Kept (fun b => ¬ M b) A B → I s M B) (p : Nat) (n : Int) (hn : 0 ≤ n ∧ n < 4611686018427387904) (s s' : σ) (l : List σ) (M Fp : Nat → Prop) (w : World) (h : Going Q I p n s (s' :: l) M Fp w)
    (hm : Calls Try.prog 36 #[.pointer (some ⟨p, 0, none⟩)] w fun e w' => e = .returned (.bool true) ∧ Still w w') :
    Calls Try.prog 40 #[.pointer (some ⟨p, 0, none⟩)] w fun e w' => e = .returned (.bool true) ∧ ∃ M' Fp', Going Q I p (n + 1) s' l M' Fp' w' ∧ Kept (fun b => M b ∨ b = p) w w' ∧
      (∀ b, M' b → M b ∨ w.heap.size ≤ b) ∧ (∀ b, Fp' b → Fp b ∨ w.heap.size ≤ b) := by
  obtain ⟨⟨may, d, hb, hmok, hD⟩, hst, hap, hpM, hpF⟩ := h
  obtain ⟨hFp, F, caps, rfl, hcF, hs⟩ := hD
  have hcf := fun args wx => run_callFunc (P := Try.prog) hcF args wx
  go_enter Try.func40, Try.ntmps40
  go_wp2_with fail
  refine hm.mono ?_
  rintro e w1 ⟨rfl, k1⟩
  have hb1 := hb.still k1
  have c1 := hb1.cell 1
  have c2 := hb1.cell 2
  have f2 := hb1.free 2
  go_wp2_with fail
  have kp : Kept (fun b => b = p) w (w1.setCell ⟨p, 2, none⟩ (.int .i64 (n + 1))) := Only.put (k1.mono (fun _ _ f => f.elim)) _ _
  refine (hs _ M (Agree.of_kept kp (fun b h e => hpF (e ▸ h)) hFp) (hI _ _ _ _ hst (kp.mono (fun b _ e => by subst e; exact hpM))) hap).mono ?_
  rintro e w2 ⟨may2, d2, M2, Fp2, rfl, hi2, mv, hq2, hD2⟩
  have hb2 := (hb1.set 2 (.int .i64 (n + 1))).kept mv.kept hpM
  have f0 := hb2.free 0
  have f1 := hb2.free 1
  have c3 := hb2.cell 0
  have c4 := hb2.cell 1
  have HE := Lib.hid (going_end (x := may2) (y := d2) Q I hlt hI kp hpM hpF hap hb.lt mv hi2 hq2 hD2 hb2 (n := n) (by simp))
  have hDC := does_cases _ Q I hD2
  have hmc2 := hq2.1
  clear hq2 hD2 hb2
  rcases hDC with rfl | ⟨G, gcaps, rfl⟩
  all_goals rcases hmc2 with rfl | ⟨G2, gcaps2, rfl⟩
  all_goals
    go_wp2_with fail
    go_ret
    exact ⟨rfl, HE.out⟩

theorem going_new (Q : Value → Prop) (I : σ → (Nat → Prop) → World → Prop) (hlt : ∀ s M W, I s M W → ∀ b, M b → b < W.heap.size) (hI : ∀ s M A B, I s M A → Kept (fun b => ¬ M b) A B → I s M B)
    (may d : Value) (s : σ) (l : List σ) (M Fp : Nat → Prop) (w : World) (hq : MayOk Q l may) (hD : Does Try.prog Q I s l Fp w d) (hi : I s M w) (hap : ∀ b, Fp b → ¬ M b) :
    Calls Try.prog 34 #[.agg #[may, d]] w fun e w' => ∃ p, w.heap.size ≤ p ∧ e = .returned (.pointer (some ⟨p, 0, none⟩)) ∧ Still w w' ∧ ∃ Fp', (∀ b, Fp' b → Fp b) ∧ Going Q I p 0 s l M Fp' w' := by
  refine (new_any may d hq.1 (does_cases _ Q I hD) w).mono ?_
  rintro e w' ⟨rfl, k, hb⟩
  have hi' : I s M w' := hI _ _ _ _ hi (k.mono (fun _ _ f => f.elim))
  have hpM : ¬ M (w.heap.size + 1) := fun h => by have := hlt _ _ _ hi _ h; omega
  refine ⟨w.heap.size + 1, by omega, rfl, k, ?_⟩
  match l, hD, hq with
  | [], hD, hq => exact ⟨fun _ => False, fun b f => f.elim, ⟨_, _, hb, hq, hD⟩, hi', fun b f => f.elim, hpM, fun f => f⟩
  | s' :: l, hD, hq =>
    exact ⟨Fp, fun b h => h, ⟨_, _, hb, hq, does_agree _ Q I hD (Agree.of_kept k (fun _ _ f => f) hD.1)⟩, hi', hap, hpM, fun h => by have := hD.1 _ h; omega⟩
theorem going_kept {Q : Value → Prop} {I : σ → (Nat → Prop) → World → Prop} (hI : ∀ s M A B, I s M A → Kept (fun b => ¬ M b) A B → I s M B) {p : Nat} {n : Int} {s : σ} {l : List σ} {M Fp S : Nat → Prop} {w w' : World}
    (h : Going Q I p n s l M Fp w) (k : Kept S w w') (hM : ∀ b, M b → ¬ S b) (hF : ∀ b, Fp b → ¬ S b) (hp : ¬ S p) : Going Q I p n s l M Fp w' := by
  obtain ⟨⟨may, d, hb, hq, hD⟩, hi, h1, h2, h3⟩ := h
  refine ⟨⟨may, d, hb.kept k hp, hq, ?_⟩, hI _ _ _ _ hi (k.mono (fun b _ hs hm => hM b hm hs)), h1, h2, h3⟩
  match l, hD with
  | [], hD => exact hD
  | s' :: l, hD => exact does_agree _ Q I hD (Agree.of_kept k hF hD.1)
theorem going_still {Q : Value → Prop} {I : σ → (Nat → Prop) → World → Prop} (hI : ∀ s M A B, I s M A → Kept (fun b => ¬ M b) A B → I s M B) {p : Nat} {n : Int} {s : σ} {l : List σ} {M Fp : Nat → Prop} {w w' : World}
    (h : Going Q I p n s l M Fp w) (k : Still w w') : Going Q I p n s l M Fp w' := going_kept hI h k (fun _ _ f => f) (fun _ _ f => f) (fun f => f)
theorem going_done {Q : Value → Prop} {I : σ → (Nat → Prop) → World → Prop} {p : Nat} {n : Int} {s : σ} {l : List σ} {M Fp : Nat → Prop} {w : World} (h : Going Q I p n s l M Fp w) :
    Calls Try.prog 63 #[.pointer (some ⟨p, 0, none⟩)] w fun e w' => e = .returned (.bool l.isEmpty) ∧ w = w' := by
  obtain ⟨⟨may, d, hb, hq, hD⟩, _⟩ := h
  match l, hD with
  | [], hD => obtain rfl : d = .nilFunc := hD; exact done_yes _ _ _ _ _ hb
  | s' :: l, hD => obtain ⟨_, F, caps, rfl, _⟩ := hD; exact done_no _ _ _ _ _ _ _ hb
theorem going_may {I : σ → (Nat → Prop) → World → Prop} {p : Nat} {n : Int} {s : σ} {l : List σ} {M Fp : Nat → Prop} {w : World} (h : Going (· = .nilFunc) I p n s l M Fp w) :
    Calls Try.prog 36 #[.pointer (some ⟨p, 0, none⟩)] w fun e w' => e = .returned (.bool (!l.isEmpty)) ∧ w = w' := by
  obtain ⟨⟨may, d, hb, hq, hD⟩, _⟩ := h
  match l, hD, hq with
  | [], hD, hq => obtain rfl : d = .nilFunc := hD; exact may_done _ _ _ _ _ hb
  | s' :: l, hD, hq =>
    obtain ⟨_, F, caps, rfl, _⟩ := hD
    obtain rfl := hq.2 (by simp)
    exact may_free _ _ _ _ _ _ hb
theorem going_step {I : σ → (Nat → Prop) → World → Prop} (hlt : ∀ s M W, I s M W → ∀ b, M b → b < W.heap.size) (hI : ∀ s M A B, I s M A → Kept (fun b => ¬ M b) A B → I s M B) {p : Nat} {n : Int} (hn : 0 ≤ n ∧ n < 4611686018427387904) {s s' : σ} {l : List σ} {M Fp : Nat → Prop} {w : World} (h : Going (· = .nilFunc) I p n s (s' :: l) M Fp w) :
    Calls Try.prog 40 #[.pointer (some ⟨p, 0, none⟩)] w fun e w' => e = .returned (.bool true) ∧ ∃ M' Fp', Going (· = .nilFunc) I p (n + 1) s' l M' Fp' w' ∧ Kept (fun b => M b ∨ b = p) w w' ∧ (∀ b, M' b → M b ∨ w.heap.size ≤ b) ∧ (∀ b, Fp' b → Fp b ∨ w.heap.size ≤ b) :=
  step_yes _ I hlt hI p n hn s s' l M Fp w h ((going_may h).mono fun e w' ⟨he, hw⟩ => ⟨he, hw ▸ still_refl w⟩)
theorem going_stop {I : σ → (Nat → Prop) → World → Prop} {p : Nat} {n : Int} {s : σ} {M Fp : Nat → Prop} {w : World} (h : Going (· = .nilFunc) I p n s [] M Fp w) :
    Calls Try.prog 40 #[.pointer (some ⟨p, 0, none⟩)] w fun e w' => e = .returned (.bool false) ∧ Still w w' :=
  step_no _ w ((going_may h).mono fun e w' ⟨he, hw⟩ => ⟨he, hw ▸ still_refl w⟩)
end
end Go.Proofs.Ytbikganlloopbaa
