/-
  What stands here: what prog.Then does: the stage makes the steps of what stands ahead, and those of what stands behind it. Under the condition that both make steps.
-/
import Derived.Test.YtbikganlloopbaaStageRow
import Derived.Test.YtbikganlloopbaaText
namespace Go.Proofs.Ytbikganlloopbaa
set_option linter.unusedVariables false
set_option linter.unusedSimpArgs false
open Go.RowKit Go.Proofs

theorem nil_eq34 (w : World) : Sem.run Try.prog (binOp .eql 98 .nilFunc .nilFunc) w = .ok (.bool true) w := by kernel_rfl
theorem func_eq34 (F : FuncId) (caps : Array Value) (w : World) : Sem.run Try.prog (binOp .eql 98 (.func (.func F) #[] caps) .nilFunc) w = .ok (.bool false) w := by kernel_rfl
theorem nil_eq23 (w : World) : Sem.run Try.prog (binOp .eql 23 .nilFunc .nilFunc) w = .ok (.bool true) w := by kernel_rfl
theorem func_eq23 (F : FuncId) (caps : Array Value) (w : World) : Sem.run Try.prog (binOp .eql 23 (.func (.func F) #[] caps) .nilFunc) w = .ok (.bool false) w := by kernel_rfl

section
variable {σ : Type}
/-- the state from which the steps begin, and the states, if the path l (from s on) goes on with what leads to t and the path p -/
def thenS (s : σ) : List σ → σ → σ
  | [], t => t
  | _ :: _, _ => s
def thenP : List σ → σ → List σ → List σ
  | [], _, p => p
  | x :: xs, t, p => thenS x xs t :: thenP xs t p
def lastS (s : σ) : List σ → σ
  | [] => s
  | x :: xs => lastS x xs

/-- what a function behind Then does: from s to t, and the stage makes the steps p from there -/
def RestC (P : Program) (Q : Value → Prop) (I : σ → (Nat → Prop) → World → Prop) (R : FuncId) (caps : Array Value) (s t : σ) (p : List σ) (Fp : Nat → Prop) (w : World) : Prop :=
  Callable P R ∧ ∀ W' M, Agree Fp w W' → I s M W' → (∀ b, Fp b → ¬ M b) → Calls P R caps W' fun e W'' =>
    ∃ may d M' Fp', e = .returned (.agg #[may, d]) ∧ I t M' W'' ∧ Moved M M' Fp Fp' W' W'' ∧ MayOk Q p may ∧ Does P Q I t p Fp' W'' d
theorem restC_agree {P : Program} {Q : Value → Prop} {I : σ → (Nat → Prop) → World → Prop} {R : FuncId} {caps : Array Value} {s t : σ} {p : List σ} {Fp : Nat → Prop} {w w' : World}
    (h : RestC P Q I R caps s t p Fp w) (k : Agree Fp w w') : RestC P Q I R caps s t p Fp w' := ⟨h.1, fun W' M k' => h.2 W' M (k.trans k')⟩

def ThenC (Q : Value → Prop) (I : σ → (Nat → Prop) → World → Prop) (l : List σ) : Prop :=
  ∀ (s t : σ) (p : List σ) (may d : Value) (Fd Fr M : Nat → Prop) (R : FuncId) (caps : Array Value) (w : World), MayOk Q l may → Does Try.prog Q I s l Fd w d → RestC Try.prog Q I R caps (lastS s l) t p Fr w →
    (∀ b, Fr b → b < w.heap.size) → (∀ b, Fd b → ¬ M b) → (∀ b, Fr b → ¬ M b) → I s M w →
    Calls Try.prog 60 #[.agg #[may, d], .func (.func R) #[] caps] w fun e w' => ∃ may' d' M' Fp', e = .returned (.agg #[may', d']) ∧ I (thenS s l t) M' w' ∧ Moved M M' (fun b => Fd b ∨ Fr b) Fp' w w' ∧
      MayOk Q (thenP l t p) may' ∧ Does Try.prog Q I (thenS s l t) (thenP l t p) Fp' w' d'

set_option maxHeartbeats 1000000 in
theorem then1_any (Q : Value → Prop) (I : σ → (Nat → Prop) → World → Prop) (hlt : ∀ s M W, I s M W → ∀ b, M b → b < W.heap.size)
    (hI : ∀ s M A B, I s M A → Kept (fun b => ¬ M b) A B → I s M B) (x : σ) (xs : List σ) (ih : ThenC Q I xs) (s t : σ) (p : List σ) (may : Value) (F : FuncId) (fcaps : Array Value) (Fd Fr Fp : Nat → Prop) (R : FuncId) (caps : Array Value) (X0 X1 : Nat) (W : World) (M : Nat → Prop)
    (hd : Does Try.prog Q I s (x :: xs) Fd W (.func (.func F) #[] fcaps)) (hr : RestC Try.prog Q I R caps (lastS x xs) t p Fr W) (hFr : ∀ b, Fr b → b < W.heap.size) (h0 : Fp X0) (h1 : Fp X1) (hFd' : ∀ b, Fd b → Fp b) (hFr' : ∀ b, Fr b → Fp b) (hi : I s M W) (hM : ∀ b, Fp b → ¬ M b)
    (b0 : Blk W X0 #[may, .func (.func F) #[] fcaps] 100) (b1 : Blk W X1 #[.func (.func R) #[] caps] 98) :
    Calls Try.prog 77 #[.pointer (some ⟨X0, 0, none⟩), .pointer (some ⟨X1, 0, none⟩)] W fun e W' => ∃ may' d' M' Fp', e = .returned (.agg #[may', d']) ∧ I (thenS x xs t) M' W' ∧ Moved M M' Fp Fp' W W' ∧
      MayOk Q (thenP xs t p) may' ∧ Does Try.prog Q I (thenS x xs t) (thenP xs t p) Fp' W' d' := by
  obtain ⟨hFd, F', caps', he, hcF, hs⟩ := hd
  simp only [Value.func.injEq, Fn.func.injEq, true_and] at he
  obtain ⟨rfl, rfl⟩ := he
  have hcf := fun args wx => run_callFunc (P := Try.prog) hcF args wx
  have B0 := b0.alloc (.cells #[.nilFunc, .nilFunc] 100)
  have B1 := b1.alloc (.cells #[.nilFunc, .nilFunc] 100)
  have c01 := B0.cell 1
  go_enter Try.func77, Try.ntmps77
  go_wp2_with fail
  refine wp_region_text ([4], [9]) [X0, X1] (by kernel_rfl) (by kernel_rfl) (cellsB_cons B0.cells (cellsB_cons B1.cells cellsB_nil)) (by simp [segs, isEff, isLoad, askOps, asks, ptrEq, eqOrNe, isNil]; rfl) ?_
  refine segs_go stay_drew (by simp [isLoad]) ?_
  go_wp2_with fail
  refine segs_load stay_drew (fun _ => (by exact ⟨X0, _, rfl, by simp⟩)) ?_
  go_wp2_with fail
  have hka : Kept (fun b => ¬ M b) W (W.alloc (.cells #[.nilFunc, .nilFunc] 100)).drew := ((Kept.refl _ W).alloc _).drew
  have hsa : Still W (W.alloc (.cells #[.nilFunc, .nilFunc] 100)).drew := ((still_refl W).alloc _).drew
  have hagd : Agree Fd W (W.alloc (.cells #[.nilFunc, .nilFunc] 100)).drew := Agree.of_kept hsa (fun _ _ f => f) hFd
  refine (hs _ M hagd (hI _ _ _ _ hi hka) (fun b hb => hM b (hFd' b hb))).mono ?_
  rintro e w2 ⟨may1, d1, M1, Fd1, rfl, hi1, mv, hq1, hD1⟩
  have hR : ¬ M W.heap.size := fun h => by have := hlt _ _ _ hi _ h; omega
  have B0' := B0.drew.kept mv.kept (hM _ h0)
  have B1' := B1.drew.kept mv.kept (hM _ h1)
  have BR := (Blk.new W #[.nilFunc, .nilFunc] 100).drew.kept mv.kept hR
  have hst : StayB [X0, X1] (W.alloc (.cells #[.nilFunc, .nilFunc] 100)) w2 := fun b hb => by
    simp only [List.mem_cons, List.not_mem_nil, or_false] at hb
    rcases hb with rfl | rfl
    · exact B0'.trans B0.symm
    · exact B1'.trans B1.symm
  have c1 := B1'.cell 0
  clear c01
  go_wp2_with fail
  refine segs_go hst (by simp [isLoad]) ?_
  go_wp2_with fail
  refine segs_load hst (fun _ => (by exact ⟨X1, _, rfl, by simp⟩)) ?_
  go_wp2_with fail
  have hagr : Agree Fr W w2 := (Agree.of_kept hsa (fun _ _ f => f) hFr).trans (Agree.of_kept mv.kept (fun b hb => hM b (hFr' b hb)) (fun b hb => Nat.lt_of_lt_of_le (hFr b hb) hsa.size))
  have hFr2 : ∀ b, Fr b → b < w2.heap.size := fun b hb => Nat.lt_of_lt_of_le (hFr b hb) hagr.size
  have hFrM1 : ∀ b, Fr b → ¬ M1 b := fun b hb h => by
    rcases mv.may_ b h with h | h
    · exact hM b (hFr' b hb) h
    · have := hFr b hb; simp at h; omega
  refine (ih x t p may1 d1 Fd1 Fr M1 R caps w2 hq1 hD1 (restC_agree hr hagr) hFr2 mv.apart hFrM1 hi1).mono ?_
  rintro e w3 ⟨may3, d3, M3, Fp3, rfl, hi3, mv3, hq3, hD3⟩
  have hsz1 := hsa.size
  have hsz2 := mv.kept.size
  have hz1 : W.heap.size + 1 ≤ w2.heap.size := by have := mv.kept.size; simp at this; omega
  have hR1 : ¬ M1 W.heap.size := fun h => by
    rcases mv.may_ _ h with h | h
    · exact hR h
    · have : W.heap.size + 1 ≤ W.heap.size := by simpa using h
      omega
  have BR3 := BR.kept mv3.kept hR1
  have f0 := BR3.free 0
  have f1 := BR3.free 1
  have c2 := BR3.cell 0
  have c3 := BR3.cell 1
  have hDC := does_cases _ Q I hD3
  have HE := Lib.hid (does_end2 Try.prog Q I (x := may3) (y := d3) hlt hI (hlt _ _ _ hi) hM (fun b h => by rcases h with h | h; exact hFd' b h; exact hFr' b h) (fun b h => by rcases h with h | h; exact hFd b h; exact hFr b h) hsa (by simp) mv hi1 hi3 mv3 hD3)
  have HQ := Lib.hid hq3
  have hmc := hq3.1
  clear hD3 hq3
  have hM1' : ∀ b, b < W.heap.size → Fp b → ¬ M1 b := fun b hb hf h => by
    rcases mv.may_ _ h with h | h
    · exact hM b hf h
    · simp at h; omega
  have hst3 : StayB [X0, X1] (W.alloc (.cells #[.nilFunc, .nilFunc] 100)) w3 := fun b hb => by
    simp only [List.mem_cons, List.not_mem_nil, or_false] at hb
    rcases hb with rfl | rfl
    · exact (B0'.kept mv3.kept (hM1' _ b0.lt h0)).trans B0.symm
    · exact (B1'.kept mv3.kept (hM1' _ b1.lt h1)).trans B1.symm
  have hsz3 := mv3.kept.size
  have hX0 := b0.lt
  have hX1 := b1.lt
  have hst4 := fun (x y : Value) => StayB.kept hst3 (((only_refl W.heap.size w3).put 0 x).put 1 y) (fun b hb => by
    simp only [List.mem_cons, List.not_mem_nil, or_false] at hb
    rcases hb with rfl | rfl
    · exact ⟨by omega, by omega⟩
    · exact ⟨by omega, by omega⟩)
  rcases hDC with rfl | ⟨G, gcaps, rfl⟩
  all_goals rcases hmc with rfl | ⟨G2, gcaps2, rfl⟩
  · go_wp2_with fail
    refine segs_go hst3 (by simp [isLoad]) ?_
    go_wp2_with fail
    refine segs_go (hst4 _ _) (by simp [isLoad]) ?_
    go_wp2_with fail
    refine segs_nil ?_
    go_wp2_with fail
    have d0 := ((BR3.set 0 .nilFunc).set 1 .nilFunc).cell 0
    have d1 := ((BR3.set 0 .nilFunc).set 1 .nilFunc).cell 1
    exact bodyPost_ret (v := .agg #[.nilFunc, .nilFunc]) (by simp [results, Try.f77, go_sem, d0, d1]) rfl ⟨_, _, M3, Fp3, rfl, HE.out.1, HE.out.2.1, HQ.out, HE.out.2.2⟩
  · go_wp2_with fail
    refine segs_go hst3 (by simp [isLoad]) ?_
    go_wp2_with fail
    refine segs_go (hst4 _ _) (by simp [isLoad]) ?_
    go_wp2_with fail
    refine segs_nil ?_
    go_wp2_with fail
    have d0 := ((BR3.set 0 (.func (.func G2) #[] gcaps2)).set 1 .nilFunc).cell 0
    have d1 := ((BR3.set 0 (.func (.func G2) #[] gcaps2)).set 1 .nilFunc).cell 1
    exact bodyPost_ret (v := .agg #[(.func (.func G2) #[] gcaps2), .nilFunc]) (by simp [results, Try.f77, go_sem, d0, d1]) rfl ⟨_, _, M3, Fp3, rfl, HE.out.1, HE.out.2.1, HQ.out, HE.out.2.2⟩
  · go_wp2_with fail
    refine segs_go hst3 (by simp [isLoad]) ?_
    go_wp2_with fail
    refine segs_go (hst4 _ _) (by simp [isLoad]) ?_
    go_wp2_with fail
    refine segs_nil ?_
    go_wp2_with fail
    have d0 := ((BR3.set 0 .nilFunc).set 1 (.func (.func G) #[] gcaps)).cell 0
    have d1 := ((BR3.set 0 .nilFunc).set 1 (.func (.func G) #[] gcaps)).cell 1
    exact bodyPost_ret (v := .agg #[.nilFunc, (.func (.func G) #[] gcaps)]) (by simp [results, Try.f77, go_sem, d0, d1]) rfl ⟨_, _, M3, Fp3, rfl, HE.out.1, HE.out.2.1, HQ.out, HE.out.2.2⟩
  · go_wp2_with fail
    refine segs_go hst3 (by simp [isLoad]) ?_
    go_wp2_with fail
    refine segs_go (hst4 _ _) (by simp [isLoad]) ?_
    go_wp2_with fail
    refine segs_nil ?_
    go_wp2_with fail
    have d0 := ((BR3.set 0 (.func (.func G2) #[] gcaps2)).set 1 (.func (.func G) #[] gcaps)).cell 0
    have d1 := ((BR3.set 0 (.func (.func G2) #[] gcaps2)).set 1 (.func (.func G) #[] gcaps)).cell 1
    exact bodyPost_ret (v := .agg #[(.func (.func G2) #[] gcaps2), (.func (.func G) #[] gcaps)]) (by simp [results, Try.f77, go_sem, d0, d1]) rfl ⟨_, _, M3, Fp3, rfl, HE.out.1, HE.out.2.1, HQ.out, HE.out.2.2⟩

theorem then_end {A w : World} {p' : List σ} {s1 : σ} {Fd Fr M : Nat → Prop} {R : FuncId} {caps : Array Value} {d : Value} {c0 c1 : Array Value} {T0 T1 : TypeId} {q : List σ} {sl t : σ} {p : List σ} (Q : Value → Prop) (I : σ → (Nat → Prop) → World → Prop) (hlt : ∀ s M W, I s M W → ∀ b, M b → b < W.heap.size)
    (hI : ∀ s M A B, I s M A → Kept (fun b => ¬ M b) A B → I s M B) (s : σ) (hMl : ∀ b, M b → b < w.heap.size) (hi : I s M w) (hsa : Still w A) (hz : w.heap.size + 1 + 1 < A.heap.size) (B0 : Blk A w.heap.size c0 T0) (B1 : Blk A (w.heap.size + 1) c1 T1)
    (hFd : ∀ b, Fd b → b < w.heap.size) (hFr : ∀ b, Fr b → b < w.heap.size) (hD : Does Try.prog Q I s q Fd w d) (hR : RestC Try.prog Q I R caps sl t p Fr w) (hFdM : ∀ b, Fd b → ¬ M b) (hFrM : ∀ b, Fr b → ¬ M b)
    (h1 : ∀ W M', Agree (fun b => Fd b ∨ Fr b) w W → I s M' W → (∀ b, ((Fd b ∨ Fr b) ∨ b = w.heap.size ∨ b = w.heap.size + 1) → ¬ M' b) → Blk W w.heap.size c0 T0 → Blk W (w.heap.size + 1) c1 T1 →
      Calls Try.prog 77 #[.pointer (some ⟨w.heap.size, 0, none⟩), .pointer (some ⟨w.heap.size + 1, 0, none⟩)] W fun e W' => ∃ may' d' M2 Fp', e = .returned (.agg #[may', d']) ∧ I s1 M2 W' ∧ Moved M' M2 (fun b => (Fd b ∨ Fr b) ∨ b = w.heap.size ∨ b = w.heap.size + 1) Fp' W W' ∧ MayOk Q p' may' ∧ Does Try.prog Q I s1 p' Fp' W' d') :
    I s M A ∧ Moved M M (fun b => Fd b ∨ Fr b) (fun b => (Fd b ∨ Fr b) ∨ b = w.heap.size ∨ b = w.heap.size + 1) w A ∧
    Does Try.prog Q I s (s1 :: p') (fun b => (Fd b ∨ Fr b) ∨ b = w.heap.size ∨ b = w.heap.size + 1) A (.func (.func 77) #[] #[.pointer (some ⟨w.heap.size, 0, none⟩), .pointer (some ⟨w.heap.size + 1, 0, none⟩)]) := by
  have ks := hsa
  have hM : ∀ b, ((Fd b ∨ Fr b) ∨ b = w.heap.size ∨ b = w.heap.size + 1) → ¬ M b := by
    rintro b ((h | h) | h | h) hm
    · exact hFdM b h hm
    · exact hFrM b h hm
    · have := hMl b hm; omega
    · have := hMl b hm; omega
  refine ⟨hI _ _ _ _ hi (ks.mono (fun _ _ f => f.elim)), ⟨ks.mono (fun _ _ f => f.elim), fun b h => .inl h, fun b h => ?_, hM⟩, fun b h => ?_, _, _, rfl, ⟨_, Try.func77, by kernel_rfl, by kernel_rfl⟩, fun W M' hag hi' hd => ?_⟩
  · rcases h with h | h | h
    · exact .inl h
    · exact .inr (by omega)
    · exact .inr (by omega)
  · have hz1 := ks.size
    rcases h with (h | h) | h | h
    · have := hFd b h; omega
    · have := hFr b h; omega
    · omega
    · omega
  · have hag0 : Agree (fun b => Fd b ∨ Fr b) w W := (Agree.of_kept ks (fun _ _ f => f) (fun b h => by rcases h with h | h; exact hFd b h; exact hFr b h)).trans (hag.less (fun b h => .inl h))
    exact h1 W M' hag0 hi' hd (B0.agree hag (.inr (.inl rfl))) (B1.agree hag (.inr (.inr rfl)))

set_option maxHeartbeats 1000000 in
theorem then_any (Q : Value → Prop) (I : σ → (Nat → Prop) → World → Prop) (hlt : ∀ s M W, I s M W → ∀ b, M b → b < W.heap.size)
    (hI : ∀ s M A B, I s M A → Kept (fun b => ¬ M b) A B → I s M B) (l : List σ) : ThenC Q I l := by
  induction l with
  | nil =>
    intro s t p may d Fd Fr M R caps w hq hD hR hFr hFdM hFrM hi
    obtain rfl : d = .nilFunc := hD
    have hmc := hq.1
    have hE := fun w => nil_eq34 w
    have hcf := fun args wx => run_callFunc (P := Try.prog) hR.1 args wx
    have hsa : Still w (((w.alloc (.cells #[may, .nilFunc] 100)).alloc (.cells #[.func (.func R) #[] caps] 98)).alloc (.cells #[.nilFunc, .nilFunc] 100)) := (((still_refl w).alloc _).alloc _).alloc _
    have hka := (Kept.of_still (Kept.refl (fun b => ¬ M b) w) hsa)
    go_enter Try.func60, Try.ntmps60
    go_wp2_with fail
    refine (hR.2 _ M (Agree.of_kept hsa (fun _ _ f => f) hFr) (hI _ _ _ _ hi hka) hFrM).mono ?_
    rintro e w2 ⟨may2, d2, M2, Fp2, rfl, hi2, mv, hq2, hD2⟩
    have hX : ¬ M (w.heap.size + 1 + 1) := fun h => by have := hlt _ _ _ hi _ h; omega
    have BR := (Blk.newAt ((w.alloc (.cells #[may, .nilFunc] 100)).alloc (.cells #[.func (.func R) #[] caps] 98)) #[.nilFunc, .nilFunc] 100 (n := w.heap.size + 1 + 1) (by simp)).kept mv.kept hX
    have f0 := BR.free 0
    have f1 := BR.free 1
    have c0 := BR.cell 0
    have c1 := BR.cell 1
    have HE := Lib.hid (does_fin Try.prog Q I (X := w.heap.size + 1 + 1) (x := may2) (y := d2) hlt hI (hlt _ _ _ hi) (Fp := fun b => Fd b ∨ Fr b) (fun b h => .inr h) hFr hsa (by omega) (by simp) mv hi2 hD2)
    have HQ := Lib.hid hq2
    have hDC := does_cases _ Q I hD2
    have hmc2 := hq2.1
    clear hq2 hD2
    rcases hDC with rfl | ⟨G, gcaps, rfl⟩
    all_goals rcases hmc2 with rfl | ⟨G2, gcaps2, rfl⟩
    · go_wp2_with fail
      have d0 := ((BR.set 0 .nilFunc).set 1 .nilFunc).cell 0
      have d1 := ((BR.set 0 .nilFunc).set 1 .nilFunc).cell 1
      exact bodyPost_ret (v := .agg #[.nilFunc, .nilFunc]) (by simp [results, Try.f60, go_sem, d0, d1]) rfl ⟨_, _, M2, Fp2, rfl, HE.out.1, HE.out.2.1, HQ.out, HE.out.2.2⟩
    · go_wp2_with fail
      have d0 := ((BR.set 0 (.func (.func G2) #[] gcaps2)).set 1 .nilFunc).cell 0
      have d1 := ((BR.set 0 (.func (.func G2) #[] gcaps2)).set 1 .nilFunc).cell 1
      exact bodyPost_ret (v := .agg #[(.func (.func G2) #[] gcaps2), .nilFunc]) (by simp [results, Try.f60, go_sem, d0, d1]) rfl ⟨_, _, M2, Fp2, rfl, HE.out.1, HE.out.2.1, HQ.out, HE.out.2.2⟩
    · go_wp2_with fail
      have d0 := ((BR.set 0 .nilFunc).set 1 (.func (.func G) #[] gcaps)).cell 0
      have d1 := ((BR.set 0 .nilFunc).set 1 (.func (.func G) #[] gcaps)).cell 1
      exact bodyPost_ret (v := .agg #[.nilFunc, (.func (.func G) #[] gcaps)]) (by simp [results, Try.f60, go_sem, d0, d1]) rfl ⟨_, _, M2, Fp2, rfl, HE.out.1, HE.out.2.1, HQ.out, HE.out.2.2⟩
    · go_wp2_with fail
      have d0 := ((BR.set 0 (.func (.func G2) #[] gcaps2)).set 1 (.func (.func G) #[] gcaps)).cell 0
      have d1 := ((BR.set 0 (.func (.func G2) #[] gcaps2)).set 1 (.func (.func G) #[] gcaps)).cell 1
      exact bodyPost_ret (v := .agg #[(.func (.func G2) #[] gcaps2), (.func (.func G) #[] gcaps)]) (by simp [results, Try.f60, go_sem, d0, d1]) rfl ⟨_, _, M2, Fp2, rfl, HE.out.1, HE.out.2.1, HQ.out, HE.out.2.2⟩
  | cons x xs ih =>
    intro s t p may d Fd Fr M R caps w hq hD hR hFr hFdM hFrM hi
    have HD := Lib.hid hD
    obtain ⟨hFd, F, fcaps, rfl, hcF, _⟩ := hD
    have hmc := hq.1
    have hE := fun w => func_eq34 F fcaps w
    have B0 := (Blk.new w #[may, .func (.func F) #[] fcaps] 100).alloc (.cells #[.func (.func R) #[] caps] 98)
    have B1 := Blk.newAt (w.alloc (.cells #[may, .func (.func F) #[] fcaps] 100)) #[.func (.func R) #[] caps] 98 (n := w.heap.size + 1) (by simp)
    rcases hmc with rfl | ⟨G2, gcaps2, rfl⟩
    · have hsa : Still w (((w.alloc (.cells #[.nilFunc, .func (.func F) #[] fcaps] 100)).alloc (.cells #[.func (.func R) #[] caps] 98)).alloc (.cells #[.nilFunc, (.func (.func 77) #[] #[.pointer (some ⟨w.heap.size, 0, none⟩), .pointer (some ⟨w.heap.size + 1, 0, none⟩)])] 100)) := (((still_refl w).alloc _).alloc _).alloc _
      have HE := Lib.hid (then_end Q I hlt hI s (hlt _ _ _ hi) hi hsa (by simp) (B0.alloc _) (B1.alloc _) hFd hFr HD.out hR hFdM hFrM (fun W M' hag hi' hd hb0 hb1 => then1_any Q I hlt hI x xs ih s t p .nilFunc F fcaps Fd Fr (fun b => (Fd b ∨ Fr b) ∨ b = w.heap.size ∨ b = w.heap.size + 1) R caps w.heap.size (w.heap.size + 1) W M' (does_agree _ Q I HD.out (hag.less fun b h => .inl h)) (restC_agree hR (hag.less fun b h => .inr h)) (fun b hb => Nat.lt_of_lt_of_le (hFr b hb) hag.size) (.inr (.inl rfl)) (.inr (.inr rfl)) (fun b h => .inl (.inl h)) (fun b h => .inl (.inr h)) hi' hd hb0 hb1))
      have B2 := Blk.newAt ((w.alloc (.cells #[.nilFunc, .func (.func F) #[] fcaps] 100)).alloc (.cells #[.func (.func R) #[] caps] 98)) #[.nilFunc, (.func (.func 77) #[] #[.pointer (some ⟨w.heap.size, 0, none⟩), .pointer (some ⟨w.heap.size + 1, 0, none⟩)])] 100 (n := w.heap.size + 1 + 1) (by simp)
      have d0 := B2.cell 0
      have d1 := B2.cell 1
      go_enter Try.func60, Try.ntmps60
      go_wp2_with fail
      exact bodyPost_ret (v := .agg #[.nilFunc, (.func (.func 77) #[] #[.pointer (some ⟨w.heap.size, 0, none⟩), .pointer (some ⟨w.heap.size + 1, 0, none⟩)])]) (by simp [results, Try.f60, go_sem]) rfl ⟨_, _, M, _, rfl, HE.out.1, HE.out.2.1, ⟨hq.1, fun _ => hq.2 (by simp)⟩, HE.out.2.2⟩
    · have hsa : Still w (((w.alloc (.cells #[(.func (.func G2) #[] gcaps2), .func (.func F) #[] fcaps] 100)).alloc (.cells #[.func (.func R) #[] caps] 98)).alloc (.cells #[(.func (.func G2) #[] gcaps2), (.func (.func 77) #[] #[.pointer (some ⟨w.heap.size, 0, none⟩), .pointer (some ⟨w.heap.size + 1, 0, none⟩)])] 100)) := (((still_refl w).alloc _).alloc _).alloc _
      have HE := Lib.hid (then_end Q I hlt hI s (hlt _ _ _ hi) hi hsa (by simp) (B0.alloc _) (B1.alloc _) hFd hFr HD.out hR hFdM hFrM (fun W M' hag hi' hd hb0 hb1 => then1_any Q I hlt hI x xs ih s t p (.func (.func G2) #[] gcaps2) F fcaps Fd Fr (fun b => (Fd b ∨ Fr b) ∨ b = w.heap.size ∨ b = w.heap.size + 1) R caps w.heap.size (w.heap.size + 1) W M' (does_agree _ Q I HD.out (hag.less fun b h => .inl h)) (restC_agree hR (hag.less fun b h => .inr h)) (fun b hb => Nat.lt_of_lt_of_le (hFr b hb) hag.size) (.inr (.inl rfl)) (.inr (.inr rfl)) (fun b h => .inl (.inl h)) (fun b h => .inl (.inr h)) hi' hd hb0 hb1))
      have B2 := Blk.newAt ((w.alloc (.cells #[(.func (.func G2) #[] gcaps2), .func (.func F) #[] fcaps] 100)).alloc (.cells #[.func (.func R) #[] caps] 98)) #[(.func (.func G2) #[] gcaps2), (.func (.func 77) #[] #[.pointer (some ⟨w.heap.size, 0, none⟩), .pointer (some ⟨w.heap.size + 1, 0, none⟩)])] 100 (n := w.heap.size + 1 + 1) (by simp)
      have d0 := B2.cell 0
      have d1 := B2.cell 1
      go_enter Try.func60, Try.ntmps60
      go_wp2_with fail
      exact bodyPost_ret (v := .agg #[(.func (.func G2) #[] gcaps2), (.func (.func 77) #[] #[.pointer (some ⟨w.heap.size, 0, none⟩), .pointer (some ⟨w.heap.size + 1, 0, none⟩)])]) (by simp [results, Try.f60, go_sem]) rfl ⟨_, _, M, _, rfl, HE.out.1, HE.out.2.1, ⟨hq.1, fun _ => hq.2 (by simp)⟩, HE.out.2.2⟩
end
end Go.Proofs.Ytbikganlloopbaa
