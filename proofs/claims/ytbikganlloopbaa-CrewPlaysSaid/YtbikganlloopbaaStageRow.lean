/-
  What stands here: what prog.Row does: the stage makes the steps of its functions. Under the condition that the functions act.
-/
import Derived.Test.YtbikganlloopbaaStage
import Derived.Laws.EntriesVeiled
namespace Go.Proofs.Ytbikganlloopbaa
set_option linter.unusedVariables false
set_option linter.unusedSimpArgs false
open Go.RowKit Go.Proofs

theorem nil_ne1 (w : World) : Sem.run Try.prog (binOp .neq 1 .nilFunc .nilFunc) w = .ok (.bool false) w := by kernel_rfl
theorem func_ne1 (F : FuncId) (caps : Array Value) (w : World) : Sem.run Try.prog (binOp .neq 1 (.func (.func F) #[] caps) .nilFunc) w = .ok (.bool true) w := by kernel_rfl

def RowC {σ : Type} (Q : Value → Prop) (I : σ → (Nat → Prop) → World → Prop) (n : Nat) : Prop :=
  ∀ (vs : List Value) (a : Option Addr) (len cap : Nat) (s : σ) (p : List σ) (Fp : Nat → Prop) (w : World), vs.length = n → VRow Fp w (.slice a len cap) vs → (∀ b, Fp b → b < w.heap.size) → Acts Try.prog I vs s p Fp w →
    Calls Try.prog 61 #[.slice a len cap] w fun e w' => ∃ d Fp', e = .returned (.agg #[.nilFunc, d]) ∧ Still w w' ∧ (∀ b, Fp' b → Fp b ∨ w.heap.size ≤ b) ∧ Does Try.prog Q I s p Fp' w' d

set_option maxHeartbeats 1000000 in
theorem row1_any {σ : Type} (Q : Value → Prop) (hQ : Q .nilFunc) (I : σ → (Nat → Prop) → World → Prop) (hlt : ∀ s M W, I s M W → ∀ b, M b → b < W.heap.size)
    (hI : ∀ s M A B, I s M A → Kept (fun b => ¬ M b) A B → I s M B) (vs : List Value) (b o cap k : Nat) (hk : k < vs.length) (ih : RowC Q I (vs.drop (k + 1)).length)
    (s' : σ) (p : List σ) (Fp Fp1 : Nat → Prop) (w : World) (hv : VRow Fp w (.slice (some ⟨b, o, none⟩) vs.length cap) vs) (hA : Acts Try.prog I (vs.drop (k + 1)) s' p Fp w) (hFp : ∀ b, Fp b → Fp1 b) (hFl : ∀ b, Fp b → b < w.heap.size)
    (X1 X3 X4 : Nat) (h1 : Fp1 X1) (h3 : Fp1 X3) (h4 : Fp1 X4) (F : FuncId) (caps : Array Value) (hcF : Callable Try.prog F) (s : σ)
    (hact : ∀ W' M, Agree Fp w W' → I s M W' → (∀ b, Fp b → ¬ M b) → Calls Try.prog F caps W' fun e W'' => e = .returned (.tuple #[]) ∧ ∃ M', I s' M' W'' ∧ Moved M M' Fp Fp W' W'')
    (W : World) (M : Nat → Prop) (hag : Agree Fp w W) (hi : I s M W) (hd : ∀ b, Fp1 b → ¬ M b) (b1 : Blk W X1 #[.slice (some ⟨b, o, none⟩) vs.length cap] 197) (b3 : Blk W X3 #[.int .i64 k] 3) (b4 : Blk W X4 #[.func (.func F) #[] caps] 1) :
    Calls Try.prog 78 #[.pointer (some ⟨X4, 0, none⟩), .pointer (some ⟨X1, 0, none⟩), .pointer (some ⟨X3, 0, none⟩)] W fun e W'' =>
        ∃ may d' M' Fp', e = .returned (.agg #[may, d']) ∧ I s' M' W'' ∧ Moved M M' Fp1 Fp' W W'' ∧ MayOk Q p may ∧ Does Try.prog Q I s' p Fp' W'' d' := by
  obtain ⟨_, hle, hm, h0⟩ := hv.at_
  have HV := Lib.hid hv
  obtain ⟨L, hL⟩ : ∃ L, L = vs.length := ⟨_, rfl⟩
  have HL := Lib.hid hL
  have HC := Lib.hid (h0 (by omega))
  rw [← hL] at hle hk b1
  unfold maxLen at hm
  clear hv h0 hL
  have hcf := fun args wx => run_callFunc (P := Try.prog) hcF args wx
  have c4 := (b4.alloc (.cells #[.nilFunc, .nilFunc] 100)).cell 0
  go_enter Try.func78, Try.ntmps78
  go_wp2_with fail
  have hka : Kept (fun b => ¬ M b) W (W.alloc (.cells #[.nilFunc, .nilFunc] 100)) := (Kept.refl _ W).alloc _
  have hag1 : Agree Fp w (W.alloc (.cells #[.nilFunc, .nilFunc] 100)) := hag.trans (Agree.of_kept ((still_refl W).alloc _) (fun _ _ f => f) (fun b hb => Nat.lt_of_lt_of_le (hFl b hb) hag.size))
  refine (hact _ M hag1 (hI _ _ _ _ hi hka) (fun b hb => hd b (hFp b hb))).mono ?_
  rintro e w2 ⟨rfl, M1, hi1, mv⟩
  have hR : ¬ M W.heap.size := fun h => by have := hlt _ _ _ hi _ h; omega
  have b1' := (b1.alloc (.cells #[.nilFunc, .nilFunc] 100)).kept mv.kept (hd _ h1)
  have b3' := (b3.alloc (.cells #[.nilFunc, .nilFunc] 100)).kept mv.kept (hd _ h3)
  have bR' := (Blk.new W #[.nilFunc, .nilFunc] 100).kept mv.kept hR
  have c1 := b1'.cell 0
  have c3 := b3'.cell 0
  clear c4
  have hV2 := (HV.out.agree hag1 (fun _ h => h)).keep mv.kept (fun b hb _ => hd b (hFp b hb))
  have hag2 : Agree Fp w w2 := hag1.trans (Agree.of_kept mv.kept (fun b hb => hd b (hFp b hb)) (fun b hb => Nat.lt_of_lt_of_le (hFl b hb) hag1.size))
  have HA2 := Lib.hid (acts_agree _ I hA hag2)
  have HV2 : Hid (VRow Fp w2 (.slice (some ⟨b, o, none⟩) L cap) vs) := Lib.hid (by rw [HL.out]; exact hV2)
  clear hV2
  by_cases hcap : cap = k + 1
  all_goals try (obtain rfl := hcap)
  all_goals
    go_wp2_with fail
    first
    | refine (ih (vs.drop (k + 1)) _ _ _ s' p Fp w2 rfl (by have := HV2.out.drop_all; rwa [show L - (k + 1) = 0 by omega] at this) (fun b hb => Nat.lt_of_lt_of_le (hFl b hb) hag2.size) HA2.out).mono ?_
    | refine (ih (vs.drop (k + 1)) _ _ _ s' p Fp w2 rfl (HV2.out.drop _ (by omega)) (fun b hb => Nat.lt_of_lt_of_le (hFl b hb) hag2.size) HA2.out).mono ?_
    rintro e w3 ⟨d, Fp3, rfl, k3, hF3, hD⟩
    have bR3 := bR'.still k3
    have f0 := bR3.free 0
    have f1 := bR3.free 1
    have c5 := bR3.cell 0
    have c6 := bR3.cell 1
    have hz := k3.size
    have hDC := does_cases _ Q I hD
    have HDD := Lib.hid hD
    have HE := Lib.hid (does_end Try.prog Q I (x := .nilFunc) (y := d) hlt hI (hlt _ _ _ hi) hFp (fun b hb => Nat.lt_of_lt_of_le (hFl b hb) hag.size) ((still_refl W).alloc _) (by simp) hi1 mv k3 hF3 hD)
    clear hD
    rcases hDC with rfl | ⟨F', caps', rfl⟩
    · go_wp2_with fail
      have bR4 := (bR3.set 0 .nilFunc).set 1 .nilFunc
      have d0 := bR4.cell 0
      have d1 := bR4.cell 1
      exact bodyPost_ret (v := .agg #[.nilFunc, .nilFunc]) (by simp [results, Try.f78, go_sem, d0, d1]) rfl ⟨_, _, M1, Fp3, rfl, HE.out.1, HE.out.2.1, mayOk_nil hQ _, HE.out.2.2⟩
    · go_wp2_with fail
      have bR4 := (bR3.set 0 .nilFunc).set 1 (.func (.func F') #[] caps')
      have d0 := bR4.cell 0
      have d1 := bR4.cell 1
      exact bodyPost_ret (v := .agg #[.nilFunc, .func (.func F') #[] caps']) (by simp [results, Try.f78, go_sem, d0, d1]) rfl ⟨_, _, M1, Fp3, rfl, HE.out.1, HE.out.2.1, mayOk_nil hQ _, HE.out.2.2⟩

set_option maxHeartbeats 1000000 in
theorem row_any {σ : Type} (Q : Value → Prop) (hQ : Q .nilFunc) (I : σ → (Nat → Prop) → World → Prop) (hlt : ∀ s M W, I s M W → ∀ b, M b → b < W.heap.size)
    (hI : ∀ s M A B, I s M A → Kept (fun b => ¬ M b) A B → I s M B) (n : Nat) :
    RowC Q I n := by
  induction n using Nat.strongRecOn with
  | ind n ih =>
    intro vs a len cap s p Fp w hn hv hFp hA
    obtain ⟨rfl, hle, hm, h0⟩ := hv.at_
    subst hn
    obtain ⟨L, hL⟩ : ∃ L, L = vs.length := ⟨_, rfl⟩
    rw [← hL] at hle ⊢
    unfold maxLen at hm
    have HL := Lib.hid hL
    have HV := Lib.hid hv
    have H0 := Lib.hid h0
    have HI := Lib.hid ih
    have HF := Lib.hid hFp
    clear hL hv h0 ih hFp
    go_enter Try.func61, Try.ntmps61
    go_wp2
    go_loopw [7] (fun i wr => ∃ k : Nat, k ≤ L ∧ i = .int .i64 k ∧ (∀ j, j < k → vs[j]? = some .nilFunc) ∧ Still w wr ∧ Blk wr w.heap.size #[.slice a L cap] 197 ∧ Blk wr (w.heap.size + 1) #[.nilFunc, .nilFunc] 100 ∧ w.heap.size + 2 ≤ wr.heap.size) (fun i _ => L - (intOf i).toNat)
    case atStart => exact ⟨0, Nat.zero_le _, rfl, by omega, by (repeat (first | (with_reducible exact Kept.refl _ _) | (with_reducible refine Kept.drewN ?_ _) | (with_reducible refine Kept.drew ?_) | (with_reducible refine Kept.put ?_ _ _) | (with_reducible refine Kept.alloc ?_ _))), (Blk.new _ _ _).alloc _, Blk.newAt _ _ _ (by simp), by simp⟩
    case round =>
      obtain ⟨k, hk, rfl, hnil, hs, bL, bR, hz⟩ := hrel
      have HN := Lib.hid hnil
      clear hnil
      have hA' := acts_nils _ I hA k HN.out
      by_cases hkl : k < L
      · obtain ⟨b, o, rfl, hb, hq, hc⟩ := H0.out (by rw [← HL.out]; omega)
        have c1 : wr.cell? ⟨b, o + k, none⟩ = vs[k]? := by exact (World.cell?_of_block (a := ⟨b, o + k, none⟩) (hs.block b hb (fun f => f))).trans (hc k (by rw [← HL.out]; exact hkl))
        have hkv : k < vs.length := by rw [← HL.out]; exact hkl
        rw [List.drop_eq_getElem_cons hkv] at hA'
        rw [List.getElem?_eq_getElem hkv] at c1
        obtain ⟨v, hv⟩ : ∃ v, v = vs[k] := ⟨_, rfl⟩
        rw [← hv] at c1 hA'
        have HK : Hid (vs[k]? = some v) := Lib.hid (by rw [List.getElem?_eq_getElem hkv, hv])
        clear hc hv
        rcases hA' with ⟨rfl, hA'⟩ | ⟨s', p', F, caps, rfl, rfl, hcF, hact, hA'⟩
        · have hne := fun w => nil_ne1 w
          go_wp2
          go_roundw
          case rel => exact ⟨k + 1, by omega, by go_num, fun j hj => (by rcases Nat.lt_or_ge j k with h | h; exact HN.out j h; obtain rfl : j = k := (by omega); exact HK.out), (hs.alloc _).alloc _, by ((repeat' (first | (with_reducible apply Blk.cast bL) | (with_reducible apply Blk.drewN) | (with_reducible apply Blk.drew) | (with_reducible apply Blk.alloc) | (with_reducible apply Blk.set') | (with_reducible apply Blk.other))); (repeat (any_goals rfl)); (all_goals first | omega | (simp; omega))), by ((repeat' (first | (with_reducible apply Blk.cast bR) | (with_reducible apply Blk.drewN) | (with_reducible apply Blk.drew) | (with_reducible apply Blk.alloc) | (with_reducible apply Blk.set') | (with_reducible apply Blk.other))); (repeat (any_goals rfl)); (all_goals first | omega | (simp; omega))), by simp; omega⟩
          case measure => simp [intOf]; omega
        · have hne := fun w => func_ne1 F caps w
          have bR2 := (bR.alloc (.cells #[.int .i64 k] 3)).alloc (.cells #[.func (.func F) #[] caps] 1)
          have f0 := bR2.free 0
          have f1 := bR2.free 1
          have c2 := bR2.cell 0
          have c3 := bR2.cell 1
          go_wp2
          have bR3 := (bR2.set 0 .nilFunc).set 1 (.func (.func 78) #[] #[.pointer (some ⟨wr.heap.size + 1, 0, none⟩), .pointer (some ⟨w.heap.size, 0, none⟩), .pointer (some ⟨wr.heap.size, 0, none⟩)])
          have d0 := bR3.cell 0
          have d1 := bR3.cell 1
          have hS : Still w _ := Kept.setCell (p := ⟨w.heap.size + 1, 1, none⟩) (Kept.setCell (p := ⟨w.heap.size + 1, 0, none⟩) ((hs.alloc (.cells #[.int .i64 k] 3)).alloc (.cells #[.func (.func F) #[] caps] 1)) (fun h => by simp at h; omega) .nilFunc) (fun h => by simp at h; omega) (.func (.func 78) #[] #[.pointer (some ⟨wr.heap.size + 1, 0, none⟩), .pointer (some ⟨w.heap.size, 0, none⟩), .pointer (some ⟨wr.heap.size, 0, none⟩)])
          have e1 := (((bL.alloc (.cells #[.int .i64 k] 3)).alloc (.cells #[.func (.func F) #[] caps] 1)).other (a := ⟨w.heap.size + 1, 0, none⟩) (by simp) .nilFunc).other (a := ⟨w.heap.size + 1, 1, none⟩) (by simp) (.func (.func 78) #[] #[.pointer (some ⟨wr.heap.size + 1, 0, none⟩), .pointer (some ⟨w.heap.size, 0, none⟩), .pointer (some ⟨wr.heap.size, 0, none⟩)])
          have e3 := (((Blk.new wr #[.int .i64 k] 3).alloc (.cells #[.func (.func F) #[] caps] 1)).other (a := ⟨w.heap.size + 1, 0, none⟩) (by simp; omega) .nilFunc).other (a := ⟨w.heap.size + 1, 1, none⟩) (by simp; omega) (.func (.func 78) #[] #[.pointer (some ⟨wr.heap.size + 1, 0, none⟩), .pointer (some ⟨w.heap.size, 0, none⟩), .pointer (some ⟨wr.heap.size, 0, none⟩)])
          have e4 := ((Blk.newAt (wr.alloc (.cells #[.int .i64 k] 3)) #[.func (.func F) #[] caps] 1 (n := wr.heap.size + 1) (by simp)).other (a := ⟨w.heap.size + 1, 0, none⟩) (by simp; omega) .nilFunc).other (a := ⟨w.heap.size + 1, 1, none⟩) (by simp; omega) (.func (.func 78) #[] #[.pointer (some ⟨wr.heap.size + 1, 0, none⟩), .pointer (some ⟨w.heap.size, 0, none⟩), .pointer (some ⟨wr.heap.size, 0, none⟩)])
          refine bodyPost_ret (v := .agg #[.nilFunc, .func (.func 78) #[] #[.pointer (some ⟨wr.heap.size + 1, 0, none⟩), .pointer (some ⟨w.heap.size, 0, none⟩), .pointer (some ⟨wr.heap.size, 0, none⟩)]]) (by simp [results, Try.f61, go_sem, d0, d1]) rfl ?_
          refine ⟨_, fun b => Fp b ∨ b = w.heap.size ∨ b = wr.heap.size ∨ b = wr.heap.size + 1, rfl, hS, fun b hb => (by rcases hb with h | h | h | h; exact .inl h; all_goals (right; omega)), ?_, _, _, rfl, ⟨_, Try.func78, by kernel_rfl, by kernel_rfl⟩, fun W M hag hi hd => ?_⟩
          · rintro b (h | h | h | h)
            · exact Nat.lt_of_lt_of_le (HF.out b h) hS.size
            · subst h; exact e1.lt
            · subst h; exact e3.lt
            · subst h; exact e4.lt
          · have hag' : Agree Fp w W := (Agree.of_kept hS (fun _ _ f => f) HF.out).trans (hag.less (fun b h => .inl h))
            have hvr : vs.length = L := HL.out.symm
            exact row1_any Q hQ I hlt hI vs b o cap k hkv (HI.out _ (by rw [List.length_drop]; omega)) s' p' Fp _ w HV.out hA' (fun b h => .inl h) HF.out w.heap.size wr.heap.size (wr.heap.size + 1) (by simp) (by simp) (by simp) F caps hcF s hact W M hag' hi hd
              (by rw [hvr]; exact e1.agree hag (by simp)) (e3.agree hag (by simp)) (e4.agree hag (by simp))
      · have f0 := bR.free 0
        have f1 := bR.free 1
        have c2 := bR.cell 0
        have c3 := bR.cell 1
        go_wp2
        have bR3 := (bR.set 0 .nilFunc).set 1 .nilFunc
        have d0 := bR3.cell 0
        have d1 := bR3.cell 1
        have hS : Still w _ := Kept.setCell (p := ⟨w.heap.size + 1, 1, none⟩) (Kept.setCell (p := ⟨w.heap.size + 1, 0, none⟩) hs (fun h => by simp at h; omega) .nilFunc) (fun h => by simp at h; omega) .nilFunc
        rw [List.drop_eq_nil_of_le (by rw [← HL.out]; omega)] at hA'
        obtain rfl : p = [] := hA'
        exact bodyPost_ret (v := .agg #[.nilFunc, .nilFunc]) (by simp [results, Try.f61, go_sem, d0, d1]) rfl ⟨_, Fp, rfl, hS, fun b h => .inl h, rfl⟩
end Go.Proofs.Ytbikganlloopbaa
