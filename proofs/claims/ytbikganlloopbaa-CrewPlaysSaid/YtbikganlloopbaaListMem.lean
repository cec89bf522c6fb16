/-
  What stands here: lists in a world, and what their functions do. Under no condition but that the world holds them.
-/
import Derived.Test.YtbikganlloopbaaListState
import Derived.Test.YtbikganlloopbaaText
import Derived.LaidEqlPtr
namespace Go.Proofs.Ytbikganlloopbaa
set_option linter.unusedVariables false
set_option linter.unusedSimpArgs false
open Go.RowKit Go.Proofs

def ptrO : Option Nat → Value
  | none => .pointer none
  | some b => .pointer (some ⟨b, 0, none⟩)
theorem Leads.det2 {to : Nat → Option Nat} : ∀ {d e h r s : Nat}, Leads to d h r → Leads to e h s → d = e
  | 0, 0, _, _, _, _, _ => rfl
  | 0, e + 1, _, _, _, h, k => by obtain ⟨h', h1, _⟩ := k; rw [h.2] at h1; cases h1
  | d + 1, 0, _, _, _, h, k => by obtain ⟨h', h1, _⟩ := h; rw [k.2] at h1; cases h1
  | d + 1, e + 1, _, _, _, h, k => by
    obtain ⟨h1, e1, h2⟩ := h
    obtain ⟨k1, e2, k2⟩ := k
    rw [e1] at e2; cases e2
    rw [Leads.det2 h2 k2]
open Classical in
noncomputable def dep (to : Nat → Option Nat) (h : Nat) : Nat := if hh : ∃ d r, Leads to d h r then Classical.choose hh else 0
theorem dep_eq {to : Nat → Option Nat} {d h r : Nat} (hL : Leads to d h r) : dep to h = d := by
  have hh : ∃ d r, Leads to d h r := ⟨d, r, hL⟩
  unfold dep
  rw [dif_pos hh]
  obtain ⟨r', h'⟩ := Classical.choose_spec hh
  exact Leads.det2 h' hL
def blockOf : Value → Nat
  | .pointer (some a) => a.block
  | _ => 0

/-- two pointers to blocks of cells are compared -/
theorem eq_ptr {P : Program} {tp te : TypeId} {n : Nat} (hp : P.underlying tp = some (.pointer te)) (hs : (P.info? te).map (fun i => i.size) = some (n + 1)) {w : World} {a b : Nat} {ca cb : Array Value} {ta tb : TypeId} (ba : Blk w a ca ta) (bb : Blk w b cb tb) :
    (binOp .eql tp (.pointer (some ⟨a, 0, none⟩)) (.pointer (some ⟨b, 0, none⟩))).run P w = .ok (.bool (decide (a = b))) w := by
  obtain ⟨j, hj, hj1⟩ := Option.map_eq_some_iff.1 hs
  by_cases e : a = b
  · subst e; simp only [decide_true]; exact run_eql_ptr_same w _ hp hj
  · simp only [e, decide_false]
    exact run_eql_ptr_other w hp hj (by omega) (fun h => e (by cases h; rfl)) ba bb
theorem ne_ptr {P : Program} {tp te : TypeId} {n : Nat} (hp : P.underlying tp = some (.pointer te)) (hs : (P.info? te).map (fun i => i.size) = some (n + 1)) {w : World} {a b : Nat} {ca cb : Array Value} {ta tb : TypeId} (ba : Blk w a ca ta) (bb : Blk w b cb tb) :
    (binOp .neq tp (.pointer (some ⟨a, 0, none⟩)) (.pointer (some ⟨b, 0, none⟩))).run P w = .ok (.bool (!decide (a = b))) w := by
  have h := eq_ptr hp hs ba bb
  simp only [binOp] at h ⊢
  simp only [Sem.run_bind] at h ⊢
  cases hr : (Op.equal tp (.pointer (some ⟨a, 0, none⟩)) (.pointer (some ⟨b, 0, none⟩))).run P w with
  | ok v w' =>
    rw [hr] at h
    simp only [Result.andThen, Sem.run_pure, Result.ok.injEq, Value.bool.injEq] at h ⊢
    exact ⟨by rw [h.1], h.2⟩
  | halt x w' => rw [hr] at h; simp [Result.andThen] at h
theorem sizeHome : (Try.prog.info? 178).map (fun i => i.size) = some (0 + 1) := by kernel_rfl
/-- homes in a world -/
def Homes (s : LS) (W : World) : Prop := ∀ x, s.kd x = 3 → Blk W x #[ptrO (s.to x)] 178
set_option maxHeartbeats 1000000 in
theorem at_any (s : LS) (tok : ∀ h h', s.kd h = 3 → s.to h = some h' → s.kd h' = 3) (h d r : Nat) (w : World) (hH : Homes s w) (hk : s.kd h = 3) (hL : Leads s.to d h r) :
    Calls Try.prog 85 #[.pointer (some ⟨h, 0, none⟩)] w fun e w' => e = .returned (.pointer (some ⟨r, 0, none⟩)) ∧ Still w w' := by
  have HH := Lib.hid hH
  have HT := Lib.hid tok
  clear hH tok
  go_enter Try.func85, Try.ntmps85
  go_wp2_with fail
  go_loopw [0] (fun p wr => ∃ a n : Nat, p = .pointer (some ⟨a, 0, none⟩) ∧ s.kd a = 3 ∧ Leads s.to n a r ∧ Still w wr) (fun p _ => dep s.to (blockOf p))
  case atStart => exact ⟨h, d, rfl, hk, hL, still_refl w⟩
  case round =>
    obtain ⟨a, n, rfl, hka, hLa, hst⟩ := hrel
    have hb := (HH.out a hka).still hst
    have c0 := hb.cell 0
    have hdep := dep_eq hLa
    cases n with
    | zero =>
      obtain ⟨rfl, hto⟩ := hLa
      rw [hto] at c0
      have c0' : wr.cell? ⟨a, 0, none⟩ = some (.pointer none) := c0
      clear c0 hto hdep
      go_wp2_with fail
      go_ret
      exact ⟨rfl, hst⟩
    | succ n =>
      obtain ⟨a', hto, hLa'⟩ := hLa
      rw [hto] at c0
      have c0' : wr.cell? ⟨a, 0, none⟩ = some (.pointer (some ⟨a', 0, none⟩)) := c0
      have hka' := HT.out a a' hka hto
      have hdep' := dep_eq hLa'
      have HD := Lib.hid hdep
      have HD' := Lib.hid hdep'
      clear hdep hdep' c0 hto
      go_wp2_with fail
      go_roundw
      case rel => exact ⟨a', n, rfl, hka', hLa', hst⟩
      case measure => simp only [blockOf]; rw [HD.out, HD'.out]; omega

/-- lists in a world -/
structure LW_t (s : LS) (W : World) : Prop where
  inv : LInv s
  homes : Homes s W
  nodes : ∀ x, s.kd x = 2 → Blk W x #[(s.nd x).val, ptrO (s.nd x).prev, ptrO (s.nd x).next, ptrO (s.nd x).home] 254
  lists : ∀ x, s.kd x = 1 → Blk W x #[ptrO (hd (s.sq x) none), ptrO (lst none (s.sq x)), .int .i64 (s.sq x).length, .pointer (some ⟨s.hm x, 0, none⟩)] 204
  fresh : ∀ x, W.heap.size ≤ x → s.kd x = 0
theorem LW_t.kept {s : LS} {S : Nat → Prop} {W W' : World} (h : LW_t s W) (k : Kept S W W') (hS : ∀ x, s.kd x ≠ 0 → ¬ S x) : LW_t s W' :=
  ⟨h.inv, fun x hx => (h.homes x hx).kept k (hS x (by omega)), fun x hx => (h.nodes x hx).kept k (hS x (by omega)), fun x hx => (h.lists x hx).kept k (hS x (by omega)), fun x hx => h.fresh x (Nat.le_trans k.size hx)⟩
theorem LW_t.still {s : LS} {W W' : World} (h : LW_t s W) (k : Still W W') : LW_t s W' := h.kept k (fun _ _ f => f)
theorem LW_t.zero (W : World) : LW_t LS.zero W :=
  ⟨LInv.zero, fun x h => absurd h (by simp [LS.zero]), fun x h => absurd h (by simp [LS.zero]), fun x h => absurd h (by simp [LS.zero]), fun _ _ => rfl⟩
theorem lnew_t (s : LS) (w : World) (h : LW_t s w) :
    Calls Try.prog 72 #[] w fun e w' => e = .returned (.pointer (some ⟨w.heap.size + 1, 0, none⟩)) ∧ LW_t (s.new w.heap.size (w.heap.size + 1)) w' ∧ Still w w' := by
  go_enter Try.func72, Try.ntmps72
  go_wp2_with fail
  go_ret
  refine ⟨rfl, ?_, by (repeat (first | (with_reducible exact Kept.refl _ _) | (with_reducible refine Kept.drewN ?_ _) | (with_reducible refine Kept.drew ?_) | (with_reducible refine Kept.put ?_ _ _) | (with_reducible refine Kept.alloc ?_ _)))⟩
  have hst : Still w ((w.alloc (.cells #[.pointer none] 178)).alloc (.cells #[.pointer none, .pointer none, .int .i64 0, .pointer (some ⟨w.heap.size, 0, none⟩)] 204)) := by (repeat (first | (with_reducible exact Kept.refl _ _) | (with_reducible refine Kept.drewN ?_ _) | (with_reducible refine Kept.drew ?_) | (with_reducible refine Kept.put ?_ _ _) | (with_reducible refine Kept.alloc ?_ _)))
  have bH : Blk ((w.alloc (.cells #[.pointer none] 178)).alloc (.cells #[.pointer none, .pointer none, .int .i64 0, .pointer (some ⟨w.heap.size, 0, none⟩)] 204)) w.heap.size #[.pointer none] 178 := (Blk.new w _ _).alloc _
  have bL : Blk ((w.alloc (.cells #[.pointer none] 178)).alloc (.cells #[.pointer none, .pointer none, .int .i64 0, .pointer (some ⟨w.heap.size, 0, none⟩)] 204)) (w.heap.size + 1) #[.pointer none, .pointer none, .int .i64 0, .pointer (some ⟨w.heap.size, 0, none⟩)] 204 := Blk.newAt _ _ _ (by simp)
  have f0 := h.fresh w.heap.size (Nat.le_refl _)
  have f1 := h.fresh (w.heap.size + 1) (by omega)
  have h2 := h.still hst
  have ne : ∀ x, s.kd x ≠ 0 → x ≠ w.heap.size ∧ x ≠ w.heap.size + 1 := fun x hx => ⟨fun e => hx (by rw [e]; exact f0), fun e => hx (by rw [e]; exact f1)⟩
  have kd : ∀ x, (s.new w.heap.size (w.heap.size + 1)).kd x = if x = w.heap.size + 1 then 1 else if x = w.heap.size then 3 else s.kd x := fun x => rfl
  refine ⟨h.inv.new f0 f1 (by omega), fun x hx => ?_, fun x hx => ?_, fun x hx => ?_, fun x hx => ?_⟩
  · rw [kd] at hx
    split at hx
    · cases hx
    · split at hx
      · rename_i e2
        show Blk _ x #[ptrO (upd s.to w.heap.size none x)] _
        rw [e2, upd_same]; exact bH
      · rename_i e1 e2
        show Blk _ x #[ptrO (upd s.to w.heap.size none x)] _
        rw [upd_ne _ _ e2]; exact h2.homes x hx
  · rw [kd] at hx
    split at hx
    · cases hx
    · split at hx
      · cases hx
      · exact h2.nodes x hx
  · rw [kd] at hx
    split at hx
    · rename_i e1
      show Blk _ x #[ptrO (hd (upd s.sq (w.heap.size + 1) [] x) none), ptrO (lst none (upd s.sq (w.heap.size + 1) [] x)), .int .i64 (upd s.sq (w.heap.size + 1) [] x).length, .pointer (some ⟨upd s.hm (w.heap.size + 1) w.heap.size x, 0, none⟩)] _
      rw [e1, upd_same, upd_same]; exact bL
    · rename_i e1
      split at hx
      · cases hx
      · show Blk _ x #[ptrO (hd (upd s.sq (w.heap.size + 1) [] x) none), ptrO (lst none (upd s.sq (w.heap.size + 1) [] x)), .int .i64 (upd s.sq (w.heap.size + 1) [] x).length, .pointer (some ⟨upd s.hm (w.heap.size + 1) w.heap.size x, 0, none⟩)] _
        rw [upd_ne _ _ e1, upd_ne _ _ e1]; exact h2.lists x hx
  · have hx' : w.heap.size + 2 ≤ x := by simpa using hx
    rw [kd, if_neg (by omega), if_neg (by omega)]
    exact h.fresh x (by omega)
/-- some blocks were turned -/
theorem LW_t.turn {s s' : LS} {S : Nat → Prop} {w w' : World} (h : LW_t s w) (inv : LInv s') (hkd : s'.kd = s.kd) (hto : s'.to = s.to) (k : Kept S w w') (h3 : ∀ y, S y → s.kd y ≠ 3)
    (hn : ∀ y, s.kd y = 2 → (¬ S y ∧ s'.nd y = s.nd y) ∨ Blk w' y #[(s'.nd y).val, ptrO (s'.nd y).prev, ptrO (s'.nd y).next, ptrO (s'.nd y).home] 254)
    (hl : ∀ y, s.kd y = 1 → (¬ S y ∧ s'.sq y = s.sq y ∧ s'.hm y = s.hm y) ∨ Blk w' y #[ptrO (hd (s'.sq y) none), ptrO (lst none (s'.sq y)), .int .i64 (s'.sq y).length, .pointer (some ⟨s'.hm y, 0, none⟩)] 204) : LW_t s' w' := by
  refine ⟨inv, fun x hx => ?_, fun x hx => ?_, fun x hx => ?_, fun x hx => by rw [hkd]; exact h.fresh x (Nat.le_trans k.size hx)⟩
  · rw [hkd] at hx; rw [hto]; exact (h.homes x hx).kept k (fun hs => h3 x hs hx)
  · rw [hkd] at hx
    rcases hn x hx with ⟨h1, h2⟩ | h1
    · rw [h2]; exact (h.nodes x hx).kept k h1
    · exact h1
  · rw [hkd] at hx
    rcases hl x hx with ⟨h1, h2, h4⟩ | h1
    · rw [h2, h4]; exact (h.lists x hx).kept k h1
    · exact h1
/-- a new node x, in a world -/
theorem LW_t.node {s : LS} {w : World} (h : LW_t s w) (v : Value) {x : Nat} (hx : w.heap.size = x) : LW_t (s.node x v) (w.alloc (.cells #[v, .pointer none, .pointer none, .pointer none] 254)) := by
  subst hx
  have h2 := h.still ((still_refl w).alloc (.cells #[v, .pointer none, .pointer none, .pointer none] 254))
  have f0 := h.fresh w.heap.size (Nat.le_refl _)
  have kd : ∀ y, (s.node w.heap.size v).kd y = if y = w.heap.size then 2 else s.kd y := fun y => rfl
  refine ⟨h.inv.node f0 v, fun y hy => ?_, fun y hy => ?_, fun y hy => ?_, fun y hy => ?_⟩
  · rw [kd] at hy
    split at hy
    · cases hy
    · exact h2.homes y hy
  · rw [kd] at hy
    split at hy
    · rename_i e
      subst e
      have e2 : (s.node w.heap.size v).nd w.heap.size = ⟨v, none, none, none⟩ := upd_same _ _ _
      rw [e2]; exact Blk.new w _ _
    · rename_i e
      have e2 : (s.node w.heap.size v).nd y = s.nd y := upd_ne _ _ e
      rw [e2]; exact h2.nodes y hy
  · rw [kd] at hy
    split at hy
    · cases hy
    · exact h2.lists y hy
  · have hy' : w.heap.size + 1 ≤ y := by simpa using hy
    rw [kd, if_neg (by omega)]; exact h.fresh y (by omega)
theorem sizeNode_t : (Try.prog.info? 254).map (fun i => i.size) = some (3 + 1) := by kernel_rfl



end Go.Proofs.Ytbikganlloopbaa
namespace Go.Proofs.Ytbikganlloopbaa
set_option linter.unusedVariables false
set_option linter.unusedSimpArgs false
open Go.RowKit Go.Proofs
end Go.Proofs.Ytbikganlloopbaa
