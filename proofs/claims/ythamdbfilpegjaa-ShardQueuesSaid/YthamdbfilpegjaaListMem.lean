/-
  What stands here: lists in a world, and what their functions do. Under no condition but that the world holds them.
-/
import Derived.Test.YthamdbfilpegjaaListState
import Derived.Test.YthamdbfilpegjaaText
import Derived.LaidEqlPtr
namespace Go.Proofs.Ythamdbfilpegjaa
set_option linter.unusedVariables false
set_option linter.unusedSimpArgs false
open Go.RowKit Go.Proofs

def ptrO : Option Nat → Value
  | none => .pointer none
  | some b => .pointer (some ⟨b, 0, none⟩)
theorem Leads.det2 {to : Nat → Option Nat} : ∀ {d e h r s : Nat}, Leads to d h r → Leads to e h s → d = e
  | 0, 0, _, _, _, _, _ => rfl
  | 0, e + 1, _, _, _, h, k => by obtain ⟨h', h1, _⟩ := k; rw [h.2] at h1; cases h1
  | d + 1, 0, _, _, _, h, k => by obtain ⟨h', h1, _⟩ := h; rw [k.2] at h1; cases h1
  | d + 1, e + 1, _, _, _, h, k => by
    obtain ⟨h1, e1, h2⟩ := h
    obtain ⟨k1, e2, k2⟩ := k
    rw [e1] at e2; cases e2
    rw [Leads.det2 h2 k2]
open Classical in
noncomputable def dep (to : Nat → Option Nat) (h : Nat) : Nat := if hh : ∃ d r, Leads to d h r then Classical.choose hh else 0
theorem dep_eq {to : Nat → Option Nat} {d h r : Nat} (hL : Leads to d h r) : dep to h = d := by
  have hh : ∃ d r, Leads to d h r := ⟨d, r, hL⟩
  unfold dep
  rw [dif_pos hh]
  obtain ⟨r', h'⟩ := Classical.choose_spec hh
  exact Leads.det2 h' hL
def blockOf : Value → Nat
  | .pointer (some a) => a.block
  | _ => 0

/-- two pointers to blocks of cells are compared -/
theorem eq_ptr {P : Program} {tp te : TypeId} {n : Nat} (hp : P.underlying tp = some (.pointer te)) (hs : (P.info? te).map (fun i => i.size) = some (n + 1)) {w : World} {a b : Nat} {ca cb : Array Value} {ta tb : TypeId} (ba : Blk w a ca ta) (bb : Blk w b cb tb) :
    (binOp .eql tp (.pointer (some ⟨a, 0, none⟩)) (.pointer (some ⟨b, 0, none⟩))).run P w = .ok (.bool (decide (a = b))) w := by
  obtain ⟨j, hj, hj1⟩ := Option.map_eq_some_iff.1 hs
  by_cases e : a = b
  · subst e; simp only [decide_true]; exact run_eql_ptr_same w _ hp hj
  · simp only [e, decide_false]
    exact run_eql_ptr_other w hp hj (by omega) (fun h => e (by cases h; rfl)) ba bb
theorem ne_ptr {P : Program} {tp te : TypeId} {n : Nat} (hp : P.underlying tp = some (.pointer te)) (hs : (P.info? te).map (fun i => i.size) = some (n + 1)) {w : World} {a b : Nat} {ca cb : Array Value} {ta tb : TypeId} (ba : Blk w a ca ta) (bb : Blk w b cb tb) :
    (binOp .neq tp (.pointer (some ⟨a, 0, none⟩)) (.pointer (some ⟨b, 0, none⟩))).run P w = .ok (.bool (!decide (a = b))) w := by
  have h := eq_ptr hp hs ba bb
  simp only [binOp] at h ⊢
  simp only [Sem.run_bind] at h ⊢
  cases hr : (Op.equal tp (.pointer (some ⟨a, 0, none⟩)) (.pointer (some ⟨b, 0, none⟩))).run P w with
  | ok v w' =>
    rw [hr] at h
    simp only [Result.andThen, Sem.run_pure, Result.ok.injEq, Value.bool.injEq] at h ⊢
    exact ⟨by rw [h.1], h.2⟩
  | halt x w' => rw [hr] at h; simp [Result.andThen] at h
theorem sizeHome : (Try.prog.info? 120).map (fun i => i.size) = some (0 + 1) := by kernel_rfl
/-- homes in a world -/
def Homes (s : LS) (W : World) : Prop := ∀ x, s.kd x = 3 → Blk W x #[ptrO (s.to x)] 120
set_option maxHeartbeats 1000000 in
theorem at_any (s : LS) (tok : ∀ h h', s.kd h = 3 → s.to h = some h' → s.kd h' = 3) (h d r : Nat) (w : World) (hH : Homes s w) (hk : s.kd h = 3) (hL : Leads s.to d h r) :
    Calls Try.prog 75 #[.pointer (some ⟨h, 0, none⟩)] w fun e w' => e = .returned (.pointer (some ⟨r, 0, none⟩)) ∧ Still w w' := by
  have HH := Lib.hid hH
  have HT := Lib.hid tok
  clear hH tok
  go_enter Try.func75, Try.ntmps75
  go_wp2_with fail
  go_loopw [0] (fun p wr => ∃ a n : Nat, p = .pointer (some ⟨a, 0, none⟩) ∧ s.kd a = 3 ∧ Leads s.to n a r ∧ Still w wr) (fun p _ => dep s.to (blockOf p))
  case atStart => exact ⟨h, d, rfl, hk, hL, still_refl w⟩
  case round =>
    obtain ⟨a, n, rfl, hka, hLa, hst⟩ := hrel
    have hb := (HH.out a hka).still hst
    have c0 := hb.cell 0
    have hdep := dep_eq hLa
    cases n with
    | zero =>
      obtain ⟨rfl, hto⟩ := hLa
      rw [hto] at c0
      have c0' : wr.cell? ⟨a, 0, none⟩ = some (.pointer none) := c0
      clear c0 hto hdep
      go_wp2_with fail
      go_ret
      exact ⟨rfl, hst⟩
    | succ n =>
      obtain ⟨a', hto, hLa'⟩ := hLa
      rw [hto] at c0
      have c0' : wr.cell? ⟨a, 0, none⟩ = some (.pointer (some ⟨a', 0, none⟩)) := c0
      have hka' := HT.out a a' hka hto
      have hdep' := dep_eq hLa'
      have HD := Lib.hid hdep
      have HD' := Lib.hid hdep'
      clear hdep hdep' c0 hto
      go_wp2_with fail
      go_roundw
      case rel => exact ⟨a', n, rfl, hka', hLa', hst⟩
      case measure => simp only [blockOf]; rw [HD.out, HD'.out]; omega

/-- lists in a world -/
structure LW_t (s : LS) (W : World) : Prop where
  inv : LInv s
  homes : Homes s W
  nodes : ∀ x, s.kd x = 2 → Blk W x #[(s.nd x).val, ptrO (s.nd x).prev, ptrO (s.nd x).next, ptrO (s.nd x).home] 114
  lists : ∀ x, s.kd x = 1 → Blk W x #[ptrO (hd (s.sq x) none), ptrO (lst none (s.sq x)), .int .i64 (s.sq x).length, .pointer (some ⟨s.hm x, 0, none⟩)] 122
  fresh : ∀ x, W.heap.size ≤ x → s.kd x = 0
theorem LW_t.kept {s : LS} {S : Nat → Prop} {W W' : World} (h : LW_t s W) (k : Kept S W W') (hS : ∀ x, s.kd x ≠ 0 → ¬ S x) : LW_t s W' :=
  ⟨h.inv, fun x hx => (h.homes x hx).kept k (hS x (by omega)), fun x hx => (h.nodes x hx).kept k (hS x (by omega)), fun x hx => (h.lists x hx).kept k (hS x (by omega)), fun x hx => h.fresh x (Nat.le_trans k.size hx)⟩
theorem LW_t.still {s : LS} {W W' : World} (h : LW_t s W) (k : Still W W') : LW_t s W' := h.kept k (fun _ _ f => f)
theorem LW_t.zero (W : World) : LW_t LS.zero W :=
  ⟨LInv.zero, fun x h => absurd h (by simp [LS.zero]), fun x h => absurd h (by simp [LS.zero]), fun x h => absurd h (by simp [LS.zero]), fun _ _ => rfl⟩
theorem lnew_t (s : LS) (w : World) (h : LW_t s w) :
    Calls Try.prog 44 #[] w fun e w' => e = .returned (.pointer (some ⟨w.heap.size + 1, 0, none⟩)) ∧ LW_t (s.new w.heap.size (w.heap.size + 1)) w' ∧ Still w w' := by
  go_enter Try.func44, Try.ntmps44
  go_wp2_with fail
  go_ret
  refine ⟨rfl, ?_, by (repeat (first | (with_reducible exact Kept.refl _ _) | (with_reducible refine Kept.drewN ?_ _) | (with_reducible refine Kept.drew ?_) | (with_reducible refine Kept.put ?_ _ _) | (with_reducible refine Kept.alloc ?_ _)))⟩
  have hst : Still w ((w.alloc (.cells #[.pointer none] 120)).alloc (.cells #[.pointer none, .pointer none, .int .i64 0, .pointer (some ⟨w.heap.size, 0, none⟩)] 122)) := by (repeat (first | (with_reducible exact Kept.refl _ _) | (with_reducible refine Kept.drewN ?_ _) | (with_reducible refine Kept.drew ?_) | (with_reducible refine Kept.put ?_ _ _) | (with_reducible refine Kept.alloc ?_ _)))
  have bH : Blk ((w.alloc (.cells #[.pointer none] 120)).alloc (.cells #[.pointer none, .pointer none, .int .i64 0, .pointer (some ⟨w.heap.size, 0, none⟩)] 122)) w.heap.size #[.pointer none] 120 := (Blk.new w _ _).alloc _
  have bL : Blk ((w.alloc (.cells #[.pointer none] 120)).alloc (.cells #[.pointer none, .pointer none, .int .i64 0, .pointer (some ⟨w.heap.size, 0, none⟩)] 122)) (w.heap.size + 1) #[.pointer none, .pointer none, .int .i64 0, .pointer (some ⟨w.heap.size, 0, none⟩)] 122 := Blk.newAt _ _ _ (by simp)
  have f0 := h.fresh w.heap.size (Nat.le_refl _)
  have f1 := h.fresh (w.heap.size + 1) (by omega)
  have h2 := h.still hst
  have ne : ∀ x, s.kd x ≠ 0 → x ≠ w.heap.size ∧ x ≠ w.heap.size + 1 := fun x hx => ⟨fun e => hx (by rw [e]; exact f0), fun e => hx (by rw [e]; exact f1)⟩
  have kd : ∀ x, (s.new w.heap.size (w.heap.size + 1)).kd x = if x = w.heap.size + 1 then 1 else if x = w.heap.size then 3 else s.kd x := fun x => rfl
  refine ⟨h.inv.new f0 f1 (by omega), fun x hx => ?_, fun x hx => ?_, fun x hx => ?_, fun x hx => ?_⟩
  · rw [kd] at hx
    split at hx
    · cases hx
    · split at hx
      · rename_i e2
        show Blk _ x #[ptrO (upd s.to w.heap.size none x)] _
        rw [e2, upd_same]; exact bH
      · rename_i e1 e2
        show Blk _ x #[ptrO (upd s.to w.heap.size none x)] _
        rw [upd_ne _ _ e2]; exact h2.homes x hx
  · rw [kd] at hx
    split at hx
    · cases hx
    · split at hx
      · cases hx
      · exact h2.nodes x hx
  · rw [kd] at hx
    split at hx
    · rename_i e1
      show Blk _ x #[ptrO (hd (upd s.sq (w.heap.size + 1) [] x) none), ptrO (lst none (upd s.sq (w.heap.size + 1) [] x)), .int .i64 (upd s.sq (w.heap.size + 1) [] x).length, .pointer (some ⟨upd s.hm (w.heap.size + 1) w.heap.size x, 0, none⟩)] _
      rw [e1, upd_same, upd_same]; exact bL
    · rename_i e1
      split at hx
      · cases hx
      · show Blk _ x #[ptrO (hd (upd s.sq (w.heap.size + 1) [] x) none), ptrO (lst none (upd s.sq (w.heap.size + 1) [] x)), .int .i64 (upd s.sq (w.heap.size + 1) [] x).length, .pointer (some ⟨upd s.hm (w.heap.size + 1) w.heap.size x, 0, none⟩)] _
        rw [upd_ne _ _ e1, upd_ne _ _ e1]; exact h2.lists x hx
  · have hx' : w.heap.size + 2 ≤ x := by simpa using hx
    rw [kd, if_neg (by omega), if_neg (by omega)]
    exact h.fresh x (by omega)
theorem llen_t (s : LS) (w : World) (h : LW_t s w) (l : Nat) (hl : s.kd l = 1) :
    Calls Try.prog 72 #[.pointer (some ⟨l, 0, none⟩)] w fun e w' => e = .returned (.int .i64 (s.sq l).length) ∧ w = w' := by
  have c0 := (h.lists l hl).cell 2
  have c0' : w.cell? ⟨l, 2, none⟩ = some (.int .i64 (s.sq l).length) := c0
  generalize (s.sq l).length = p at *
  go_enter Try.func72, Try.ntmps72
  go_wp2
  go_ret
  exact ⟨rfl, rfl⟩
/-- is a node there? -/
theorem lhas_t (s : LS) (w : World) (h : LW_t s w) (l x : Nat) (hl : s.kd l = 1) (hx : s.kd x = 2) :
    Calls Try.prog 71 #[.pointer (some ⟨l, 0, none⟩), .pointer (some ⟨x, 0, none⟩)] w fun e w' => e = .returned (.bool (decide (x ∈ s.sq l))) ∧ Still w w' := by
  have bX := h.nodes x hx
  have bL := h.lists l hl
  have cx := bX.cell 3
  have cl := bL.cell 3
  have cx' : w.cell? ⟨x, 3, none⟩ = some (ptrO (s.nd x).home) := cx
  have cl' : w.cell? ⟨l, 3, none⟩ = some (.pointer (some ⟨s.hm l, 0, none⟩)) := cl
  clear cx cl
  cases hh : (s.nd x).home with
  | none =>
    rw [hh] at cx'
    have cx2 : w.cell? ⟨x, 3, none⟩ = some (.pointer none) := cx'
    have hm : decide (x ∈ s.sq l) = false := by simpa using h.inv.nomem hh hl
    rw [hm]
    clear cx' hh hm
    go_enter Try.func71, Try.ntmps71
    go_wp2_with fail
    go_quiet (fail)
    go_wp2_with fail
    go_ret
    exact ⟨rfl, (still_refl w).drewN _⟩
  | some a =>
    rw [hh] at cx'
    have cx2 : w.cell? ⟨x, 3, none⟩ = some (.pointer (some ⟨a, 0, none⟩)) := cx'
    rcases h.inv.own x hx with h1 | ⟨l', hl', hm'⟩
    · rw [hh] at h1; cases h1
    · obtain ⟨_, a', d, e1, hk, hL⟩ := h.inv.mem l' x hl' hm'
      rw [hh] at e1; cases e1
      have hd : decide (x ∈ s.sq l) = (s.hm l' == s.hm l) := by
        by_cases e : l' = l
        · subst e; simp [hm']
        · have h1 : x ∉ s.sq l := fun hm => e (h.inv.one hl' hl hm' hm)
          have h2 : s.hm l' ≠ s.hm l := fun e2 => e (h.inv.inj l' l hl' hl e2)
          simp [h1, h2]
      have hd2 : decide (x ∈ s.sq l) = decide (s.hm l' = s.hm l) := by rw [hd]; by_cases e : s.hm l' = s.hm l <;> simp [e]
      rw [hd2]
      obtain ⟨kr, _⟩ := h.inv.hmk l' hl'
      obtain ⟨kq, _⟩ := h.inv.hmk l hl
      have hat := fun w hw => at_any s h.inv.tok a d (s.hm l') w hw hk hL
      have HAT := Lib.hid hat
      have HH := Lib.hid h.homes
      have HL := Lib.hid bL
      have HX := Lib.hid bX
      generalize s.hm l' = r at *
      generalize s.hm l = q at *
      clear cx' hh hd hd2 hat hL hm'
      go_enter Try.func71, Try.ntmps71
      go_wp2_with fail
      refine wp_region_text ([4], [103, 112]) [x, l] (by kernel_rfl) (by kernel_rfl) (cellsB_cons HX.out.cells (cellsB_cons HL.out.cells cellsB_nil)) (by simp [segs, isEff, isLoad, askOps, asks, ptrEq, eqOrNe, isNil]; rfl) ?_
      refine segs_go stay_drew (by simp [isLoad]) ?_
      go_wp2_with fail
      refine segs_load stay_drew (fun _ => (by exact ⟨x, _, rfl, by simp⟩)) ?_
      go_wp2_with fail
      refine segs_load stay_drew (fun _ => (by exact ⟨x, _, rfl, by simp⟩)) ?_
      go_wp2_with fail
      refine (HAT.out w.drew (fun y hy => (HH.out y hy).drew)).mono ?_
      rintro e w1 ⟨rfl, k1⟩
      have hst1 : StayB [x, l] w w1 := stay_drew.kept k1 (fun b hb => ⟨by simp only [List.mem_cons, List.not_mem_nil, or_false] at hb; rcases hb with rfl | rfl; exact HX.out.lt; exact HL.out.lt, fun f => f⟩)
      have d1 := (HL.out.drew.still k1).cell 3
      have d1' : w1.cell? ⟨l, 3, none⟩ = some (.pointer (some ⟨q, 0, none⟩)) := d1
      have KW := Lib.hid (((still_refl w).drew).trans k1)
      have heq := eq_ptr Try.underlying112 sizeHome (((HH.out r kr).drew).still k1) (((HH.out q kq).drew).still k1)
      clear d1 k1
      go_wp2_with fail
      refine segs_go hst1 (by simp [isLoad]) ?_
      go_wp2_with fail
      refine segs_load hst1 (fun _ => (by exact ⟨l, _, rfl, by simp⟩)) ?_
      go_wp2_with fail
      refine segs_go hst1 (by simp [isLoad]) ?_
      go_wp2_with fail
      refine segs_nil ?_
      go_wp2_with fail
      go_ret
      exact ⟨rfl, KW.out⟩
/-- some blocks were turned -/
theorem LW_t.turn {s s' : LS} {S : Nat → Prop} {w w' : World} (h : LW_t s w) (inv : LInv s') (hkd : s'.kd = s.kd) (hto : s'.to = s.to) (k : Kept S w w') (h3 : ∀ y, S y → s.kd y ≠ 3)
    (hn : ∀ y, s.kd y = 2 → (¬ S y ∧ s'.nd y = s.nd y) ∨ Blk w' y #[(s'.nd y).val, ptrO (s'.nd y).prev, ptrO (s'.nd y).next, ptrO (s'.nd y).home] 114)
    (hl : ∀ y, s.kd y = 1 → (¬ S y ∧ s'.sq y = s.sq y ∧ s'.hm y = s.hm y) ∨ Blk w' y #[ptrO (hd (s'.sq y) none), ptrO (lst none (s'.sq y)), .int .i64 (s'.sq y).length, .pointer (some ⟨s'.hm y, 0, none⟩)] 122) : LW_t s' w' := by
  refine ⟨inv, fun x hx => ?_, fun x hx => ?_, fun x hx => ?_, fun x hx => by rw [hkd]; exact h.fresh x (Nat.le_trans k.size hx)⟩
  · rw [hkd] at hx; rw [hto]; exact (h.homes x hx).kept k (fun hs => h3 x hs hx)
  · rw [hkd] at hx
    rcases hn x hx with ⟨h1, h2⟩ | h1
    · rw [h2]; exact (h.nodes x hx).kept k h1
    · exact h1
  · rw [hkd] at hx
    rcases hl x hx with ⟨h1, h2, h4⟩ | h1
    · rw [h2, h4]; exact (h.lists x hx).kept k h1
    · exact h1
/-- a node is put behind all others -/
theorem lput_no_t (s : LS) (w : World) (h : LW_t s w) (l x : Nat) (hl : s.kd l = 1) (hx : s.kd x = 2) (hh : (s.nd x).home ≠ none) :
    Calls Try.prog 59 #[.pointer (some ⟨l, 0, none⟩), .pointer (some ⟨x, 0, none⟩)] w fun e w' => e = .returned (.int .i64 7) ∧ w = w' := by
  have cx := (h.nodes x hx).cell 3
  have cx' : w.cell? ⟨x, 3, none⟩ = some (ptrO (s.nd x).home) := cx
  cases hh' : (s.nd x).home with
  | none => exact absurd hh' hh
  | some a =>
    rw [hh'] at cx'
    have cx2 : w.cell? ⟨x, 3, none⟩ = some (.pointer (some ⟨a, 0, none⟩)) := cx'
    clear cx cx' hh hh'
    go_enter Try.func59, Try.ntmps59
    go_wp2_with fail
    go_ret
    exact ⟨rfl, rfl⟩
set_option maxHeartbeats 1000000 in
theorem lput_t (s : LS) (w : World) (h : LW_t s w) (l x : Nat) (hl : s.kd l = 1) (hx : s.kd x = 2) (hh : (s.nd x).home = none) (hbig : (s.sq l).length < 9223372036854775807) :
    Calls Try.prog 59 #[.pointer (some ⟨l, 0, none⟩), .pointer (some ⟨x, 0, none⟩)] w fun e w' => e = .returned (.int .i64 0) ∧ LW_t (s.put l x) w' ∧ Kept (fun y => s.kd y = 1 ∨ s.kd y = 2) w w' := by
  have bX := h.nodes x hx
  have bL := h.lists l hl
  have cx : w.cell? ⟨x, 3, none⟩ = some (ptrO (s.nd x).home) := bX.cell 3
  rw [hh] at cx
  have cx3 : w.cell? ⟨x, 3, none⟩ = some (.pointer none) := cx
  have cx1 : w.cell? ⟨x, 1, none⟩ = some (ptrO (s.nd x).prev) := bX.cell 1
  have cx2 : w.cell? ⟨x, 2, none⟩ = some (ptrO (s.nd x).next) := bX.cell 2
  have fx1 := bX.free 1
  have fx2 := bX.free 2
  have fx3 := bX.free 3
  have cl0 : w.cell? ⟨l, 0, none⟩ = some (ptrO (hd (s.sq l) none)) := bL.cell 0
  have cl1 : w.cell? ⟨l, 1, none⟩ = some (ptrO (lst none (s.sq l))) := bL.cell 1
  have cl2 : w.cell? ⟨l, 2, none⟩ = some (.int .i64 (s.sq l).length) := bL.cell 2
  have cl3 : w.cell? ⟨l, 3, none⟩ = some (.pointer (some ⟨s.hm l, 0, none⟩)) := bL.cell 3
  have fl0 := bL.free 0
  have fl1 := bL.free 1
  have fl2 := bL.free 2
  have hxl : x ≠ l := by intro e; rw [e, hl] at hx; cases hx
  obtain ⟨n, hn⟩ : ∃ n, n = (s.sq l).length := ⟨_, rfl⟩
  rw [← hn] at cl2 hbig
  have HN := Lib.hid hn
  have H := Lib.hid h
  have HH := Lib.hid hh
  have HL := Lib.hid bL
  have HX := Lib.hid bX
  generalize ptrO (hd (s.sq l) none) = p0 at cl0
  generalize ptrO (s.nd x).prev = p1 at cx1
  generalize ptrO (s.nd x).next = p2 at cx2
  clear hn h hh cx bL bX
  rcases snoc_cases (s.sq l) with h0 | ⟨a, z, h0⟩
  · rw [h0] at cl1
    have cl1' : w.cell? ⟨l, 1, none⟩ = some (.pointer none) := cl1
    have H0 := Lib.hid h0
    clear cl1 h0
    go_enter Try.func59, Try.ntmps59
    go_wp2_with fail
    go_region
    go_wp2_with fail
    go_ret
    refine ⟨rfl, ?_⟩
    have hlx := Ne.symm hxl
    have bx := ((((((HX.out.set 3 (.pointer (some ⟨s.hm l, 0, none⟩))).set 1 (.pointer none)).set 2 (.pointer none)).other (a := ⟨l, 0, none⟩) hxl (.pointer (some ⟨x, 0, none⟩))).other (a := ⟨l, 1, none⟩) hxl (.pointer (some ⟨x, 0, none⟩))).other (a := ⟨l, 2, none⟩) hxl (.int .i64 ((n : Int) + 1))).drew
    have bl := ((((((HL.out.other (a := ⟨x, 3, none⟩) hlx (.pointer (some ⟨s.hm l, 0, none⟩))).other (a := ⟨x, 1, none⟩) hlx (.pointer none)).other (a := ⟨x, 2, none⟩) hlx (.pointer none)).set 0 (.pointer (some ⟨x, 0, none⟩))).set 1 (.pointer (some ⟨x, 0, none⟩))).set 2 (.int .i64 ((n : Int) + 1))).drew
    have kk : Kept (fun y => y = x ∨ y = l) w ((((((w.setCell ⟨x, 3, none⟩ (.pointer (some ⟨s.hm l, 0, none⟩))).setCell ⟨x, 1, none⟩ (.pointer none)).setCell ⟨x, 2, none⟩ (.pointer none)).setCell ⟨l, 0, none⟩ (.pointer (some ⟨x, 0, none⟩))).setCell ⟨l, 1, none⟩ (.pointer (some ⟨x, 0, none⟩))).setCell ⟨l, 2, none⟩ (.int .i64 ((n : Int) + 1))).drew :=
      ((((((((Kept.refl _ w).setCell (p := ⟨x, 3, none⟩) (fun _ => .inl rfl) _).setCell (p := ⟨x, 1, none⟩) (fun _ => .inl rfl) _).setCell (p := ⟨x, 2, none⟩) (fun _ => .inl rfl) _).setCell (p := ⟨l, 0, none⟩) (fun _ => .inr rfl) _).setCell (p := ⟨l, 1, none⟩) (fun _ => .inr rfl) _).setCell (p := ⟨l, 2, none⟩) (fun _ => .inr rfl) _)).drew
    have hnx : ((s.put l x).nd x) = { s.nd x with prev := lst none (s.sq l), next := none, home := some (s.hm l) } := if_pos rfl
    have hsl : (s.put l x).sq l = s.sq l ++ [x] := upd_same _ _ _
    refine ⟨H.out.turn (H.out.inv.put hl hx HH.out) rfl rfl kk (by rintro y (rfl | rfl) <;> omega) (fun y hy => ?_) (fun y hy => ?_), kk.mono (by rintro y _ (rfl | rfl); exact .inr hx; exact .inl hl)⟩
    · by_cases e : y = x
      · subst e; right; rw [hnx, H0.out]; exact bx.cast (by simp [ptrO, lst])
      · left
        refine ⟨(by rintro (h1 | h1); exact e h1; (rw [h1, hl] at hy; cases hy)), ?_⟩
        show putNd _ _ _ _ y = _
        unfold putNd; rw [if_neg e, if_neg (by rw [H0.out]; intro h; cases h)]
    · by_cases e : y = l
      · subst e; right; rw [hsl, H0.out]; exact bl.cast (by have := HN.out; rw [H0.out] at this; simp [ptrO, hd, lst, this]; rfl)
      · left
        exact ⟨(by rintro (h1 | h1); (rw [h1, hx] at hy; cases hy); exact e h1), upd_ne _ _ e, rfl⟩
  · rw [h0, lst_snoc] at cl1
    have cl1' : w.cell? ⟨l, 1, none⟩ = some (.pointer (some ⟨z, 0, none⟩)) := cl1
    have H0 := Lib.hid h0
    clear cl1 h0
    have hzm : z ∈ s.sq l := by rw [H0.out]; simp
    have hz2 := (H.out.inv.mem l z hl hzm).1
    have bZ := H.out.nodes z hz2
    have cz2 : w.cell? ⟨z, 2, none⟩ = some (ptrO (s.nd z).next) := bZ.cell 2
    have fz2 := bZ.free 2
    have hzl : z ≠ l := by intro e; rw [e, hl] at hz2; cases hz2
    have hzx : z ≠ x := by intro e; subst e; exact H.out.inv.nomem HH.out hl hzm
    generalize ptrO (s.nd z).next = p3 at cz2
    clear bZ
    go_enter Try.func59, Try.ntmps59
    go_wp2_with fail
    go_region
    go_wp2_with fail
    go_ret
    refine ⟨rfl, ?_⟩
    have hlx := Ne.symm hxl
    have hlz := Ne.symm hzl
    have hxz := Ne.symm hzx
    have bZ := H.out.nodes z hz2
    have bx := ((((((HX.out.set 3 (.pointer (some ⟨s.hm l, 0, none⟩))).set 1 (.pointer (some ⟨z, 0, none⟩))).set 2 (.pointer none)).other (a := ⟨z, 2, none⟩) hxz (.pointer (some ⟨x, 0, none⟩))).other (a := ⟨l, 1, none⟩) hxl (.pointer (some ⟨x, 0, none⟩))).other (a := ⟨l, 2, none⟩) hxl (.int .i64 ((n : Int) + 1))).drew
    have bl := ((((((HL.out.other (a := ⟨x, 3, none⟩) hlx (.pointer (some ⟨s.hm l, 0, none⟩))).other (a := ⟨x, 1, none⟩) hlx (.pointer (some ⟨z, 0, none⟩))).other (a := ⟨x, 2, none⟩) hlx (.pointer none)).other (a := ⟨z, 2, none⟩) hlz (.pointer (some ⟨x, 0, none⟩))).set 1 (.pointer (some ⟨x, 0, none⟩))).set 2 (.int .i64 ((n : Int) + 1))).drew
    have bz := ((((((bZ.other (a := ⟨x, 3, none⟩) hzx (.pointer (some ⟨s.hm l, 0, none⟩))).other (a := ⟨x, 1, none⟩) hzx (.pointer (some ⟨z, 0, none⟩))).other (a := ⟨x, 2, none⟩) hzx (.pointer none)).set 2 (.pointer (some ⟨x, 0, none⟩))).other (a := ⟨l, 1, none⟩) hzl (.pointer (some ⟨x, 0, none⟩))).other (a := ⟨l, 2, none⟩) hzl (.int .i64 ((n : Int) + 1))).drew
    have kk : Kept (fun y => y = x ∨ y = l ∨ y = z) w ((((((w.setCell ⟨x, 3, none⟩ (.pointer (some ⟨s.hm l, 0, none⟩))).setCell ⟨x, 1, none⟩ (.pointer (some ⟨z, 0, none⟩))).setCell ⟨x, 2, none⟩ (.pointer none)).setCell ⟨z, 2, none⟩ (.pointer (some ⟨x, 0, none⟩))).setCell ⟨l, 1, none⟩ (.pointer (some ⟨x, 0, none⟩))).setCell ⟨l, 2, none⟩ (.int .i64 ((n : Int) + 1))).drew :=
      ((((((((Kept.refl _ w).setCell (p := ⟨x, 3, none⟩) (fun _ => .inl rfl) _).setCell (p := ⟨x, 1, none⟩) (fun _ => .inl rfl) _).setCell (p := ⟨x, 2, none⟩) (fun _ => .inl rfl) _).setCell (p := ⟨z, 2, none⟩) (fun _ => .inr (.inr rfl)) _).setCell (p := ⟨l, 1, none⟩) (fun _ => .inr (.inl rfl)) _).setCell (p := ⟨l, 2, none⟩) (fun _ => .inr (.inl rfl)) _)).drew
    have hnx : ((s.put l x).nd x) = { s.nd x with prev := lst none (s.sq l), next := none, home := some (s.hm l) } := if_pos rfl
    have hsl : (s.put l x).sq l = s.sq l ++ [x] := upd_same _ _ _
    have hnz : ((s.put l x).nd z) = { s.nd z with next := some x } := by
      show putNd _ _ _ _ z = _
      unfold putNd; rw [if_neg hzx, if_pos (by rw [H0.out, lst_snoc])]
    refine ⟨H.out.turn (H.out.inv.put hl hx HH.out) rfl rfl kk (by rintro y (rfl | rfl | rfl) <;> omega) (fun y hy => ?_) (fun y hy => ?_), kk.mono (by rintro y _ (rfl | rfl | rfl); exact .inr hx; exact .inl hl; exact .inr hz2)⟩
    · by_cases e : y = x
      · subst e; right; rw [hnx, H0.out, lst_snoc]; exact bx.cast (by simp [ptrO])
      · by_cases e2 : y = z
        · subst e2; right; rw [hnz]; exact bz.cast (by simp [ptrO])
        · left
          refine ⟨(by rintro (h1 | h1 | h1); exact e h1; (rw [h1, hl] at hy; cases hy); exact e2 h1), ?_⟩
          show putNd _ _ _ _ y = _
          unfold putNd; rw [if_neg e, if_neg (by rw [H0.out, lst_snoc]; intro h; cases h; exact e2 rfl)]
    · by_cases e : y = l
      · subst e; right; rw [hsl, lst_snoc]; exact bl.cast (by have := HN.out; simp [ptrO, hd_append, H0.out] at this ⊢; rw [this]; cases a <;> simp [hd] <;> first | rfl | exact ⟨by omega, rfl⟩)
      · left
        exact ⟨(by rintro (h1 | h1 | h1); (rw [h1, hx] at hy; cases hy); exact e h1; (rw [h1, hz2] at hy; cases hy)), upd_ne _ _ e, rfl⟩
/-- a new node x, in a world -/
theorem LW_t.node {s : LS} {w : World} (h : LW_t s w) (v : Value) {x : Nat} (hx : w.heap.size = x) : LW_t (s.node x v) (w.alloc (.cells #[v, .pointer none, .pointer none, .pointer none] 114)) := by
  subst hx
  have h2 := h.still ((still_refl w).alloc (.cells #[v, .pointer none, .pointer none, .pointer none] 114))
  have f0 := h.fresh w.heap.size (Nat.le_refl _)
  have kd : ∀ y, (s.node w.heap.size v).kd y = if y = w.heap.size then 2 else s.kd y := fun y => rfl
  refine ⟨h.inv.node f0 v, fun y hy => ?_, fun y hy => ?_, fun y hy => ?_, fun y hy => ?_⟩
  · rw [kd] at hy
    split at hy
    · cases hy
    · exact h2.homes y hy
  · rw [kd] at hy
    split at hy
    · rename_i e
      subst e
      have e2 : (s.node w.heap.size v).nd w.heap.size = ⟨v, none, none, none⟩ := upd_same _ _ _
      rw [e2]; exact Blk.new w _ _
    · rename_i e
      have e2 : (s.node w.heap.size v).nd y = s.nd y := upd_ne _ _ e
      rw [e2]; exact h2.nodes y hy
  · rw [kd] at hy
    split at hy
    · cases hy
    · exact h2.lists y hy
  · have hy' : w.heap.size + 1 ≤ y := by simpa using hy
    rw [kd, if_neg (by omega)]; exact h.fresh y (by omega)
/-- a node is taken out -/
theorem lunlink_no_t (s : LS) (w : World) (h : LW_t s w) (l x : Nat) (hl : s.kd l = 1) (hx : s.kd x = 2) (hm : x ∉ s.sq l) :
    Calls Try.prog 63 #[.pointer (some ⟨l, 0, none⟩), .pointer (some ⟨x, 0, none⟩)] w fun e w' => e = .returned (.int .i64 6) ∧ Still w w' := by
  have hh := lhas_t s w h l x hl hx
  rw [show decide (x ∈ s.sq l) = false by simpa using hm] at hh
  have HH := Lib.hid hh
  clear hh
  go_enter Try.func63, Try.ntmps63
  go_wp2_with fail
  refine HH.out.mono ?_
  rintro e w1 ⟨rfl, k1⟩
  go_wp2_with fail
  go_ret
  exact ⟨rfl, k1⟩
theorem sizeNode_t : (Try.prog.info? 114).map (fun i => i.size) = some (3 + 1) := by kernel_rfl


theorem lfirst_t (s : LS) (w : World) (h : LW_t s w) (l : Nat) (hl : s.kd l = 1) :
    Calls Try.prog 65 #[.pointer (some ⟨l, 0, none⟩)] w fun e w' => e = .returned (ptrO (hd (s.sq l) none)) ∧ w = w' := by
  have c0 := (h.lists l hl).cell 0
  have c0' : w.cell? ⟨l, 0, none⟩ = some (ptrO (hd (s.sq l) none)) := c0
  generalize ptrO (hd (s.sq l) none) = p at *
  go_enter Try.func65, Try.ntmps65
  go_wp2
  go_ret
  exact ⟨rfl, rfl⟩

end Go.Proofs.Ythamdbfilpegjaa
namespace Go.Proofs.Ythamdbfilpegjaa
set_option linter.unusedVariables false
set_option linter.unusedSimpArgs false
open Go.RowKit Go.Proofs
end Go.Proofs.Ythamdbfilpegjaa
