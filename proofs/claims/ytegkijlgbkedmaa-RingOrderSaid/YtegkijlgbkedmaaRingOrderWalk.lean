/-
  What stands here: the walk of RingOrder. Under no condition but that its arguments fit their types.
-/
import Derived.Test.YtegkijlgbkedmaaRingOrd
import Derived.Maps.Own
import Derived.Deep.CutRange
import Derived.Deep.CutBlock
namespace Go.Proofs.Ytegkijlgbkedmaa
set_option linter.unusedVariables false
set_option linter.unusedSimpArgs false
open Go.RowKit Go.Proofs

theorem infoPtr4 : (Try.prog.info? 37).map (fun i => (i.zero, i.size, i.bytes)) = some (some (.pointer none), 1, 8) := by kernel_rfl
theorem infoNum4 : (Try.prog.info? 3).map (fun i => (i.zero, i.size, i.bytes)) = some (some (.int .i64 0), 1, 8) := by kernel_rfl
theorem wf_nat {q : Nat} (h : q < 9223372036854775807) : (Lit.int .i64 (q : Int)).wf = true := WalkArith.wf_i64 (by omega)
/-- all at once -/
structure RO (base b sb mb room k : Nat) (lv hv : Value) (r : RS) (ts : List TS) (tks held : List Nat) (m : Nat) (f : Int → Bool) (w W : World) : Prop where
  o : ∃ col, OW col b sb base mb lv hv r ts tks held m f W
  t : TieO r ts held
  f : ∀ i : Nat, f i = fillAt ts i
  n : r.N = room
  ht : r.t ≤ k
  hl : tks.length ≤ k
  hm : m ≤ k
  bel : Below base w W
  le : base ≤ w.heap.size
section
variable {base b sb mb room k : Nat} {lv hv : Value} {r : RS} {ts : List TS} {tks held : List Nat} {m : Nat} {f : Int → Bool} {w W : World}
theorem RO.ok (h : RO base b sb mb room k lv hv r ts tks held m f w W) : r.Ok := by obtain ⟨col, o⟩ := h.o; exact o.ring.ok
theorem RO.tl (h : RO base b sb mb room k lv hv r ts tks held m f w W) : tks.length = ts.length := by obtain ⟨col, o⟩ := h.o; exact o.tl
theorem RO.next (h : RO base b sb mb room k lv hv r ts tks held m f w W) : RO base b sb mb room (k + 1) lv hv r ts tks held m f w W := ⟨h.o, h.t, h.f, h.n, Nat.le_succ_of_le h.ht, Nat.le_succ_of_le h.hl, Nat.le_succ_of_le h.hm, h.bel, h.le⟩
theorem RO.forms (h : RO base b sb mb room k lv hv r ts tks held m f w W) : (∃ a c, lv = .slice a tks.length c) ∧ ∃ a c, hv = .slice a held.length c := by
  obtain ⟨col, o⟩ := h.o
  exact ⟨owns_slice o.l.1, owns_slice o.hd.1⟩
theorem RO.still (h : RO base b sb mb room k lv hv r ts tks held m f w W) {W' : World} (kk : Still W W') : RO base b sb mb room k lv hv r ts tks held m f w W' := by
  obtain ⟨col, o⟩ := h.o
  exact ⟨⟨col, o.still kk⟩, h.t, h.f, h.n, h.ht, h.hl, h.hm, below_still h.bel kk h.le, h.le⟩
theorem RO.ringI (h : RO base b sb mb room k lv hv r ts tks held m f w W) : RingI (.int .i64 0) b sb 68 70 r W := by
  obtain ⟨col, o⟩ := h.o
  exact o.ring
/-- the ring alone was looked at -/
theorem RO.look (h : RO base b sb mb room k lv hv r ts tks held m f w W) {W' : World} {S : Nat → Prop} (hr : RingI (.int .i64 0) b sb 68 70 r W') (kk : Kept S W W') (hS : ∀ x, S x → x = b ∨ x = sb) : RO base b sb mb room k lv hv r ts tks held m f w W' := by
  obtain ⟨col, o⟩ := h.o
  refine ⟨⟨col, o.ringOnly hr kk hS⟩, h.t, h.f, h.n, h.ht, h.hl, h.hm, below_step h.bel kk h.le (fun i hi hs => ?_), h.le⟩
  rcases hS i hs with rfl | rfl
  · have := o.low i (by rw [o.cb]; omega); omega
  · have := o.low i (by rw [o.cs]; omega); omega
theorem RO.popped (h : RO base b sb mb room k lv hv r ts tks held m f w W) {W' : World} {S : Nat → Prop} (hrd : r.ready = true) (hr : RingI (.int .i64 0) b sb 68 70 r.pop W') (kk : Kept S W W') (hS : ∀ x, S x → x = b ∨ x = sb) : RO base b sb mb room k lv hv r.pop ts tks held m f w W' := by
  obtain ⟨col, o⟩ := h.o
  refine ⟨⟨col, o.ringOnly hr kk hS⟩, h.t.pop hrd, h.f, h.n, h.ht, h.hl, h.hm, below_step h.bel kk h.le (fun i hi hs => ?_), h.le⟩
  rcases hS i hs with rfl | rfl
  · have := o.low i (by rw [o.cb]; omega); omega
  · have := o.low i (by rw [o.cs]; omega); omega
theorem RO.more (h : RO base b sb mb room k lv hv r ts tks held m f w W) {W1 W2 : World} {o : Obj} {lv' : Value} {n : Nat} (k1 : Still W W1) (hn : W.heap.size = n) (hb : Blk W1 n (tickC b ⟨0, 0, 0, false⟩) 73)
    (ha : Appended (W1.alloc o) W2 0 37 1 lv lv' (tks.length + 1) (ptrs tks ++ [.pointer (some ⟨n, 0, none⟩)])) : RO base b sb mb room (k + 1) lv' hv r (ts ++ [⟨0, 0, 0, false⟩]) (tks ++ [n]) held m f w W2 := by
  obtain ⟨col, ow⟩ := h.o
  rw [ow.tl] at ha
  obtain ⟨col2, rc, h2, kk⟩ := ow.more k1 _ hn hb ha
  have hl := h.hl
  exact ⟨⟨col2, h2⟩, h.t.begin, fun i => by rw [fillAt_begin]; exact h.f i, h.n, Nat.le_succ_of_le h.ht, by rw [List.length_append]; exact Nat.succ_le_succ h.hl, Nat.le_succ_of_le h.hm, below_step h.bel kk h.le (fun i hi e => by have := ow.low i (by omega); omega), h.le⟩
theorem RO.heldMore (h : RO base b sb mb room k lv hv r ts tks held m f w W) {r' : RS} {ts' : List TS} {tks' : List Nat} {Wx : World} (o' : ∃ col, OW col b sb base mb lv hv r' ts' tks' held m f Wx) (bel : Below base w Wx) {W' : World} {o : Obj} {hv' : Value} {j : Nat} (ht : TieO r' ts' (held ++ [j])) (hf : ∀ i : Nat, f i = fillAt ts' i) (hn : r'.N = room) (ht1 : r'.t ≤ k + 1) (hl : tks'.length ≤ k)
    (ha : Appended (Wx.alloc o) W' 0 3 1 hv hv' (held.length + 1) ((held.map fun k : Nat => Value.int .i64 (k : Int)) ++ [.int .i64 (j : Int)])) : RO base b sb mb room (k + 1) lv hv' r' ts' tks' (held ++ [j]) m f w W' := by
  obtain ⟨col, ow⟩ := o'
  obtain ⟨col2, rc, h2, kk⟩ := ow.heldMore ha
  exact ⟨⟨col2, h2⟩, ht, hf, hn, ht1, Nat.le_succ_of_le hl, Nat.le_succ_of_le h.hm, below_step bel kk h.le (fun i hi e => by have := ow.low i (by omega); omega), h.le⟩
theorem RO.ptr (h : RO base b sb mb room k lv hv r ts tks held m f w W) {i : Nat} (hi : i < tks.length) :
    ∃ g cap t q, lv = .slice (some ⟨g, 0, none⟩) tks.length cap ∧ W.cell? ⟨g, i, none⟩ = some (.pointer (some ⟨t, 0, none⟩)) ∧ g < W.heap.size ∧ g ≠ b ∧ g ≠ sb ∧ g ≠ mb ∧ g ≠ t ∧ t ≠ mb ∧ tks[i]? = some t ∧ ts[i]? = some q ∧ Blk W t (tickC b q) 73 ∧ t ≠ b ∧ t ≠ sb ∧ base ≤ t := by
  obtain ⟨col, o⟩ := h.o
  obtain ⟨g, cap, t, q, h1, h2, h3, h4, h5, h6, h7, h8, h9, _⟩ := o.ptr (i := i) (by rw [← o.tl]; exact hi)
  have hct := (o.ticks i t q h5 h6).2
  have hcb := o.cb
  have hcs := o.cs
  have hcm := o.cm
  exact ⟨g, cap, t, q, by rw [h1, o.tl], h2, h4, fun e => by rw [e] at h3; omega, fun e => by rw [e] at h3; omega, fun e => by rw [e] at h3; omega, fun e => by rw [e] at h3; omega, fun e => by rw [e] at hct; omega, h5, h6, h7, h8, h9, o.low t (by omega)⟩
theorem RO.num (h : RO base b sb mb room k lv hv r ts tks held m f w W) {q j : Nat} (hj : held[q]? = some j) :
    ∃ g cap, hv = .slice (some ⟨g, 0, none⟩) held.length cap ∧ W.cell? ⟨g, q, none⟩ = some (.int .i64 (j : Int)) ∧ g < W.heap.size ∧ g ≠ b ∧ g ≠ sb ∧ g ≠ mb ∧ ∀ (i t : Nat), tks[i]? = some t → g ≠ t := by
  obtain ⟨col, o⟩ := h.o
  obtain ⟨g, cap, h1, h2, h3, h4, _⟩ := o.num hj
  have hcb := o.cb
  have hcs := o.cs
  have hcm := o.cm
  refine ⟨g, cap, h1, h2, h4, fun e => by rw [e] at h3; omega, fun e => by rw [e] at h3; omega, fun e => by rw [e] at h3; omega, fun i t ht e => ?_⟩
  obtain ⟨q, hq⟩ : ∃ q, ts[i]? = some q := ⟨_, List.getElem?_eq_getElem (by rw [← o.tl]; exact (List.getElem?_eq_some_iff.1 ht).1)⟩
  have := (o.ticks i t q ht hq).2
  rw [← e] at this; omega
/-- the ring, and a ticket, went on -/
theorem RO.went (h : RO base b sb mb room k lv hv r ts tks held m f w W) {W' : World} {S : Nat → Prop} {r' : RS} {q t : Nat} {tk' : TS} (htk : tks[q]? = some t) (hr : RingI (.int .i64 0) b sb 68 70 r' W') (hb : Blk W' t (tickC b tk') 73) (kk : Kept S W W') (hS : ∀ x, S x → x = b ∨ x = sb ∨ x = t) :
    (∃ col, OW col b sb base mb lv hv r' (ts.set q tk') tks held m f W') ∧ Below base w W' := by
  obtain ⟨col, o⟩ := h.o
  obtain ⟨q0, hq0⟩ : ∃ q0, ts[q]? = some q0 := ⟨_, List.getElem?_eq_getElem (by rw [← o.tl]; exact (List.getElem?_eq_some_iff.1 htk).1)⟩
  have hct := (o.ticks q t q0 htk hq0).2
  refine ⟨⟨col, o.ringTo q t tk' htk hr hb kk hS⟩, below_step h.bel kk h.le (fun i hi hs => ?_)⟩
  rcases hS i hs with rfl | rfl | rfl
  · have := o.low i (by rw [o.cb]; omega); omega
  · have := o.low i (by rw [o.cs]; omega); omega
  · have := o.low i (by omega); omega
theorem RO.mapDone (h : RO base b sb mb room k lv hv r ts tks held m f w W) {r' : RS} {ts' : List TS} {W' W2 : World} {f' : Int → Bool} (o' : ∃ col, OW col b sb base mb lv hv r' ts' tks held m f W') (bel : Below base w W') (hm : MapB Try.prog 3 4 W2 mb (m + 1) f') (g : W'.grownBy W2 (some mb)) (ht : TieO r' ts' held) (hf : ∀ i : Nat, f' i = fillAt ts' i) (hn : r'.N = room) (h1 : r'.t = r.t) (hm9 : m + 1 ≤ k) : RO base b sb mb room k lv hv r' ts' tks held (m + 1) f' w W2 := by
  obtain ⟨col, o⟩ := o'
  obtain ⟨h2, kk⟩ := o.mapped hm g
  exact ⟨⟨col, h2⟩, ht, hf, hn, by rw [h1]; exact h.ht, h.hl, hm9, below_step bel kk h.le (fun i hi e => by have := o.low i (by omega); omega), h.le⟩
theorem RO.looks (h : RO base b sb mb room k lv hv r ts tks held m f w W) (q : Nat) (hq : q < 9223372036854775807) (W' : World) (e : W'.heap[mb]? = W.heap[mb]?) : (Instr.lookup 53 (.map (some mb)) (.int .i64 (q : Int)) false).run Try.prog W' = .ok (.bool (f q)) W' := by
  obtain ⟨col, o⟩ := h.o
  exact (o.mp.of_block e).look Try.underlying3 Try.underlying4 Try.underlying53 (by kernel_rfl) q (wf_nat hq)
/-- all but what the map tells -/
structure R2 (base b sb mb room : Nat) (lv hv : Value) (r : RS) (ts : List TS) (tks held : List Nat) (m : Nat) (f : Int → Bool) (w W : World) : Prop where
  o : ∃ col, OW col b sb base mb lv hv r ts tks held m f W
  t : TieO r ts held
  n : r.N = room
  bel : Below base w W
  le : base ≤ w.heap.size
theorem R2.ok (h : R2 base b sb mb room lv hv r ts tks held m f w W) : r.Ok := by obtain ⟨col, o⟩ := h.o; exact o.ring.ok
theorem R2.tl (h : R2 base b sb mb room lv hv r ts tks held m f w W) : tks.length = ts.length := by obtain ⟨col, o⟩ := h.o; exact o.tl
theorem R2.still (h : R2 base b sb mb room lv hv r ts tks held m f w W) {W' : World} (kk : Still W W') : R2 base b sb mb room lv hv r ts tks held m f w W' := by
  obtain ⟨col, o⟩ := h.o
  exact ⟨⟨col, o.still kk⟩, h.t, h.n, below_still h.bel kk h.le, h.le⟩
theorem R2.ringI (h : R2 base b sb mb room lv hv r ts tks held m f w W) : RingI (.int .i64 0) b sb 68 70 r W := by
  obtain ⟨col, o⟩ := h.o
  exact o.ring
theorem R2.look (h : R2 base b sb mb room lv hv r ts tks held m f w W) {W' : World} {S : Nat → Prop} (hr : RingI (.int .i64 0) b sb 68 70 r W') (kk : Kept S W W') (hS : ∀ x, S x → x = b ∨ x = sb) : R2 base b sb mb room lv hv r ts tks held m f w W' := by
  obtain ⟨col, o⟩ := h.o
  refine ⟨⟨col, o.ringOnly hr kk hS⟩, h.t, h.n, below_step h.bel kk h.le (fun i hi hs => ?_), h.le⟩
  rcases hS i hs with rfl | rfl
  · have := o.low i (by rw [o.cb]; omega); omega
  · have := o.low i (by rw [o.cs]; omega); omega
theorem R2.popped (h : R2 base b sb mb room lv hv r ts tks held m f w W) {W' : World} {S : Nat → Prop} (hrd : r.ready = true) (hr : RingI (.int .i64 0) b sb 68 70 r.pop W') (kk : Kept S W W') (hS : ∀ x, S x → x = b ∨ x = sb) : R2 base b sb mb room lv hv r.pop ts tks held m f w W' := by
  obtain ⟨col, o⟩ := h.o
  refine ⟨⟨col, o.ringOnly hr kk hS⟩, h.t.pop hrd, h.n, below_step h.bel kk h.le (fun i hi hs => ?_), h.le⟩
  rcases hS i hs with rfl | rfl
  · have := o.low i (by rw [o.cb]; omega); omega
  · have := o.low i (by rw [o.cs]; omega); omega
theorem R2.ptr (h : R2 base b sb mb room lv hv r ts tks held m f w W) {i : Nat} (hi : i < tks.length) :
    ∃ g cap t q, lv = .slice (some ⟨g, 0, none⟩) tks.length cap ∧ W.cell? ⟨g, i, none⟩ = some (.pointer (some ⟨t, 0, none⟩)) ∧ g < W.heap.size ∧ g ≠ b ∧ g ≠ sb ∧ g ≠ mb ∧ g ≠ t ∧ t ≠ mb ∧ tks[i]? = some t ∧ ts[i]? = some q ∧ Blk W t (tickC b q) 73 ∧ t ≠ b ∧ t ≠ sb ∧ base ≤ t := by
  obtain ⟨col, o⟩ := h.o
  obtain ⟨g, cap, t, q, h1, h2, h3, h4, h5, h6, h7, h8, h9, _⟩ := o.ptr (i := i) (by rw [← o.tl]; exact hi)
  have hct := (o.ticks i t q h5 h6).2
  have hcb := o.cb
  have hcs := o.cs
  have hcm := o.cm
  exact ⟨g, cap, t, q, by rw [h1, o.tl], h2, h4, fun e => by rw [e] at h3; omega, fun e => by rw [e] at h3; omega, fun e => by rw [e] at h3; omega, fun e => by rw [e] at h3; omega, fun e => by rw [e] at hct; omega, h5, h6, h7, h8, h9, o.low t (by omega)⟩
theorem R2.num (h : R2 base b sb mb room lv hv r ts tks held m f w W) {q j : Nat} (hj : held[q]? = some j) :
    ∃ g cap, hv = .slice (some ⟨g, 0, none⟩) held.length cap ∧ W.cell? ⟨g, q, none⟩ = some (.int .i64 (j : Int)) ∧ g < W.heap.size ∧ g ≠ b ∧ g ≠ sb ∧ g ≠ mb ∧ ∀ (i t : Nat), tks[i]? = some t → g ≠ t := by
  obtain ⟨col, o⟩ := h.o
  obtain ⟨g, cap, h1, h2, h3, h4, _⟩ := o.num hj
  have hcb := o.cb
  have hcs := o.cs
  have hcm := o.cm
  refine ⟨g, cap, h1, h2, h4, fun e => by rw [e] at h3; omega, fun e => by rw [e] at h3; omega, fun e => by rw [e] at h3; omega, fun i t ht e => ?_⟩
  obtain ⟨q, hq⟩ : ∃ q, ts[i]? = some q := ⟨_, List.getElem?_eq_getElem (by rw [← o.tl]; exact (List.getElem?_eq_some_iff.1 ht).1)⟩
  have := (o.ticks i t q ht hq).2
  rw [← e] at this; omega
/-- the ring, and a ticket, went on -/
theorem R2.went (h : R2 base b sb mb room lv hv r ts tks held m f w W) {W' : World} {S : Nat → Prop} {r' : RS} {q t : Nat} {tk' : TS} (htk : tks[q]? = some t) (hr : RingI (.int .i64 0) b sb 68 70 r' W') (hb : Blk W' t (tickC b tk') 73) (kk : Kept S W W') (hS : ∀ x, S x → x = b ∨ x = sb ∨ x = t) :
    (∃ col, OW col b sb base mb lv hv r' (ts.set q tk') tks held m f W') ∧ Below base w W' := by
  obtain ⟨col, o⟩ := h.o
  obtain ⟨q0, hq0⟩ : ∃ q0, ts[q]? = some q0 := ⟨_, List.getElem?_eq_getElem (by rw [← o.tl]; exact (List.getElem?_eq_some_iff.1 htk).1)⟩
  have hct := (o.ticks q t q0 htk hq0).2
  refine ⟨⟨col, o.ringTo q t tk' htk hr hb kk hS⟩, below_step h.bel kk h.le (fun i hi hs => ?_)⟩
  rcases hS i hs with rfl | rfl | rfl
  · have := o.low i (by rw [o.cb]; omega); omega
  · have := o.low i (by rw [o.cs]; omega); omega
  · have := o.low i (by omega); omega
theorem R2.looks (h : R2 base b sb mb room lv hv r ts tks held m f w W) (q : Nat) (hq : q < 9223372036854775807) (W' : World) (e : W'.heap[mb]? = W.heap[mb]?) : (Instr.lookup 53 (.map (some mb)) (.int .i64 (q : Int)) false).run Try.prog W' = .ok (.bool (f q)) W' := by
  obtain ⟨col, o⟩ := h.o
  exact (o.mp.of_block e).look Try.underlying3 Try.underlying4 Try.underlying53 (by kernel_rfl) q (wf_nat hq)
end

set_option maxHeartbeats 4000000 in
set_option maxRecDepth 100000 in
theorem ringOrder_walk (a0 : Int) (a1 : Option Addr) (len1 cap1 : Nat) (z1 : List Int) (w : World) (w0 : (Lit.int .u8 a0).wf = true) (w1 : IsRow .u8 w a1 len1 cap1 z1) :
    Calls Try.prog 4 #[.int .u8 a0, .slice a1 len1 cap1] w fun e w' => e = .returned (.bool true) ∧ Below w.heap.size w w' := by
  have hbd := bd_u8 w0
  have hle := w1.le
  unfold maxLen at hle
  have HR := Lib.hid w1
  clear w0 w1
  obtain ⟨i0, hi, hz0, hz1, hz2⟩ := info_parts infoPtr4
  obtain ⟨j0, hj, hj0, hj1, hj2⟩ := info_parts infoNum4
  by_cases h200 : 200 < len1
  · go_enter Try.func4, Try.ntmps4
    go_wp2_with fail
    refine (alive_any _).mono ?_
    rintro e w1 ⟨rfl, k1⟩
    go_wp2_with fail
    go_ret
    exact ⟨rfl, k1⟩
  obtain ⟨room, hroom⟩ : ∃ q : Nat, (q : Int) = 1 + a0 % 8 := ⟨(1 + a0 % 8).toNat, by have := Int.emod_nonneg a0 (show (8 : Int) ≠ 0 by omega); omega⟩
  have hr1 : 1 ≤ room := by have := Int.emod_nonneg a0 (show (8 : Int) ≠ 0 by omega); omega
  have hr8 : room ≤ 8 := by have := Int.emod_lt_of_pos a0 (show (0 : Int) < 8 by omega); omega
  have HRm := Lib.hid hroom
  clear hroom
  have hmm := @run_makeMap Try.prog
  go_enter Try.func4, Try.ntmps4
  go_wp2_with fail
  refine (alive_any _).mono ?_
  rintro e w1 ⟨rfl, k1⟩
  go_wp2_with fail
  rw [← HRm.out]
  refine (new_i room hr1 (by omega) w1).mono ?_
  rintro e w2 ⟨b, sb, rfl, hI, k2, hb, hsb⟩
  have hzw1 := k1.size
  have hlt := hI.lt
  obtain ⟨mb, hmb⟩ : ∃ mb, w2.heap.size = mb := ⟨_, rfl⟩
  have hst := (still_refl w2).alloc (.map #[] 0)
  have S3 : RO w.heap.size b sb mb room 0 (.slice none 0 0) (.slice none 0 0) ⟨room, 0, 0, fun _ => false, fun _ => .int .i64 0⟩ [] [] [] 0 (fun _ => false) w (w2.alloc (.map #[] 0)) := by
    refine ⟨⟨fun x => if x = b ∨ x = sb then 1 else if x = mb then 3 else 0, ⟨hI.still hst, by simp, by simp, Owns.nil _ _ _ _ _, by rw [← hmb]; exact MapB.new _ _ _ _, ?_, Owns.nil _ _ _ _ _, rfl, fun i t k h => by simp at h, fun x hx => ?_⟩⟩, TieO.start room, fun i => rfl, rfl, Nat.le_refl _, Nat.le_refl _, Nat.le_refl _, below_still (k1.trans (k2.mono k1.size)) hst (Nat.le_refl _), Nat.le_refl _⟩
    · rw [if_neg (by omega), if_pos rfl]
    · simp only [ne_eq, ite_eq_right_iff, Classical.not_imp] at hx
      split at hx
      · rename_i h; omega
      · split at hx
        · omega
        · exact absurd rfl hx
  have HS3 := Lib.hid S3
  clear S3 hst hlt hI k2 k1
  go_wp2_with fail
  generalize w2.alloc (.map #[] 0) = w3 at *
  clear hmm hmb
  go_loopw [8, 9, 10, 12] (fun lv hv gv i wr => ∃ (k : Nat) (r : RS) (ts : List TS) (tks held : List Nat) (m : Nat) (f : Int → Bool), k ≤ len1 ∧ i = .int .i64 k ∧ gv = .int .i64 r.h ∧ RO w.heap.size b sb mb room k lv hv r ts tks held m f w wr) (fun _ _ _ i _ => len1 - (intOf i).toNat)
  case atStart => exact ⟨0, _, _, _, _, _, _, Nat.zero_le _, rfl, rfl, HS3.out⟩
  case round =>
    obtain ⟨k, r, ts, tks, held, m, f, hk, rfl, rfl, hS⟩ := hrel
    have S := Lib.hid hS
    obtain ⟨⟨la, lc, rfl⟩, ha, hc, rfl⟩ := hS.forms
    have ok := hS.ok
    have hok1 := ok.ht
    have hok2 := ok.room
    rw [hS.n] at hok2
    have hokt := hS.ht
    have hhl1 : held.length ≤ r.t := by have := hS.t.hl; omega
    have hhl2 : r.t ≤ held.length := by have := hS.t.hl; omega
    have hlk2 := hS.hl
    have hbel := hS.bel
    clear hS ok
    by_cases hlk : k < len1
    · obtain ⟨ab, ao, rfl, hab, hac⟩ := HR.out.at_ (by omega)
      have c1 := (hbel.cell (p := ⟨ab, ao + k, none⟩) hab).trans (hac k hlk)
      have hcp : 0 ≤ z1.getD k 0 ∧ z1.getD k 0 < 256 := by
        have hzl1 : k < z1.length := by
          rcases HR.out with ⟨_, h, _⟩ | ⟨x, _, hl, _, hzl, _, hw⟩ <;> omega
        rw [List.getD_eq_getElem?_getD, List.getElem?_eq_getElem hzl1]
        exact bd_u8 (HR.out.wf _ (List.getElem_mem _))
      generalize z1.getD k 0 = p at *
      clear hac hbel
      go_upto_block 2 with fail
      go_cut [8, 9, 10] from 43 to 148 (fun lv hv gv wx => ∃ (r : RS) (ts : List TS) (tks held : List Nat) (m : Nat) (f : Int → Bool), gv = .int .i64 r.h ∧ RO w.heap.size b sb mb room (k + 1) lv hv r ts tks held m f w wx)
      case first =>
        by_cases h60 : p < 60
        · go_wp2_with fail
          refine (begin_i b wr).mono ?_
          rintro e w3 ⟨rfl, k3, t3⟩
          have hoa : (w3.alloc (.cells #[.pointer (some ⟨wr.heap.size, 0, none⟩)] 37)).ownsRow 0 37 1 (.slice la tks.length lc) tks.length (ptrs tks) := by
            obtain ⟨col, o⟩ := S.out.o
            exact ((o.l.still k3).still ((still_refl w3).alloc _)).1
          have K3 := Lib.hid k3
          have T3 := Lib.hid t3
          obtain ⟨n, hn⟩ : ∃ n, wr.heap.size = n := ⟨_, rfl⟩
          rw [hn] at hoa T3
          have HN := Lib.hid hn
          clear k3 t3
          rw [hn]
          clear hn
          go_wp2_with (first | (at_builtin; refine wpList_append _ rfl _ _ 34 rfl 0 37 i0 (.pointer none) 1 8 Try.underlying34 hi hz0 hz1 hz2 rfl (by decide) _ _ _ rfl (hoa) ⟨w3.heap.size, 0, none⟩ 1 1 [.pointer (some ⟨n, 0, none⟩)] rfl rfl (by intro j u hj; match j, hj with | 0, hj => simp at hj; subst hj; first | (simp [Addr.add]; done) | exact (Blk.newAt _ _ _ (by simp)).cell 0) (by intro u hu; simp at hu; subst hu; rfl) (by unfold maxLen; omega) (by omega) (by first | omega | (simp; omega) | simp) ?_) | fail)
          intro lv' w4 hap
          have S4 := Lib.hid (S.out.more K3.out HN.out T3.out hap)
          clear hap hoa
          go_wp2_with fail
          go_meet
          case rel => exact ⟨_, _, _, _, _, _, rfl, S4.out⟩
        · by_cases h90 : p < 90
          · have hp := pop_i wr S.out.ringI S.out.t.vals
            cases hrd : r.ready
            · simp only [hrd, Bool.false_eq_true, if_false] at hp
              have HP := Lib.hid hp
              clear hp hrd
              go_wp2_with fail
              refine HP.out.mono ?_
              rintro e w3 ⟨rfl, hr3, k3⟩
              have S3 := Lib.hid (S.out.look hr3 k3 (fun x h => h))
              clear hr3 k3
              go_wp2_with fail
              go_meet
              case rel => exact ⟨_, _, _, _, _, _, rfl, S3.out.next⟩
            · have hlt := S.out.ok.ready_lt hrd
              obtain ⟨j, hj⟩ : ∃ j, held[r.h]? = some j := ⟨_, List.getElem?_eq_getElem (by omega)⟩
              obtain ⟨tk, g1, g2, g3, g4, g5⟩ := S.out.t.at_ r.h j hj
              have hfl : tk.filled = true := by rw [← g4]; exact hrd
              rw [hrd, if_pos rfl, if_pos rfl, if_pos rfl, g5 hfl] at hp
              have hfj : f j = true := by rw [S.out.f j, fillAt_of g1]; exact hfl
              have hjs : j < 1000000 := by have := (List.getElem?_eq_some_iff.1 g1).1; have := S.out.tl; omega
              have HP := Lib.hid hp
              have HRD := Lib.hid hrd
              have HJ := Lib.hid hj
              have HFJ := Lib.hid hfj
              clear hp hrd g1 g2 g3 g4 g5 hfl hj hfj
              go_wp2_with fail
              refine HP.out.mono ?_
              rintro e w3 ⟨rfl, hr3, k3⟩
              have S3 := Lib.hid (S.out.popped HRD.out hr3 k3 (fun x h => h))
              obtain ⟨gn, cn, e9, hc9, _⟩ := S3.out.num HJ.out
              simp only [Value.slice.injEq, true_and] at e9
              obtain ⟨rfl, rfl⟩ := e9
              have hlk3 := S3.out.looks j (by omega) w3 rfl
              rw [HFJ.out] at hlk3
              have hrl : r.h < held.length := by omega
              clear hr3 k3
              go_wp2_with fail
              go_meet
              case rel => exact ⟨_, _, _, _, _, _, by go_num, S3.out.next⟩
          · by_cases htp : 0 < tks.length
            case neg =>
              go_wp2_with fail
              go_meet
              case rel => exact ⟨_, _, _, _, _, _, rfl, S.out.next⟩
            case pos =>
              have hpe : ((tks.length : Int) == 0) = false := by rw [beq_eq_false_iff_ne]; omega
              obtain ⟨q, hq⟩ : ∃ q : Nat, (q : Int) = p % (tks.length : Int) := ⟨(p % (tks.length : Int)).toNat, by have := Int.emod_nonneg p (show (tks.length : Int) ≠ 0 by omega); omega⟩
              have hqk : q < tks.length := by have := Int.emod_lt_of_pos p (show (0 : Int) < tks.length by omega); omega
              obtain ⟨g, cap, t, tk, e9, hgc, hgl, hgb, hgs, hgm, hgt, htm, htq, htk, hbt, htb, hts, hbt2⟩ := S.out.ptr hqk
              simp only [Value.slice.injEq, true_and] at e9
              obtain ⟨rfl, rfl⟩ := e9
              have HQ := Lib.hid hq
              have HB := Lib.hid hbt
              have HTQ := Lib.hid htq
              have HTK := Lib.hid htk
              clear hq hbt htq htk
              go_wp2_with fail
              rw [← HQ.out]
              refine (len_i wr S.out.ringI).mono ?_
              rintro e w3 ⟨rfl, hr3, k3⟩
              have S3 := Lib.hid (S.out.look hr3 k3 (fun x h => .inl h))
              have hgc3 : w3.cell? ⟨g, q, none⟩ = some (.pointer (some ⟨t, 0, none⟩)) := (World.cell?_of_block (a := ⟨g, q, none⟩) (k3.block g hgl hgb)).trans hgc
              have hb3 := HB.out.kept k3 htb
              have HB3 := Lib.hid hb3
              have hz3 := k3.size
              clear hr3 k3 hgc hb3
              go_wp2_with fail
              obtain ⟨u1, u2, u3, u4', u5⟩ := S3.out.t.step S3.out.ok HTK.out
              refine (stepped_i w3 S3.out.ringI HB3.out htb hts (S3.out.t.tick HTK.out).ok (by omega)).mono ?_
              rintro e w5 ⟨rfl, hr5, hb5, k5⟩
              have hW5 := S3.out.went HTQ.out hr5 hb5 k5 (fun x h => h)
              have hnf : (stepK r tk).2.filled = tk.filled := u3
              generalize hst : stepK r tk = st at *
              obtain ⟨r', tk'⟩ := st
              dsimp only at u1 u2 u3 u4' u5 hr5 hb5 hW5 hnf
              have hff : ∀ i : Nat, f i = fillAt (ts.set q tk') i := fun i => by
                rw [fillAt_set HTK.out, S.out.f i]
                by_cases e : i = q
                · rw [if_pos e, e, fillAt_of HTK.out, u3]
                · rw [if_neg e]
              have W5 := Lib.hid hW5
              have U5 := Lib.hid u5
              have FF := Lib.hid hff
              have hgc5 : w5.cell? ⟨g, q, none⟩ = some (.pointer (some ⟨t, 0, none⟩)) := (World.cell?_of_block (a := ⟨g, q, none⟩) (k5.block g (by omega) (by rintro (h | h | h) <;> omega))).trans hgc3
              have HB5 := Lib.hid hb5
              have HST := Lib.hid hst
              have hrt : r'.t = r.t ∨ r'.t = r.t + 1 := by
                rcases u5 with ⟨h, _⟩ | ⟨h, _⟩
                · exact .inl h
                · exact .inr h
              have HRI := Lib.hid hr5
              have hrh : r'.h ≤ r.h ∧ r.h ≤ r'.h := by omega
              have HN' := Lib.hid (u1.trans S.out.n)
              have HH' := Lib.hid u2
              clear hr5 k5 hW5 u1 u2 u3 u5 hff hgc3 hb5 hst
              go_wp2_with fail
              refine (len_i w5 HRI.out).mono ?_
              rintro e w6 ⟨rfl, hr6, k6⟩
              have W6 := Lib.hid (show (∃ col, OW col b sb w.heap.size mb (.slice (some ⟨g, 0, none⟩) tks.length lc) (.slice ha held.length hc) r' (ts.set q tk') tks held m f w6) ∧ Below w.heap.size w w6 by
                obtain ⟨⟨col, o⟩, bl⟩ := W5.out
                exact ⟨⟨col, o.ringOnly hr6 k6 (fun x h => .inl h)⟩, below_step bl k6 (Nat.le_refl _) (fun i hi e => by have := o.low i (by rw [show i = b from e, o.cb]; omega); omega)⟩)
              clear hr6 k6 W5 hgc5 HB5 HRI
              go_upto_if 111 with fail
              go_cut [9] from 43 to 148 (fun hv wx => ∃ held' : List Nat, RO w.heap.size b sb mb room (k + 1) (.slice (some ⟨g, 0, none⟩) tks.length lc) hv r' (ts.set q tk') tks held' m f w wx)
              case first =>
                rcases U5.out with ⟨h1, hT⟩ | ⟨h1, hs2, hT⟩
                · have hcm : ((r'.t : Int) - r'.h == (r.t : Int) - r.h + 1) = false := by rw [beq_eq_false_iff_ne]; omega
                  have hr1t : r'.t ≤ k + 1 := by omega
                  have HT := Lib.hid hT
                  clear h1 hT
                  go_wp2_with fail
                  go_meet
                  case rel => exact ⟨held, ⟨W6.out.1, HT.out, FF.out, HN'.out, hr1t, by omega, by have := S.out.hm; omega, W6.out.2, Nat.le_refl _⟩⟩
                · have hcm : ((r'.t : Int) - r'.h == (r.t : Int) - r.h + 1) = true := by rw [beq_iff_eq]; omega
                  have hsb : ((tk'.status : Int) != 2) = false := by rw [hs2]; rfl
                  have hr1t : r'.t ≤ k + 1 := by omega
                  have HT := Lib.hid hT
                  have hoa : (w6.alloc (.cells #[.int .i64 (q : Int)] 3)).ownsRow 0 3 1 (.slice ha held.length hc) held.length (held.map fun k : Nat => Value.int .i64 (k : Int)) := by
                    obtain ⟨col, o⟩ := W6.out.1
                    exact (o.hd.still ((still_refl w6).alloc _)).1
                  clear h1 hT hs2
                  go_wp2_with (first | (at_builtin; refine wpList_append _ rfl _ _ 30 rfl 0 3 j0 (.int .i64 0) 1 8 Try.underlying30 hj hj0 hj1 hj2 rfl (by decide) _ _ _ rfl (hoa) ⟨w6.heap.size, 0, none⟩ 1 1 [.int .i64 (q : Int)] rfl rfl (by intro j u hj; match j, hj with | 0, hj => simp at hj; subst hj; first | (simp [Addr.add]; done) | exact (Blk.newAt _ _ _ (by simp)).cell 0) (by intro u hu; simp at hu; subst hu; rfl) (by unfold maxLen; omega) (by omega) (by first | omega | (simp; omega) | simp) ?_) | fail)
                  intro hv' w7 hap
                  have S7 := Lib.hid (S3.out.heldMore W6.out.1 W6.out.2 HT.out FF.out HN'.out hr1t (by omega) hap)
                  clear hap hoa
                  go_wp2_with fail
                  go_meet
                  case rel => exact ⟨_, S7.out⟩
              case rest =>
                obtain ⟨held8, hS8⟩ := hcut
                have S8 := Lib.hid hS8
                have hmk := S.out.hm
                have hk8 : (ts.set q tk')[q]? = some tk' := List.getElem?_set_self (List.getElem?_eq_some_iff.1 HTK.out).1
                obtain ⟨g8, cap8, t8, tk8, e9, hgc, hgl8, hgb8, hgs8, hgm8, hgt8, htm8, htq8, htk8, hbt8, htb8, hts8, hbt28⟩ := hS8.ptr hqk
                rw [hk8] at htk8
                simp only [Value.slice.injEq, true_and, Option.some.injEq, Addr.mk.injEq, and_true] at e9 htk8
                obtain ⟨rfl, rfl⟩ := e9
                obtain rfl := htk8
                have hti := hS8.t.tick hk8
                have HB8 := Lib.hid hbt8
                have HQ8 := Lib.hid htq8
                have HK8 := Lib.hid hk8
                have HTI := Lib.hid hti
                clear hS8 hbt8 htq8 hk8 hti U5 W6
                by_cases hs2 : tk'.status = 2
                · have hsb : ((tk'.status : Int) == 2) = true := by rw [hs2]; rfl
                  by_cases h3 : p % 3 = 0
                  · have h3b : (p % 3 == 0) = true := by rw [beq_iff_eq]; exact h3
                    have HS2 := Lib.hid hs2
                    clear hs2 h3
                    cases hfil : tk'.filled
                    · have HFI := Lib.hid hfil
                      clear hfil
                      go_wp2_with fail
                      refine (fill_i (q : Int) wc S8.out.ringI HB8.out htb8 hts8 HS2.out HFI.out (HTI.out.mine HS2.out HFI.out).1 (HTI.out.held HS2.out)).mono ?_
                      rintro e w9 ⟨rfl, hr9, hb9, k9⟩
                      have hW9 := S8.out.went HQ8.out hr9 hb9 k9 (fun x h => .inr h)
                      have W9 := Lib.hid hW9
                      obtain ⟨col9, o9⟩ := hW9.1
                      obtain ⟨D, ho, hD⟩ := o9.mp
                      have HD := Lib.hid hD
                      have hm8 : m ≤ 200 := by omega
                      have hqw : (Lit.int .i64 (q : Int)).wf = true := wf_nat (by omega)
                      clear hr9 hb9 k9 hW9 o9 hD
                      go_wp2_with (first | (at_mapUpdate; go_loud (refine wpList_mapUpdate_own _ rfl _ _ _ 53 rfl 3 4 (Go.Maps.int_keyed Try.underlying3) Try.underlying53 _ mb m _ rfl ho (by unfold maxLen; omega) _ _ _ rfl rfl (Go.Maps.keyOf_int_mk Try.underlying3 hqw) _ [] (Go.plainElem_bool Try.underlying4 true) ?_)) | fail)
                      intro w10 ho10 g10
                      have S10 := Lib.hid (S8.out.mapDone W9.out.1 W9.out.2 (MapB.put Try.underlying3 ho HD.out q hqw true ho10) g10 (S8.out.t.fill HK8.out HS2.out HFI.out) (fun i => by
                        rw [fillAt_set HK8.out]
                        by_cases e : i = q
                        · rw [if_pos e, if_pos (by omega)]
                        · rw [if_neg e, if_neg (by omega)]; exact S8.out.f i) S8.out.n rfl (by omega))
                      clear ho10 g10
                      go_wp2_with fail
                      go_meet
                      case rel => exact ⟨_, _, _, _, _, _, by rw [← HH'.out]; rfl, S10.out⟩
                    · have HFI := Lib.hid hfil
                      clear hfil
                      go_wp2_with fail
                      refine (fill_no_i (q : Int) wc HB8.out (.inr HFI.out)).mono ?_
                      rintro e w9 ⟨rfl, rfl⟩
                      go_wp2_with fail
                      go_meet
                      case rel => exact ⟨_, _, _, _, _, _, by rw [HH'.out], S8.out⟩
                  · have h3b : (p % 3 == 0) = false := by rw [beq_eq_false_iff_ne]; exact h3
                    clear hs2
                    go_wp2_with fail
                    go_meet
                    case rel => exact ⟨_, _, _, _, _, _, by rw [HH'.out], S8.out⟩
                · have hsb : ((tk'.status : Int) == 2) = false := by rw [beq_eq_false_iff_ne]; omega
                  go_wp2_with fail
                  go_meet
                  case rel => exact ⟨_, _, _, _, _, _, by rw [HH'.out], S8.out⟩
      case rest =>
        obtain ⟨r2, ts2, tks2, held2, m2, f2, rfl, hS9⟩ := hcut
        have S9 := Lib.hid hS9
        obtain ⟨_, hb2, hc2, rfl⟩ := hS9.forms
        have g1 := hS9.ok.ht
        have g2 := hS9.ok.room
        rw [hS9.n] at g2
        have g3 : held2.length ≤ r2.t := by have := hS9.t.hl; omega
        have g4 : r2.t ≤ held2.length := by have := hS9.t.hl; omega
        clear hS9 S
        go_wp2_with fail
        refine (len_i wc S9.out.ringI).mono ?_
        rintro e w10 ⟨rfl, hr10, k10⟩
        have S10 := Lib.hid (S9.out.look hr10 k10 (fun x h => .inl h))
        clear hr10 k10
        go_wp2_with fail
        refine (len_i w10 S10.out.ringI).mono ?_
        rintro e w11 ⟨rfl, hr11, k11⟩
        have S11 := Lib.hid (S10.out.look hr11 k11 (fun x h => .inl h))
        have hne : ((r2.t : Int) - r2.h != (held2.length : Int) - r2.h) = false := by rw [bne_eq_false_iff_eq]; omega
        clear hr11 k11
        go_wp2_with fail
        go_roundw
        case rel => exact ⟨k + 1, _, _, _, _, _, _, by omega, by go_num, rfl, S11.out⟩
        case measure => simp [intOf]; omega
    · obtain rfl : k = len1 := by omega
      have B2 := Lib.hid (show R2 w.heap.size b sb mb room (.slice la tks.length lc) (.slice ha held.length hc) r ts tks held m f w wr from ⟨S.out.o, S.out.t, S.out.n, S.out.bel, S.out.le⟩)
      have FF := Lib.hid S.out.f
      go_wp2_with fail
      go_loopw [19] (fun i wr => ∃ (q : Nat) (r2 : RS) (ts2 : List TS), q ≤ held.length ∧ i = .int .i64 q ∧ R2 w.heap.size b sb mb room (.slice la tks.length lc) (.slice ha held.length hc) r2 ts2 tks held m f w wr ∧ r2.h = r.h ∧ r2.t = r.t ∧ (∀ p, p < q → r2.pub p = true) ∧ (∀ p j : Nat, q ≤ p → held[p]? = some j → f j = fillAt ts2 j)) (fun i _ => held.length - (intOf i).toNat)
      case atStart => exact ⟨0, r, ts, Nat.zero_le _, rfl, B2.out, rfl, rfl, fun p hp => absurd hp (by omega), fun p j _ _ => FF.out j⟩
      case round =>
        obtain ⟨q, r2, ts2, hq, rfl, hS2, hh2, ht2, hp2, hf2⟩ := hrel
        have S2 := Lib.hid hS2
        have HH := Lib.hid (show r2.h = r.h ∧ r2.t = r.t from ⟨hh2, ht2⟩)
        have HP := Lib.hid hp2
        have HF := Lib.hid hf2
        clear hS2 hh2 ht2 hp2 hf2
        by_cases hql : q < held.length
        · obtain ⟨j, hj⟩ : ∃ j, held[q]? = some j := ⟨_, List.getElem?_eq_getElem hql⟩
          obtain ⟨tk, g1, g2, g3, g4, g5⟩ := S2.out.t.at_ q j hj
          have hjt : j < tks.length := by rw [S2.out.tl]; exact (List.getElem?_eq_some_iff.1 g1).1
          obtain ⟨gn, cn, e9, hcn, hgn, hgnb, hgns, hgnm, hgnt⟩ := S2.out.num hj
          simp only [Value.slice.injEq, true_and] at e9
          obtain ⟨rfl, rfl⟩ := e9
          obtain ⟨g, cap, t, tk9, e9, hgc, hgl, hgb, hgs, hgm, hgt, htm, htq, htk, hbt, htb, hts, hbt2⟩ := S2.out.ptr hjt
          rw [g1] at htk
          simp only [Value.slice.injEq, true_and, Option.some.injEq] at e9 htk
          obtain ⟨rfl, rfl⟩ := e9
          obtain rfl := htk
          have hfj := HF.out q j (Nat.le_refl _) hj
          rw [fillAt_of g1] at hfj
          have CN := Lib.hid (cells_of_cell hcn)
          have CG := Lib.hid (cells_of_cell hgc)
          have ML := Lib.hid (show ∃ es k, wr.heap[mb]? = some (.map es k) by obtain ⟨col, o⟩ := S2.out.o; exact o.mp.block)
          have hgtn := hgnt j t htq
          have HB := Lib.hid hbt
          have HG := Lib.hid (show ts2[j]? = some tk ∧ tk.status = 2 ∧ tk.pos = q ∧ r2.pub q = tk.filled ∧ held[q]? = some j ∧ tks[j]? = some t ∧ f j = tk.filled from ⟨g1, g2, g3, g4, hj, htq, hfj⟩)
          have hjs : j < 1000000 := by omega
          have hlk := Lib.hid (S2.out.looks j (by omega))
          clear g1 g2 g3 g4 g5 hj htq hbt hfj hgnt
          go_upto_region 40 with fail
          refine wp_region_text ([4], [9, 37]) [gn, g, mb] (by kernel_rfl) (by kernel_rfl) (cellsB_cons CN.out (cellsB_cons CG.out (cellsB_map ML.out cellsB_nil))) (by simp [segs, isEff, isLoad, askOps, asks, ptrEq, eqOrNe, isNil]; rfl) ?_
          have SD := Lib.hid (S2.out.still ((still_refl wr).drewN 1))
          have hmsb : mb ≠ sb := by obtain ⟨col, o⟩ := S2.out.o; intro e; have := o.cs; have := o.cm; rw [e] at this; omega
          have hml : mb < wr.heap.size := by obtain ⟨col, o⟩ := S2.out.o; exact o.mp.lt
          refine segs_go stay_drew (by simp [isLoad]) ?_
          go_wp2_with fail
          refine segs_load stay_drew (fun _ => (by exact ⟨gn, _, rfl, by simp⟩)) ?_
          go_wp2_with fail
          refine segs_load stay_drew (fun _ => (by exact ⟨g, _, rfl, by simp⟩)) ?_
          go_wp2_with fail
          refine segs_load stay_drew (fun _ => (by exact ⟨gn, _, rfl, by simp⟩)) ?_
          go_wp2_with fail
          cases hfil : tk.filled
          · have hti := SD.out.t.tick HG.out.1
            have hmine := hti.mine HG.out.2.1 hfil
            refine (fill_i (j : Int) _ SD.out.ringI (HB.out.still ((still_refl wr).drewN 1)) htb hts HG.out.2.1 hfil hmine.1 (hti.held HG.out.2.1)).mono ?_
            rintro e w5 ⟨rfl, hr5, hb5, k5⟩
            have hW5 := SD.out.went HG.out.2.2.2.2.2.1 hr5 hb5 k5 (fun x h => .inr h)
            have S5 := Lib.hid (show R2 w.heap.size b sb mb room (.slice (some ⟨g, 0, none⟩) tks.length lc) (.slice (some ⟨gn, 0, none⟩) held.length hc) (r2.publish tk.pos (.int .i64 (j : Int))) (ts2.set j { tk with filled := true }) tks held m f w w5 from ⟨hW5.1, SD.out.t.fill HG.out.1 HG.out.2.1 hfil, SD.out.n, hW5.2, SD.out.le⟩)
            have hs5 : StayB [gn, g, mb] wr w5 := StayB.kept (w := wr.drew) stay_drew k5 (fun x hx => by
              simp only [List.mem_cons, List.not_mem_nil, or_false] at hx
              rcases hx with rfl | rfl | rfl
              · exact ⟨hgn, by rintro (h9 | h9) <;> omega⟩
              · exact ⟨hgl, by rintro (h9 | h9) <;> omega⟩
              · exact ⟨hml, by rintro (h9 | h9) <;> omega⟩)
            have hcn5 : w5.cell? ⟨gn, q, none⟩ = some (.int .i64 (j : Int)) := (World.cell?_of_block (a := ⟨gn, q, none⟩) (hs5 gn (by simp))).trans hcn
            have hlk5 := hlk.out w5 (hs5 mb (by simp))
            rw [HG.out.2.2.2.2.2.2, hfil] at hlk5
            have HFI := Lib.hid hfil
            have HS5 := Lib.hid hs5
            clear hr5 hb5 k5 hW5 hti hmine hfil
            go_wp2_with fail
            refine segs_go HS5.out (by simp [isLoad]) ?_
            go_wp2_with fail
            refine segs_load HS5.out (fun _ => (by exact ⟨gn, _, rfl, by simp⟩)) ?_
            go_wp2_with fail
            refine segs_load HS5.out (fun _ => (by exact ⟨_, fun w' h9 => hlk.out w' (h9 mb (by simp))⟩)) ?_
            go_wp2_with fail
            refine segs_nil ?_
            go_wp2_with fail
            go_roundw
            case rel =>
              refine ⟨q + 1, _, _, by omega, by go_num, S5.out, HH.out.1, HH.out.2, fun p hp => ?_, fun p j' hp hj' => ?_⟩
              · show (if p = tk.pos then true else r2.pub p) = true
                by_cases e : p = tk.pos
                · rw [if_pos e]
                · rw [if_neg e]; exact HP.out p (by have := HG.out.2.2.1; omega)
              · rw [fillAt_set HG.out.1, if_neg (fun e => by
                  have := S2.out.t.apart (p := p) (q := q) hj' (by rw [e]; exact HG.out.2.2.2.2.1)
                  omega)]
                exact HF.out p j' (by omega) hj'
            case measure => simp [intOf]; omega
          · refine (fill_no_i (j : Int) _ (HB.out.still ((still_refl wr).drewN 1)) (.inr hfil)).mono ?_
            rintro e w5 ⟨rfl, rfl⟩
            have hlk5 := hlk.out wr.drew rfl
            have hlk6 := hlk.out (wr.drewN 1) rfl
            rw [HG.out.2.2.2.2.2.2, hfil] at hlk5 hlk6
            have HFI := Lib.hid hfil
            clear hfil
            go_wp2_with fail
            refine segs_go stay_drew (by simp [isLoad]) ?_
            go_wp2_with fail
            refine segs_load stay_drew (fun _ => (by exact ⟨gn, _, rfl, by simp⟩)) ?_
            go_wp2_with fail
            refine segs_load stay_drew (fun _ => (by exact ⟨_, fun w' h9 => hlk.out w' (h9 mb (by simp))⟩)) ?_
            go_wp2_with fail
            refine segs_nil ?_
            go_wp2_with fail
            go_roundw
            case rel =>
              refine ⟨q + 1, _, _, by omega, by go_num, SD.out, HH.out.1, HH.out.2, fun p hp => ?_, fun p j' hp hj' => HF.out p j' (by omega) hj'⟩
              by_cases e : p = q
              · rw [e, HG.out.2.2.2.1]; exact HFI.out
              · exact HP.out p (by omega)
            case measure => simp [intOf]; omega
        · obtain rfl : q = held.length := by omega
          have hht : r2.h = r.h := HH.out.1
          have HA := Lib.hid (show ∀ p, p < held.length → r2.pub p = true from HP.out)
          have HHT := Lib.hid hht
          have HTT := Lib.hid HH.out.2
          clear hht
          go_wp2_with fail
          go_loopw [10] (fun gv wr => ∃ r3 : RS, r3.h ≤ held.length ∧ r3.t ≤ held.length ∧ held.length ≤ r3.t ∧ gv = .int .i64 r3.h ∧ R2 w.heap.size b sb mb room (.slice la tks.length lc) (.slice ha held.length hc) r3 ts2 tks held m f w wr ∧ (∀ p, p < held.length → r3.pub p = true)) (fun gv _ => held.length - (intOf gv).toNat)
          case atStart => exact ⟨r2, by rw [HHT.out]; omega, by rw [HTT.out]; omega, by rw [HTT.out]; omega, by rw [HHT.out], S2.out, HA.out⟩
          case round =>
            obtain ⟨r3, h31, h32, h33, rfl, hS3, hA3⟩ := hrel
            have S3 := Lib.hid hS3
            have A3 := Lib.hid hA3
            clear hS3 hA3
            by_cases hlt : r3.h < held.length
            · have hrd : r3.ready = true := A3.out _ hlt
              obtain ⟨j, hj⟩ : ∃ j, held[r3.h]? = some j := ⟨_, List.getElem?_eq_getElem hlt⟩
              obtain ⟨tk, g1, g2, g3, g4, g5⟩ := S3.out.t.at_ r3.h j hj
              have hfl : tk.filled = true := by rw [← g4]; exact hrd
              have hp := pop_i wr S3.out.ringI S3.out.t.vals
              rw [hrd, if_pos rfl, if_pos rfl, if_pos rfl, g5 hfl] at hp
              have HPP := Lib.hid hp
              have HRD := Lib.hid hrd
              have HJ := Lib.hid hj
              clear hp hrd g1 g2 g3 g4 g5 hfl hj
              go_wp2_with fail
              refine HPP.out.mono ?_
              rintro e w5 ⟨rfl, hr5, k5⟩
              have S5 := Lib.hid (S3.out.popped HRD.out hr5 k5 (fun x h => h))
              obtain ⟨gn, cn, e9, hc9, _⟩ := S5.out.num HJ.out
              simp only [Value.slice.injEq, true_and] at e9
              obtain ⟨rfl, rfl⟩ := e9
              clear hr5 k5
              go_wp2_with fail
              go_roundw
              case rel => exact ⟨r3.pop, by show r3.h + 1 ≤ _; omega, h32, h33, by go_num, S5.out, A3.out⟩
              case measure => simp [intOf]; omega
            · have hre : (r3.t : Int) - r3.h = 0 := by omega
              have hrd : r3.ready = false := by
                have := S3.out.ok.pubs r3.h (by omega)
                exact this
              go_wp2_with fail
              refine (len_i wr S3.out.ringI).mono ?_
              rintro e w5 ⟨rfl, hr5, k5⟩
              rw [hre]
              have S5 := Lib.hid (S3.out.look hr5 k5 (fun x h => .inl h))
              clear hr5 k5
              go_wp2_with fail
              refine (ready_i w5 S5.out.ringI).mono ?_
              rintro e w6 ⟨rfl, hr6, k6⟩
              rw [hrd]
              have S6 := Lib.hid (S5.out.look hr6 k6 (fun x h => .inr h))
              clear hr6 k6
              go_wp2_with fail
              go_ret
              exact ⟨rfl, S6.out.bel⟩
end Go.Proofs.Ytegkijlgbkedmaa
