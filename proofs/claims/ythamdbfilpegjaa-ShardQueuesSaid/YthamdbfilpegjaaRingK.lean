/-
  What stands here: what the blocks of a ring of tasks hold, and what its functions do with them. Under no condition but that they hold it.
-/
import Derived.Test.YthamdbfilpegjaaRing
import Derived.Test.YthamdbfilpegjaaWheelIns
namespace Go.Proofs.Ythamdbfilpegjaa
set_option linter.unusedVariables false
set_option linter.unusedSimpArgs false
open Go.RowKit Go.Proofs
/-- no task -/
abbrev zT : Value := (⟨0, 0, 0, 0, 0⟩ : TaskV).v
/-- what the slot j of nine cells holds -/
def SlotK (c : Array Value) (j : Nat) (s : Int) (v : Value) : Prop :=
  c[j * 9]? = some (.int .i64 s) ∧ (∃ x, c[j * 9 + 1]? = some (.int .i64 x)) ∧ (∃ x, c[j * 9 + 2]? = some (.int .i64 x)) ∧ (∃ x, c[j * 9 + 3]? = some (.int .i64 x)) ∧ ∃ t : TaskV, v = t.v ∧ ∀ i, i < 5 → c[j * 9 + 4 + i]? = some (vcell_t t i)
theorem vcells {c : Array Value} {o : Nat} {t : TaskV} (h : ∀ i, i < 5 → c[o + i]? = some (vcell_t t i)) : c[o]? = some (.int .u64 t.id) ∧ c[o + 1]? = some (.int .i64 t.slot) ∧ c[o + 2]? = some (.int .u64 t.gen) ∧ c[o + 3]? = some (.int .u64 t.dl) ∧ c[o + 4]? = some (.int .u64 t.per) :=
  ⟨h 0 (by omega), h 1 (by omega), h 2 (by omega), h 3 (by omega), h 4 (by omega)⟩
/-- five cells are set -/
def set5 (c : Array Value) (o : Nat) (t : TaskV) : Array Value := ((((c.setIfInBounds o (.int .u64 t.id)).setIfInBounds (o + 1) (.int .i64 t.slot)).setIfInBounds (o + 2) (.int .u64 t.gen)).setIfInBounds (o + 3) (.int .u64 t.dl)).setIfInBounds (o + 4) (.int .u64 t.per)
def put5 (w : World) (b o : Nat) (t : TaskV) : World := ((((w.setCell ⟨b, o, none⟩ (.int .u64 t.id)).setCell ⟨b, o + 1, none⟩ (.int .i64 t.slot)).setCell ⟨b, o + 2, none⟩ (.int .u64 t.gen)).setCell ⟨b, o + 3, none⟩ (.int .u64 t.dl)).setCell ⟨b, o + 4, none⟩ (.int .u64 t.per)
theorem Blk.put5 {w : World} {b o : Nat} {c : Array Value} {T : TypeId} (h : Blk w b c T) (t : TaskV) : Blk (put5 w b o t) b (set5 c o t) T := ((((h.set _ _).set _ _).set _ _).set _ _).set _ _
theorem only_put5 (w : World) (b o : Nat) (t : TaskV) : Only b w (put5 w b o t) := (((((only_refl b w).put _ _).put _ _).put _ _).put _ _).put _ _
theorem set5_size (c : Array Value) (o : Nat) (t : TaskV) : (set5 c o t).size = c.size := by simp [set5]
theorem set5_ne {c : Array Value} {o i : Nat} {t : TaskV} (h : i < o ∨ o + 5 ≤ i) : (set5 c o t)[i]? = c[i]? := by
  unfold set5
  rw [Array.getElem?_setIfInBounds_ne (by omega), Array.getElem?_setIfInBounds_ne (by omega), Array.getElem?_setIfInBounds_ne (by omega), Array.getElem?_setIfInBounds_ne (by omega), Array.getElem?_setIfInBounds_ne (by omega)]
theorem set5_at {c : Array Value} {o : Nat} {t : TaskV} (h : o + 4 < c.size) (i : Nat) (hi : i < 5) : (set5 c o t)[o + i]? = some (vcell_t t i) := by
  unfold set5
  match i, hi with
  | 0, _ =>
    show (_ : Array Value)[o]? = _
    rw [Array.getElem?_setIfInBounds_ne (by omega), Array.getElem?_setIfInBounds_ne (by omega), Array.getElem?_setIfInBounds_ne (by omega), Array.getElem?_setIfInBounds_ne (by omega), Array.getElem?_setIfInBounds_self_of_lt (by omega)]
    rfl
  | 1, _ => rw [Array.getElem?_setIfInBounds_ne (by omega), Array.getElem?_setIfInBounds_ne (by omega), Array.getElem?_setIfInBounds_ne (by omega), Array.getElem?_setIfInBounds_self_of_lt (by simp; omega)]; rfl
  | 2, _ => rw [Array.getElem?_setIfInBounds_ne (by omega), Array.getElem?_setIfInBounds_ne (by omega), Array.getElem?_setIfInBounds_self_of_lt (by simp; omega)]; rfl
  | 3, _ => rw [Array.getElem?_setIfInBounds_ne (by omega), Array.getElem?_setIfInBounds_self_of_lt (by simp; omega)]; rfl
  | 4, _ => rw [Array.getElem?_setIfInBounds_self_of_lt (by simp; omega)]; rfl
structure RingK (b sb : Nat) (T Ts : TypeId) (r : RS) (W : World) : Prop where
  ok : r.Ok
  ne : b ≠ sb
  ring : ∃ x y u : Int, Blk W b (ringC sb r x y u) T
  slots : ∃ c, Blk W sb c Ts ∧ ∀ q, r.h ≤ q → q < r.h + r.N → SlotK c (q % r.N) (r.seq q) (r.at_ zT q)
theorem RingK.kept {b sb : Nat} {T Ts : TypeId} {r : RS} {W W' : World} {S : Nat → Prop} (h : RingK b sb T Ts r W) (k : Kept S W W') (h1 : ¬ S b) (h2 : ¬ S sb) : RingK b sb T Ts r W' := by
  obtain ⟨ok, ne, ⟨x, y, u, hb⟩, ⟨c, hc, hs⟩⟩ := h
  exact ⟨ok, ne, ⟨x, y, u, hb.kept k h1⟩, ⟨c, hc.kept k h2, hs⟩⟩
theorem RingK.still {b sb : Nat} {T Ts : TypeId} {r : RS} {W W' : World} (h : RingK b sb T Ts r W) (k : Still W W') : RingK b sb T Ts r W' := h.kept k (fun f => f) (fun f => f)
theorem RingK.lt {b sb : Nat} {T Ts : TypeId} {r : RS} {W : World} (h : RingK b sb T Ts r W) : b < W.heap.size ∧ sb < W.heap.size := by
  obtain ⟨ok, ne, ⟨x, y, u, hb⟩, ⟨c, hc, hs⟩⟩ := h
  exact ⟨hb.lt, hc.lt⟩
theorem slotk_other {c : Array Value} {j k : Nat} {s : Int} {v : Value} (h : SlotK c j s v) (i : Nat) (hi : i < 9) (x : Value) (hne : j ≠ k) : SlotK (c.setIfInBounds (k * 9 + i) x) j s v := by
  obtain ⟨h0, ⟨a1, h1⟩, ⟨a2, h2⟩, ⟨a3, h3⟩, t, ht, h4⟩ := h
  refine ⟨?_, ⟨a1, ?_⟩, ⟨a2, ?_⟩, ⟨a3, ?_⟩, t, ht, fun n hn => ?_⟩ <;> rw [Array.getElem?_setIfInBounds_ne (by omega)] <;> first | assumption | exact h4 n hn
theorem slotk_other5 {c : Array Value} {j k : Nat} {s : Int} {v : Value} (h : SlotK c j s v) (t' : TaskV) (hne : j ≠ k) : SlotK (set5 c (k * 9 + 4) t') j s v := by
  obtain ⟨h0, ⟨a1, h1⟩, ⟨a2, h2⟩, ⟨a3, h3⟩, t, ht, h4⟩ := h
  refine ⟨?_, ⟨a1, ?_⟩, ⟨a2, ?_⟩, ⟨a3, ?_⟩, t, ht, fun n hn => ?_⟩ <;> rw [set5_ne (by omega)] <;> first | assumption | exact h4 n hn
theorem slotk_seq {c : Array Value} {j : Nat} {s s' : Int} {v : Value} (h : SlotK c j s v) : SlotK (c.setIfInBounds (j * 9) (.int .i64 s')) j s' v := by
  obtain ⟨h0, ⟨a1, h1⟩, ⟨a2, h2⟩, ⟨a3, h3⟩, t, ht, h4⟩ := h
  refine ⟨get_set h0, ⟨a1, ?_⟩, ⟨a2, ?_⟩, ⟨a3, ?_⟩, t, ht, fun n hn => ?_⟩ <;> rw [Array.getElem?_setIfInBounds_ne (by omega)] <;> first | assumption | exact h4 n hn
theorem slotk_val {c : Array Value} {j : Nat} {s : Int} {v : Value} (t' : TaskV) (h : SlotK c j s v) : SlotK (set5 c (j * 9 + 4) t') j s t'.v := by
  obtain ⟨h0, ⟨a1, h1⟩, ⟨a2, h2⟩, ⟨a3, h3⟩, t, ht, h4⟩ := h
  have hsz : j * 9 + 4 + 4 < c.size := (Array.getElem?_eq_some_iff.1 (h4 4 (by omega))).1
  refine ⟨?_, ⟨a1, ?_⟩, ⟨a2, ?_⟩, ⟨a3, ?_⟩, t', rfl, fun n hn => set5_at hsz n hn⟩ <;> rw [set5_ne (by omega)] <;> assumption
theorem slotk_loads {c : Array Value} {j : Nat} {s : Int} {v : Value} (h : SlotK c j s v) (x : Int) : SlotK (c.setIfInBounds (j * 9 + 1) (.int .i64 x)) j s v := by
  obtain ⟨h0, ⟨a1, h1⟩, ⟨a2, h2⟩, ⟨a3, h3⟩, t, ht, h4⟩ := h
  refine ⟨?_, ⟨x, get_set h1⟩, ⟨a2, ?_⟩, ⟨a3, ?_⟩, t, ht, fun n hn => ?_⟩ <;> rw [Array.getElem?_setIfInBounds_ne (by omega)] <;> first | assumption | exact h4 n hn

set_option maxHeartbeats 1000000 in
theorem kat_t {b sb : Nat} {T Ts : TypeId} {r : RS} (pos : Nat) (hp : pos < 2000000000000) (w : World) (h : RingK b sb T Ts r w) :
    Calls Try.prog 37 #[.pointer (some ⟨b, 0, none⟩), .int .i64 pos] w fun e w' => e = .returned (.pointer (some ⟨sb, pos % r.N * 9, none⟩)) ∧ Still w w' := by
  obtain ⟨⟨n1, n64, ht, room, big, pubs⟩, ne, ⟨x, y, u, hb⟩, _⟩ := h
  have c0 : w.cell? ⟨b, 0, none⟩ = some (.slice (some ⟨sb, 0, none⟩) r.N r.N) := hb.cell 0
  have hm := Nat.mod_lt pos n1
  have hmi : ((pos : Int) % (r.N : Int)) = ((pos % r.N : Nat) : Int) := (Int.natCast_emod pos r.N).symm
  obtain ⟨N, hN⟩ : ∃ N, N = r.N := ⟨_, rfl⟩
  rw [← hN] at n1 n64 hm hmi c0 ⊢
  clear hN hb pubs room ht
  obtain ⟨m, hmm⟩ : ∃ m, m = pos % N := ⟨_, rfl⟩
  rw [← hmm] at hm hmi ⊢
  have HM := Lib.hid hmm
  clear hmm
  go_enter Try.func37, Try.ntmps37
  go_wp2_with fail
  go_quiet (fail)
  go_wp2_with fail
  go_ret
  exact ⟨rfl, (still_refl w).drewN _⟩

theorem kseqload_t {b sb : Nat} {T Ts : TypeId} {r : RS} (pos : Nat) (w : World) (h : RingK b sb T Ts r w) :
    Calls Try.prog 55 #[.pointer (some ⟨sb, pos % r.N * 9, none⟩)] w fun e w' => (∃ q, (r.h ≤ q ∧ q < r.h + r.N ∧ q % r.N = pos % r.N) ∧ e = .returned (.int .i64 (r.seq q))) ∧ RingK b sb T Ts r w' ∧ Only sb w w' := by
  obtain ⟨ok, ne, hb, ⟨c, hc, hs⟩⟩ := h
  obtain ⟨q, h1, h2, h3⟩ := mod_same (p := pos) (h := r.h) ok.n1
  have hq := hs q h1 h2
  obtain ⟨s0, ⟨x, s1⟩, _⟩ := hq
  rw [h3] at s0 s1
  refine (load_any sb (pos % r.N * 9) c (r.seq q) x rfl Ts w hc s0 s1).mono ?_
  rintro e w' ⟨rfl, k, hb'⟩
  refine ⟨⟨q, ⟨h1, h2, h3⟩, rfl⟩, ⟨ok, ne, ?_, _, hb', fun q' h1' h2' => ?_⟩, k⟩
  · obtain ⟨x', y', u', hb⟩ := hb
    exact ⟨x', y', u', hb.only k ne⟩
  · by_cases e : q' = q
    · subst e
      have := slotk_loads (hs q' h1' h2') (wrap64 (x + 1))
      rwa [h3] at this ⊢
    · exact slotk_other (hs q' h1' h2') 1 (by omega) _ (by rw [← h3]; exact mod_ne ok.n1 h1' h2' h1 h2 e)

theorem kbegin_t (b : Nat) (w : World) :
    Calls Try.prog 32 #[.pointer (some ⟨b, 0, none⟩)] w fun e w' => e = .returned (.pointer (some ⟨w.heap.size, 0, none⟩)) ∧ Still w w' ∧ Blk w' w.heap.size (tickC b ⟨0, 0, 0, false⟩) 80 := by
  go_enter Try.func32, Try.ntmps32
  go_wp2
  go_ret
  exact ⟨rfl, by (repeat (first | (with_reducible exact Kept.refl _ _) | (with_reducible refine Kept.drewN ?_ _) | (with_reducible refine Kept.drew ?_) | (with_reducible refine Kept.put ?_ _ _) | (with_reducible refine Kept.alloc ?_ _))), Blk.new _ _ _⟩
theorem kbegin_none_t (w : World) : Calls Try.prog 32 #[.pointer none] w fun e w' => e = .returned (.pointer none) ∧ w = w' := by
  go_enter Try.func32, Try.ntmps32
  go_wp2
  go_ret
  exact ⟨rfl, rfl⟩

theorem klook_t {b sb tk : Nat} {T Ts Tt : TypeId} {r : RS} {k : TS} (w : World) (h : RingK b sb T Ts r w) (ht : Blk w tk (tickC b k) Tt) (hb : tk ≠ b) (hsb : tk ≠ sb) :
    Calls Try.prog 33 #[.pointer (some ⟨tk, 0, none⟩)] w fun e w' => e = .returned (.tuple #[]) ∧ RingK b sb T Ts r w' ∧ Blk w' tk (tickC b ⟨r.t, 1, k.status, k.filled⟩) Tt ∧ Kept (fun x => x = b ∨ x = tk) w w' := by
  obtain ⟨ok, ne, ⟨x, y, u, hr⟩, hs⟩ := h
  have c0 : w.cell? ⟨tk, 0, none⟩ = some (.pointer (some ⟨b, 0, none⟩)) := ht.cell 0
  go_enter Try.func33, Try.ntmps33
  go_wp2_with fail
  refine (load_any b 1 _ r.t x rfl T w hr rfl rfl).mono ?_
  rintro e w1 ⟨rfl, k1, hr1⟩
  have ht1 := ht.only k1 hb
  have f1 := ht1.free 1
  have f2 := ht1.free 2
  have c1 : w1.cell? ⟨tk, 1, none⟩ = some (.int .i64 k.pos) := ht1.cell 1
  have c2 : w1.cell? ⟨tk, 2, none⟩ = some (.int .i64 k.next) := ht1.cell 2
  go_wp2_with fail
  go_end0
  have kw := ((only_refl tk w1).put 1 (.int .i64 r.t)).put 2 (.int .i64 1)
  refine ⟨rfl, ⟨ok, ne, ⟨_, y, u, (hr1.only kw (Ne.symm hb))⟩, ?_⟩, (ht1.set 1 _).set 2 _, (k1.mono (fun _ _ h => .inl h)).step kw (fun _ _ h => .inr h)⟩
  obtain ⟨c, hc, hsl⟩ := hs
  exact ⟨c, (hc.only k1 (Ne.symm ne)).only kw (Ne.symm hsb), hsl⟩

set_option maxHeartbeats 1000000 in
theorem kweigh_t {b sb tk : Nat} {T Ts Tt : TypeId} {r : RS} {k : TS} (w : World) (h : RingK b sb T Ts r w) (ht : Blk w tk (tickC b k) Tt) (hb : tk ≠ b) (hsb : tk ≠ sb) (hpt : k.pos ≤ r.t) :
    Calls Try.prog 34 #[.pointer (some ⟨tk, 0, none⟩)] w fun e w' => e = .returned (.tuple #[]) ∧ RingK b sb T Ts r w' ∧ Blk w' tk (tickC b (weighK r k)) Tt ∧ Kept (fun x => x = sb ∨ x = tk) w w' := by
  have ok := h.ok
  have hbig := ok.big
  have c0 : w.cell? ⟨tk, 0, none⟩ = some (.pointer (some ⟨b, 0, none⟩)) := ht.cell 0
  have c1 : w.cell? ⟨tk, 1, none⟩ = some (.int .i64 k.pos) := ht.cell 1
  go_enter Try.func34, Try.ntmps34
  go_wp2_with fail
  refine wp_region_text ([4], [45, 56, 81]) [tk] (by kernel_rfl) (by kernel_rfl) (cellsB_cons ht.cells cellsB_nil) (by simp [segs, isEff, isLoad, askOps, asks, ptrEq, eqOrNe, isNil]; rfl) ?_
  refine segs_go stay_drew (by simp [isLoad]) ?_
  go_wp2_with fail
  refine segs_load stay_drew (fun _ => (by exact ⟨tk, _, rfl, by simp⟩)) ?_
  go_wp2_with fail
  refine segs_load stay_drew (fun _ => (by exact ⟨tk, _, rfl, by simp⟩)) ?_
  go_wp2_with fail
  refine (kat_t k.pos (by omega) _ (h.still ((still_refl w).drewN 1))).mono ?_
  rintro e w1 ⟨rfl, k1⟩
  have hst1 : StayB [tk] w w1 := StayB.kept stay_drew k1 (fun x hx => ⟨by simp only [List.mem_singleton] at hx; subst hx; exact ht.lt, fun f => f⟩)
  have h1 := (h.still ((still_refl w).drewN 1)).still k1
  go_wp2_with fail
  refine segs_go hst1 (by simp [isLoad]) ?_
  go_wp2_with fail
  refine (kseqload_t k.pos w1 h1).mono ?_
  rintro e w2 ⟨⟨q, ⟨q1, q2, q3⟩, rfl⟩, h2, k2⟩
  have ht2 := (((ht.drewN 1).still k1).only k2 hsb)
  have hst2 : StayB [tk] w w2 := StayB.kept hst1 k2 (fun x hx => ⟨by simp only [List.mem_singleton] at hx; subst hx; exact ((ht.drewN 1).still k1).lt, by simp only [List.mem_singleton] at hx; subst hx; exact hsb⟩)
  have k02 : Kept (fun x => x = sb ∨ x = tk) w w2 := ((((Kept.refl (fun x => x = sb ∨ x = tk) w).drewN 1).of_still k1)).step k2 (fun _ _ e => .inl e)
  have d1 : w2.cell? ⟨tk, 1, none⟩ = some (.int .i64 k.pos) := ht2.cell 1
  have d2 : w2.cell? ⟨tk, 2, none⟩ = some (.int .i64 k.next) := ht2.cell 2
  have d3 : w2.cell? ⟨tk, 3, none⟩ = some (.int .i64 k.status) := ht2.cell 3
  have f2 := ht2.free 2
  have f3 := ht2.free 3
  have hk2 := ((only_refl tk w2).put 2 (.int .i64 0))
  have hroom := ok.room
  have HT := Lib.hid ht
  have H2 := Lib.hid h2
  have HT2 := Lib.hid ht2
  have hN1 := ok.n1
  have fin2 : ∀ (v : Value), RingK b sb T Ts r (w2.setCell ⟨tk, 2, none⟩ v) := fun v => H2.out.kept ((only_refl tk w2).put 2 v) (Ne.symm hb) (Ne.symm hsb)
  have fin3 : ∀ (v : Value), RingK b sb T Ts r (w2.setCell ⟨tk, 3, none⟩ v) := fun v => H2.out.kept ((only_refl tk w2).put 3 v) (Ne.symm hb) (Ne.symm hsb)
  have HF2 := Lib.hid fin2
  have HF3 := Lib.hid fin3
  have kk2 : ∀ (v : Value), Kept (fun x => x = sb ∨ x = tk) w (w2.setCell ⟨tk, 2, none⟩ v) := fun v => k02.step ((only_refl tk w2).put 2 v) (fun _ _ e => .inr e)
  have kk3 : ∀ (v : Value), Kept (fun x => x = sb ∨ x = tk) w (w2.setCell ⟨tk, 3, none⟩ v) := fun v => k02.step ((only_refl tk w2).put 3 v) (fun _ _ e => .inr e)
  have HK2 := Lib.hid kk2
  have HK3 := Lib.hid kk3
  clear ht h2 ht2 h1 c0 c1 fin2 fin3 kk2 kk3 hk2
  rcases Nat.lt_trichotomy q k.pos with hlt | heq | hgt
  · have hpn : r.h + r.N ≤ k.pos := by
      rcases Nat.lt_or_ge k.pos (r.h + r.N) with hl | hl
      · rcases Nat.lt_or_ge k.pos r.h with hl2 | hl2
        · omega
        · exact absurd (window_one ok q1 q2 q3 hl2 hl) (by omega)
      · exact hl
    have hW : weighK r k = { k with status := 1 } := by
      unfold weighK
      rw [if_neg (by rw [ok.pubs k.pos (by omega)]; simp; omega), if_pos hpn]
    have hsq : r.seq q < 2 * (k.pos : Int) := by unfold RS.seq; split <;> omega
    have hs0 : 0 ≤ r.seq q := by unfold RS.seq; split <;> omega
    obtain ⟨s, hs⟩ : ∃ s, s = r.seq q := ⟨_, rfl⟩
    rw [← hs] at hsq hs0 ⊢
    have HW := Lib.hid hW
    clear hs hW
    go_wp2_with fail
    refine segs_go hst2 (by simp [isLoad]) ?_
    go_wp2_with fail
    refine segs_nil ?_
    go_wp2_with fail
    go_end0
    exact ⟨rfl, HF3.out _, by rw [HW.out]; exact HT2.out.set 3 _, HK3.out _⟩
  · cases hp : r.pub k.pos
    · have hW : weighK r k = { k with next := 2 } := by
        unfold weighK
        rw [if_neg (by rw [hp]; simp; omega), if_neg (by omega)]
      have hsq : r.seq q = 2 * (k.pos : Int) := by unfold RS.seq; rw [heq, hp]; simp
      have hsq1 : ¬ r.seq q < 2 * (k.pos : Int) := by omega
      have hsq2 : ¬ 2 * (k.pos : Int) < r.seq q := by omega
      have hs0 : 0 ≤ r.seq q := by unfold RS.seq; split <;> omega
      obtain ⟨s, hs⟩ : ∃ s, s = r.seq q := ⟨_, rfl⟩
      rw [← hs] at hsq1 hsq2 hs0 ⊢
      have HW := Lib.hid hW
      clear hs hW hsq hp
      go_wp2_with fail
      refine segs_go hst2 (by simp [isLoad]) ?_
      go_wp2_with fail
      refine segs_nil ?_
      go_wp2_with fail
      go_end0
      exact ⟨rfl, HF2.out _, by rw [HW.out]; exact HT2.out.set 2 _, HK2.out _⟩
    · have hW : weighK r k = { k with next := 0 } := by
        unfold weighK
        rw [if_pos (.inr hp)]
      have hsq : 2 * (k.pos : Int) < r.seq q := by unfold RS.seq; rw [heq, hp]; simp only [if_true]; omega
      have hs0 : 0 ≤ r.seq q := by unfold RS.seq; split <;> omega
      obtain ⟨s, hs⟩ : ∃ s, s = r.seq q := ⟨_, rfl⟩
      rw [← hs] at hsq hs0 ⊢
      have HW := Lib.hid hW
      clear hs hW hp
      go_wp2_with fail
      refine segs_go hst2 (by simp [isLoad]) ?_
      go_wp2_with fail
      refine segs_nil ?_
      go_wp2_with fail
      go_end0
      exact ⟨rfl, HF2.out _, by rw [HW.out]; exact HT2.out.set 2 _, HK2.out _⟩
  · have hpn : k.pos < r.h := by
      rcases Nat.lt_or_ge k.pos r.h with hl | hl
      · exact hl
      · exact absurd (window_one ok q1 q2 q3 hl (by omega)) (by omega)
    have hW : weighK r k = { k with next := 0 } := by
      unfold weighK
      rw [if_pos (.inl hpn)]
    have hsq : 2 * (k.pos : Int) < r.seq q := by unfold RS.seq; split <;> omega
    have hs0 : 0 ≤ r.seq q := by unfold RS.seq; split <;> omega
    obtain ⟨s, hs⟩ : ∃ s, s = r.seq q := ⟨_, rfl⟩
    rw [← hs] at hsq hs0 ⊢
    have HW := Lib.hid hW
    clear hs hW
    go_wp2_with fail
    refine segs_go hst2 (by simp [isLoad]) ?_
    go_wp2_with fail
    refine segs_nil ?_
    go_wp2_with fail
    go_end0
    exact ⟨rfl, HF2.out _, by rw [HW.out]; exact HT2.out.set 2 _, HK2.out _⟩

set_option maxHeartbeats 1000000 in
theorem ktake_t {b sb tk : Nat} {T Ts Tt : TypeId} {r : RS} {k : TS} (w : World) (h : RingK b sb T Ts r w) (ht : Blk w tk (tickC b k) Tt) (hb : tk ≠ b) (hsb : tk ≠ sb) (hpt : k.pos ≤ r.t) (hroom : k.pos = r.t → r.t < r.h + r.N ∧ r.t + 1 < 1000000000000) :
    Calls Try.prog 35 #[.pointer (some ⟨tk, 0, none⟩)] w fun e w' => e = .returned (.tuple #[]) ∧ RingK b sb T Ts (if k.pos = r.t then r.more else r) w' ∧ Blk w' tk (tickC b (if k.pos = r.t then { k with next := 0, status := 2 } else { k with next := 0 })) Tt ∧ Kept (fun x => x = b ∨ x = tk) w w' := by
  have ok := h.ok
  have hbig := ok.big
  obtain ⟨x, y, u, hr⟩ := h.ring
  have c2 : w.cell? ⟨tk, 2, none⟩ = some (.int .i64 k.next) := ht.cell 2
  have f2 := ht.free 2
  have hk0 := (only_refl tk w).put 2 (.int .i64 0)
  have ht1 : Blk (w.setCell ⟨tk, 2, none⟩ (.int .i64 0)) tk (tickC b { k with next := 0 }) Tt := ht.set 2 (.int .i64 0)
  have h1 := h.kept hk0 (Ne.symm hb) (Ne.symm hsb)
  have hr1 := hr.only hk0 (Ne.symm hb)
  have d0 : (w.setCell ⟨tk, 2, none⟩ (.int .i64 0)).cell? ⟨tk, 0, none⟩ = some (.pointer (some ⟨b, 0, none⟩)) := ht1.cell 0
  have d1 : (w.setCell ⟨tk, 2, none⟩ (.int .i64 0)).cell? ⟨tk, 1, none⟩ = some (.int .i64 k.pos) := ht1.cell 1
  have H := Lib.hid h
  have H1 := Lib.hid h1
  have HT1 := Lib.hid ht1
  have HR1 := Lib.hid hr1
  clear h h1 hr hr1
  go_enter Try.func35, Try.ntmps35
  go_wp2_with fail
  refine wp_region_text ([4], [45, 56, 81]) [tk] (by kernel_rfl) (by kernel_rfl) (cellsB_cons ht1.cells cellsB_nil) (by simp [segs, isEff, isLoad, askOps, asks, ptrEq, eqOrNe, isNil]; rfl) ?_
  refine segs_go stay_drew (by simp [isLoad]) ?_
  go_wp2_with fail
  refine segs_load stay_drew (fun _ => (by exact ⟨tk, _, rfl, by simp⟩)) ?_
  go_wp2_with fail
  refine segs_load stay_drew (fun _ => (by exact ⟨tk, _, rfl, by simp⟩)) ?_
  go_wp2_with fail
  refine segs_load stay_drew (fun _ => (by exact ⟨tk, _, rfl, by simp⟩)) ?_
  go_wp2_with fail
  by_cases he : k.pos = r.t
  · have hro := hroom he
    refine (swap_yes b 1 (ringC sb r x y u) k.pos (k.pos + 1) y u rfl rfl T _ (HR1.out.drewN 1) (by rw [he]; rfl) rfl rfl).mono ?_
    rintro e w2 ⟨rfl, k2, hr2⟩
    have ht2 := ((HT1.out.drewN 1).only k2 hb)
    have hst2 : StayB [tk] (w.setCell ⟨tk, 2, none⟩ (.int .i64 0)) w2 := fun x hx => by
      simp only [List.mem_singleton] at hx; subst hx
      exact ht2.trans HT1.out.symm
    have c3 : w2.cell? ⟨tk, 3, none⟩ = some (.int .i64 k.status) := ht2.cell 3
    have f3 := ht2.free 3
    have hI : RingK b sb T Ts r.more w2 := by
      refine ⟨ok.more hro.1 hro.2, H.out.ne, ⟨x, wrap64 (y + 1), wrap64 (u + 1), ?_⟩, ?_⟩
      · refine hr2.cast ?_
        simp [ringC, RS.more, he]
      · obtain ⟨c, hc, hs⟩ := H1.out.slots
        exact ⟨c, (hc.drewN 1).only k2 (Ne.symm H.out.ne), hs⟩
    have hfin := hI.kept ((only_refl tk w2).put 3 (.int .i64 2)) (Ne.symm hb) (Ne.symm hsb)
    have hkk : Kept (fun x => x = b ∨ x = tk) w (w2.setCell ⟨tk, 3, none⟩ (.int .i64 2)) := ((((hk0.mono (fun _ _ e => .inr e)) : Kept (fun x => x = b ∨ x = tk) w _).drewN 1).step k2 (fun _ _ e => .inl e)).step ((only_refl tk w2).put 3 (.int .i64 2)) (fun _ _ e => .inr e)
    have HI := Lib.hid hfin
    have HKK := Lib.hid hkk
    have HT2 := Lib.hid ht2
    have HE := Lib.hid he
    clear hI hfin hkk ht2 he hr2 k2 d0 d1 c2 ht1
    go_wp2_with fail
    refine segs_go hst2 (by simp [isLoad]) ?_
    go_wp2_with fail
    refine segs_nil ?_
    go_wp2_with fail
    go_end0
    exact ⟨rfl, HI.out, by rw [← HE.out]; exact HT2.out.set 3 _, HKK.out⟩
  · have hne : (((r.t : Int)) == (k.pos : Int)) = false := by rw [beq_eq_false_iff_ne]; omega
    refine (swap_no b 1 (ringC sb r x y u) r.t k.pos (k.pos + 1) y rfl T _ hne (HR1.out.drewN 1) rfl rfl).mono ?_
    rintro e w2 ⟨rfl, k2, hr2⟩
    have ht2 := ((HT1.out.drewN 1).only k2 hb)
    have hst2 : StayB [tk] (w.setCell ⟨tk, 2, none⟩ (.int .i64 0)) w2 := fun x hx => by
      simp only [List.mem_singleton] at hx; subst hx
      exact ht2.trans HT1.out.symm
    have hI : RingK b sb T Ts r w2 := by
      refine ⟨ok, H.out.ne, ⟨x, wrap64 (y + 1), u, hr2⟩, ?_⟩
      obtain ⟨c, hc, hs⟩ := H1.out.slots
      exact ⟨c, (hc.drewN 1).only k2 (Ne.symm H.out.ne), hs⟩
    have hkk : Kept (fun x => x = b ∨ x = tk) w w2 := (((hk0.mono (fun _ _ e => .inr e)) : Kept (fun x => x = b ∨ x = tk) w _).drewN 1).step k2 (fun _ _ e => .inl e)
    have HI := Lib.hid hI
    have HKK := Lib.hid hkk
    have HT2 := Lib.hid ht2
    clear hI hkk ht2 hr2 k2 d0 d1 c2 ht1
    go_wp2_with fail
    refine segs_go hst2 (by simp [isLoad]) ?_
    go_wp2_with fail
    refine segs_nil ?_
    go_wp2_with fail
    go_end0
    exact ⟨rfl, HI.out, HT2.out, HKK.out⟩
end Go.Proofs.Ythamdbfilpegjaa
