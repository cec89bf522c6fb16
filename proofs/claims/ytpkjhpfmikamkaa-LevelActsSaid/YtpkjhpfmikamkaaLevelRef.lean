/-
  What stands here: the document's level, and what its functions answer. Under no condition but that the world holds it.
-/
import Derived.Test.YtpkjhpfmikamkaaLevelOne
namespace Go.Proofs.Ytpkjhpfmikamkaa
set_option linter.unusedVariables false
set_option linter.unusedSimpArgs false
open Go.RowKit Go.Proofs

def irow (l : List Int) : List Value := l.map (.int .i64)
theorem irow_len (l : List Int) : (irow l).length = l.length := List.length_map ..
theorem irow_at {l : List Int} {q : Nat} {z : Int} (h : l[q]? = some z) : (irow l)[q]? = some (.int .i64 z) := by unfold irow; rw [List.getElem?_map, h]; rfl
theorem irow_snoc (l : List Int) (z : Int) : irow (l ++ [z]) = irow l ++ [.int .i64 z] := by simp [irow]
/-- a row without a number -/
def wo (n : Int) (l : List Int) : List Int := l.filter fun z => decide (z ≠ n)
theorem wo_in (n z : Int) (l : List Int) (h : z ≠ n) : wo n (l ++ [z]) = wo n l ++ [z] := by unfold wo; rw [List.filter_append]; congr 1; simp [h]
theorem wo_out (n : Int) (l : List Int) : wo n (l ++ [n]) = wo n l := by unfold wo; rw [List.filter_append]; simp
theorem wo_len (n : Int) (l : List Int) : (wo n l).length ≤ l.length := List.length_filter_le _ _
theorem owns_mono {w : World} {base base' : Nat} {e : TypeId} {sz : Nat} {v : Value} {n : Nat} {xs : List Value} (h : w.ownsRow base e sz v n xs) (hb : base' ≤ base) : w.ownsRow base' e sz v n xs := by
  obtain ⟨hl, h | ⟨g, cap, cur, rfl, hg, h⟩⟩ := h
  · exact ⟨hl, .inl h⟩
  · exact ⟨hl, .inr ⟨g, cap, cur, rfl, Nat.le_trans hb hg, h⟩⟩
/-- the document's level: a block of slices, each with a block of its own -/
structure RefL (col : Nat → Nat) (R : Nat) (L : Nat → List Int) (W : World) : Prop where
  cR : col R = 9
  blk : ∃ (c : Array Value) (vs : Nat → Value), Blk W R c 34 ∧ c.size = 64 ∧ (∀ k, k < 64 → c[k]? = some (vs k)) ∧ ∀ k, k < 64 → Owns col (10 + k) W 3 1 (vs k) (L k).length (irow (L k))
section
variable {col : Nat → Nat} {R : Nat} {L : Nat → List Int} {W : World}
theorem RefL.lt (h : RefL col R L W) : R < W.heap.size := by obtain ⟨c, vs, b, _⟩ := h.blk; exact b.lt
theorem RefL.kept (h : RefL col R L W) {S : Nat → Prop} {W' : World} (k : Kept S W W') (hS : ∀ x, x < W.heap.size → (col x = 9 ∨ (10 ≤ col x ∧ col x < 74)) → ¬ S x) : RefL col R L W' := by
  obtain ⟨c, vs, b, hs, hc, ho⟩ := h.blk
  exact ⟨h.cR, c, vs, b.kept k (hS R b.lt (.inl h.cR)), hs, hc, fun j hj => (ho j hj).kept k (fun x hx e => hS x hx (.inr (by omega)))⟩
theorem RefL.recol (h : RefL col R L W) {col' : Nat → Nat} (rc : Recol W.heap.size col col') : RefL col' R L W := by
  obtain ⟨c, vs, b, hs, hc, ho⟩ := h.blk
  exact ⟨(rc R b.lt).trans h.cR, c, vs, b, hs, hc, fun j hj => (ho j hj).recol rc⟩
theorem RefL.go (h : RefL col R L W) {W' : World} {d : Nat} (k : Kept (fun x => col x = d) W W') (hd : d < 9 ∨ 74 ≤ d) : RefL (ext col W.heap.size d) R L W' :=
  (h.recol (recol_ext col _ d)).kept k (fun x hx e => by rw [recol_ext col _ d x hx] at e; omega)
theorem RefL.still (h : RefL col R L W) {W' : World} (k : Still W W') : RefL col R L W' := h.kept k (fun _ _ _ f => f)
theorem RefL.slot (h : RefL col R L W) {k : Nat} (hk : k < 64) : ∃ a cap, W.cell? ⟨R, k, none⟩ = some (.slice a (L k).length cap) ∧ W.frozen? ⟨R, k, none⟩ = false ∧ Owns col (10 + k) W 3 1 (.slice a (L k).length cap) (L k).length (irow (L k)) ∧ ∀ (q : Nat) (z : Int), (L k)[q]? = some z → ∃ g, a = some ⟨g, 0, none⟩ ∧ W.cell? ⟨g, q, none⟩ = some (.int .i64 z) ∧ g < W.heap.size ∧ ∃ c, Blk W g c 3 := by
  obtain ⟨c, vs, b, hs, hc, ho⟩ := h.blk
  obtain ⟨a, cap, e⟩ := owns_slice (ho k hk).1
  have h1 := ho k hk
  rw [e] at h1
  refine ⟨a, cap, (b.cell k).trans ((hc k hk).trans (by rw [e])), b.free k, h1, fun q z hz => ?_⟩
  obtain ⟨g, cap', cur, e2, _, hb, _, _, _, hcell, _⟩ := owns_one h1 (irow_at hz)
  simp only [Value.slice.injEq] at e2
  exact ⟨g, e2.1, hcell, hb.lt, cur, hb⟩
/-- a slot gets another row -/
theorem RefL.put (h : RefL col R L W) {k : Nat} (hk : k < 64) {col' : Nat → Nat} {W1 : World} {v : Value} {l : List Int} (rc : Recol W.heap.size col col') (k1 : Kept (fun x => col x = 10 + k) W W1) (hv : Owns col' (10 + k) W1 3 1 v l.length (irow l)) : RefL col' R (upd L k l) (W1.setCell ⟨R, k, none⟩ v) ∧ Kept (fun x => col x = 10 + k ∨ x = R) W (W1.setCell ⟨R, k, none⟩ v) := by
  obtain ⟨c, vs, b, hs, hc, ho⟩ := h.blk
  have hcR := h.cR
  have b1 := b.kept k1 (by omega)
  have hcR' : col' R = 9 := (rc R b.lt).trans h.cR
  refine ⟨⟨hcR', _, upd vs k v, b1.set k v, by simpa using hs, fun j hj => ?_, fun j hj => ?_⟩, Kept.setCell (k1.mono fun x _ e => .inl e) (fun _ => .inr rfl) _⟩
  · by_cases e : j = k
    · subst e; rw [upd_same, Array.getElem?_setIfInBounds_self_of_lt (by omega)]
    · rw [upd_ne _ _ e, Array.getElem?_setIfInBounds_ne (Ne.symm e)]; exact hc j hj
  · by_cases e : j = k
    · subst e; rw [upd_same, upd_same]; exact hv.set_other (by show col' R ≠ _; omega) v
    · rw [upd_ne _ _ e, upd_ne _ _ e]
      have h1 := ((ho j hj).recol rc).kept k1 (fun x hx e9 e8 => by rw [rc x hx] at e9; omega)
      exact h1.set_other (by show col' R ≠ _; omega) v
end
set_option maxHeartbeats 1000000 in
theorem of_any {col : Nat → Nat} {R : Nat} {L : Nat → List Int} (n : Int) (w : World) (h : RefL col R L w) (hl : ∀ k, k < 64 → (L k).length ≤ 1000) :
    Calls Try.prog 9 #[.pointer (some ⟨R, 0, none⟩), .int .i64 n] w fun e w' => ∃ z : Int, e = .returned (.int .i64 z) ∧ w = w' ∧ ((∃ k : Nat, k < 64 ∧ z = k ∧ n ∈ L k ∧ ∀ j, j < k → n ∉ L j) ∨ (z = -1 ∧ ∀ k, k < 64 → n ∉ L k)) := by
  have H := Lib.hid h
  have HL := Lib.hid hl
  clear h hl
  go_enter Try.func9, Try.ntmps9
  go_wp2_with fail
  go_loopw [5] (fun i wr => ∃ k : Nat, k ≤ 64 ∧ i = .int .i64 k ∧ wr = w ∧ ∀ j, j < k → n ∉ L j) (fun i _ => 64 - (intOf i).toNat)
  case atStart => exact ⟨0, Nat.zero_le _, rfl, rfl, fun j hj => absurd hj (by omega)⟩
  case round =>
    obtain ⟨k, hk, rfl, rfl, hno⟩ := hrel
    have HN := Lib.hid hno
    clear hno
    by_cases hkl : k < 64
    · obtain ⟨a, cap, c1, f1, o1, hq⟩ := H.out.slot hkl
      have HQ := Lib.hid hq
      have hlen := HL.out k hkl
      clear hq o1
      go_wp2_with fail
      go_loopw [6] (fun i w2 => ∃ q : Nat, q ≤ (L k).length ∧ i = .int .i64 q ∧ w2 = wr ∧ ∀ p z, p < q → (L k)[p]? = some z → z ≠ n) (fun i _ => (L k).length - (intOf i).toNat)
      case atStart => exact ⟨0, Nat.zero_le _, rfl, rfl, fun p z hp => absurd hp (by omega)⟩
      case round =>
        obtain ⟨q, hq, rfl, rfl, hne⟩ := hrel
        have HE := Lib.hid hne
        clear hne
        by_cases hql : q < (L k).length
        · obtain ⟨z, hz⟩ : ∃ z, (L k)[q]? = some z := ⟨_, List.getElem?_eq_getElem hql⟩
          obtain ⟨g, rfl, c2, _, _⟩ := HQ.out q z hz
          have HZ := Lib.hid hz
          clear hz
          by_cases e : z = n
          · subst e
            go_wp2_with fail
            go_ret
            exact ⟨k, rfl, rfl, .inl ⟨k, hkl, rfl, List.mem_of_getElem? HZ.out, HN.out⟩⟩
          · have hb : (z == n) = false := by rw [beq_eq_false_iff_ne]; exact e
            have HNe := Lib.hid e
            clear e
            go_wp2_with fail
            go_roundw
            case rel => exact ⟨q + 1, by omega, by go_num, (by first | rfl | trivial), fun p y hp hy => by
              by_cases e : p = q
              · rw [e, HZ.out] at hy; cases hy; exact HNe.out
              · exact HE.out p y (by omega) hy⟩
            case measure => simp [intOf]; omega
        · obtain rfl : q = (L k).length := by omega
          have hnk : n ∉ L k := fun hm => by
            obtain ⟨p, hp, e⟩ := List.mem_iff_getElem.1 hm
            exact HE.out p n hp (by rw [List.getElem?_eq_getElem hp, e]) rfl
          have HNK := Lib.hid hnk
          clear hnk
          go_wp2_with fail
          go_roundw
          case rel => exact ⟨k + 1, by omega, by go_num, (by first | rfl | trivial), fun j hj => by
            by_cases e : j = k
            · rw [e]; exact HNK.out
            · exact HN.out j (by omega)⟩
          case measure => simp [intOf]; omega
    · obtain rfl : k = 64 := by omega
      go_wp2_with fail
      go_ret
      exact ⟨-1, rfl, rfl, .inr ⟨rfl, HN.out⟩⟩
theorem infoElem (P : Unit := ()) : (Try.prog.info? 3).map (fun i => (i.zero, i.size, i.bytes)) = some (some (.int .i64 0), 1, 8) := by kernel_rfl
set_option maxHeartbeats 1000000 in
theorem out_any {col : Nat → Nat} {R : Nat} {L : Nat → List Int} (n : Int) (w : World) (h : RefL col R L w) (hl : ∀ k, k < 64 → (L k).length ≤ 1000) {k : Nat} (hk : k < 64) (hm : n ∈ L k) (hone : ∀ j, j < k → n ∉ L j) :
    Calls Try.prog 11 #[.pointer (some ⟨R, 0, none⟩), .int .i64 n] w fun e w' => e = .returned (.tuple #[]) ∧ (∃ col', Recol w.heap.size col col' ∧ RefL col' R (upd L k (wo n (L k))) w' ∧ ∀ x, w.heap.size ≤ x → col' x = 10 + k) ∧ Kept (fun x => x = R) w w' := by
  obtain ⟨j0, hj, hj0, hj1, hj2⟩ := info_parts (infoElem)
  have H := Lib.hid h
  have HL := Lib.hid hl
  have HM := Lib.hid hm
  have HO := Lib.hid hone
  obtain ⟨a, cap, c1, f1, o1, hq⟩ := h.slot hk
  have hlen := hl k hk
  have HQ := Lib.hid hq
  have O1 := Lib.hid o1
  have hRl := h.lt
  clear h hl hm hone hq o1
  go_enter Try.func11, Try.ntmps11
  go_wp2_with fail
  refine (of_any n w H.out HL.out).mono ?_
  rintro e w1 ⟨z, rfl, rfl, hz⟩
  obtain rfl : z = k := by
    rcases hz with ⟨j, hj9, rfl, hmj, hlj⟩ | ⟨_, hno⟩
    · by_cases e : j < k
      · exact absurd hmj (HO.out j e)
      · by_cases e2 : k < j
        · exact absurd HM.out (hlj k e2)
        · omega
    · exact absurd HM.out (hno k hk)
  clear hz
  go_wp2_with fail
  go_loopw [5, 6] (fun ov i wr => ∃ q : Nat, q ≤ (L k).length ∧ i = .int .i64 q ∧ wr.ownsRow w.heap.size 3 1 ov (wo n ((L k).take q)).length (irow (wo n ((L k).take q))) ∧ Still w wr) (fun _ i _ => (L k).length - (intOf i).toNat)
  case atStart => exact ⟨0, Nat.zero_le _, rfl, World.ownsRow_nil _ _ _ _, still_refl w⟩
  case round =>
    obtain ⟨q, hq, rfl, ho, hst⟩ := hrel
    have HO2 := Lib.hid ho
    have hz := hst.size
    have c1' : wr.cell? ⟨R, k, none⟩ = some (.slice a (L k).length cap) := (World.cell?_of_block (a := ⟨R, k, none⟩) (hst.block R hRl (fun f => f))).trans c1
    have HST := Lib.hid hst
    have hfl : (wo n ((L k).take q)).length ≤ 1000 := Nat.le_trans (wo_len _ _) (by rw [List.length_take]; omega)
    clear ho hst
    by_cases hql : q < (L k).length
    · obtain ⟨z, hz9⟩ : ∃ z, (L k)[q]? = some z := ⟨_, List.getElem?_eq_getElem hql⟩
      obtain ⟨g, rfl, c2, hgl, _⟩ := HQ.out q z hz9
      have c2' : wr.cell? ⟨g, q, none⟩ = some (.int .i64 z) := (World.cell?_of_block (a := ⟨g, q, none⟩) (HST.out.block g hgl (fun f => f))).trans c2
      have htk : (L k).take (q + 1) = (L k).take q ++ [z] := by rw [List.take_succ_eq_append_getElem hql]; rw [List.getElem?_eq_getElem hql] at hz9; cases hz9; rfl
      have HTK := Lib.hid htk
      clear hz9 htk c1 c2
      obtain ⟨F, hF⟩ : ∃ F, F = wo n ((L k).take q) := ⟨_, rfl⟩
      rw [← hF] at HO2 hfl
      have HF := Lib.hid hF
      clear hF
      by_cases e : z = n
      · subst e
        go_wp2_with fail
        go_roundw
        case rel =>
          refine ⟨q + 1, by omega, by go_num, ?_, HST.out⟩
          rw [HTK.out, wo_out, ← HF.out]
          exact HO2.out
        case measure => simp [intOf]; omega
      · have hb : (z == n) = false := by rw [beq_eq_false_iff_ne]; exact e
        have hb2 : (z != n) = true := by rw [bne_iff_ne]; exact e
        have HE := Lib.hid e
        have hoa : (wr.alloc (.cells #[.int .i64 z] 3)).ownsRow w.heap.size 3 1 u5 F.length (irow F) := owns_kept2 HO2.out ((Kept.refl (fun _ => False) _).alloc _) (fun _ _ f => f)
        have hbz : w.heap.size ≤ (wr.alloc (.cells #[.int .i64 z] 3)).heap.size := by simp; omega
        clear e
        go_wp2_with (first | (at_builtin; refine wpList_append _ rfl _ _ 32 rfl w.heap.size 3 j0 (.int .i64 0) 1 8 Try.underlying32 hj hj0 hj1 hj2 rfl (by decide) _ _ _ rfl (hoa) ⟨wr.heap.size, 0, none⟩ 1 1 [.int .i64 z] rfl rfl (by intro j u hj; match j, hj with | 0, hj => simp at hj; subst hj; first | (simp [Addr.add]; done) | exact (Blk.newAt _ _ _ (by simp)).cell 0) (by intro u hu; simp at hu; subst hu; rfl) (by unfold maxLen; omega) (by omega) (by first | omega | (simp; omega) | simp) ?_) | fail)
        intro ov w3 hap
        have k3 : Still w w3 := HST.out.step (hap.kept (S := fun y => w.heap.size ≤ y) (Kept.refl _ wr) (fun b _ hb => owns_block hoa b hb)) (fun i hi h => by omega)
        have K3 := Lib.hid k3
        have R3 := Lib.hid hap.owns
        clear hap hoa k3
        go_wp2_with fail
        go_roundw
        case rel =>
          refine ⟨q + 1, by omega, by go_num, ?_, K3.out⟩
          rw [HTK.out, wo_in _ _ _ HE.out, ← HF.out, irow_snoc, List.length_append]
          exact R3.out
        case measure => simp [intOf]; omega
    · obtain rfl : q = (L k).length := by omega
      have ho := HO2.out
      rw [List.take_of_length_le (Nat.le_refl _)] at ho
      have HOE := Lib.hid ho
      have f2 : wr.frozen? ⟨R, k, none⟩ = false := by
        obtain ⟨c, vs, b, _⟩ := (H.out.still HST.out).blk
        exact b.free k
      obtain ⟨oa, oc, rfl⟩ := owns_slice ho
      clear ho
      go_wp2_with fail
      go_end0
      have rc := recol_ext col w.heap.size (10 + k)
      obtain ⟨p1, p2⟩ := H.out.put hk (v := .slice oa _ oc) (l := wo n (L k)) rc (HST.out.mono (fun _ _ f => f.elim)) ⟨owns_mono HOE.out (Nat.zero_le _), fun g hg => ext_new col (owns_block HOE.out g hg)⟩
      exact ⟨rfl, ⟨_, rc, p1, fun x hx => ext_new col hx⟩, Kept.setCell (S := fun x => x = R) (HST.out.mono (fun _ _ f => f.elim)) (fun _ => rfl) _⟩
theorem psm_is (f : Nat → Nat) (q : Nat) : ∃ n, n = ((List.range q).map f).sum := ⟨_, rfl⟩
noncomputable def psm (f : Nat → Nat) (q : Nat) : Nat := Classical.choose (psm_is f q)
theorem psm_eq (f : Nat → Nat) (q : Nat) : psm f q = ((List.range q).map f).sum := Classical.choose_spec (psm_is f q)
theorem psm_zero (f : Nat → Nat) : psm f 0 = 0 := psm_eq f 0
theorem psm_all (f : Nat → Nat) : psm f 64 = tot f := by rw [psm_eq, tot_eq]
theorem psm_succ (f : Nat → Nat) (q : Nat) : psm f (q + 1) = psm f q + f q := by simp [psm_eq, List.range_succ]
/-- the bits of the slots from k on -/
def BitsFrom (L : Nat → List Int) (k m : Nat) : Prop := m < 2 ^ (64 - k) ∧ ∀ j, j < 64 - k → m.testBit j = decide (L (k + j) ≠ [])
theorem BitsFrom.start (L : Nat → List Int) : BitsFrom L 64 0 := ⟨by omega, fun j hj => absurd hj (by omega)⟩
theorem BitsFrom.down {L : Nat → List Int} {k m : Nat} (h : BitsFrom L (k + 1) m) (hk : k < 64) (b : Nat) (hb : b = if L k ≠ [] then 1 else 0) : BitsFrom L k (m * 2 + b) := by
  have hb1 : b ≤ 1 := by rw [hb]; split <;> omega
  refine ⟨?_, fun j hj => ?_⟩
  · have h1 := h.1
    have e : 2 ^ (64 - k) = 2 ^ (64 - (k + 1)) * 2 := by rw [← Nat.pow_succ]; congr 1; omega
    rw [e]; omega
  · cases j with
    | zero =>
      rw [Nat.testBit_zero, Nat.add_zero, decide_eq_decide, hb]
      split <;> rename_i h9 <;> simp [h9]
    | succ j =>
      rw [Nat.testBit_succ, show (m * 2 + b) / 2 = m by omega, h.2 j (by omega), show k + 1 + j = k + (j + 1) by omega]
theorem BitsFrom.small {L : Nat → List Int} {k m : Nat} (h : BitsFrom L (k + 1) m) : m < 9223372036854775808 := by
  have h1 := h.1
  have : 2 ^ (64 - (k + 1)) ≤ 2 ^ 63 := Nat.pow_le_pow_right (by omega) (by omega)
  omega
set_option maxHeartbeats 1000000 in
theorem map_any {col : Nat → Nat} {R : Nat} {L : Nat → List Int} (w : World) (h : RefL col R L w) (hl : tot (fun k => (L k).length) ≤ 100000) :
    Calls Try.prog 15 #[.pointer (some ⟨R, 0, none⟩)] w fun e w' => ∃ m : Nat, e = .returned (.tuple #[.int .u64 m, .int .i64 (tot fun k => (L k).length)]) ∧ w = w' ∧ BitsFrom L 0 m := by
  have H := Lib.hid h
  clear h
  go_enter Try.func15, Try.ntmps15
  go_wp2_with fail
  go_loopw [4, 5, 6] (fun mv nv i wr => ∃ k m n : Nat, k ≤ 64 ∧ i = .int .i64 ((k : Int) - 1) ∧ mv = .int .u64 m ∧ nv = .int .i64 n ∧ n + psm (fun k => (L k).length) k = tot (fun k => (L k).length) ∧ BitsFrom L k m ∧ wr = w) (fun _ _ i _ => (intOf i + 1).toNat)
  case atStart => exact ⟨64, 0, 0, Nat.le_refl _, rfl, rfl, rfl, by rw [psm_all]; omega, BitsFrom.start L, rfl⟩
  case round =>
    obtain ⟨k, m, n, hk, rfl, rfl, rfl, hn, hb, rfl⟩ := hrel
    have HN := Lib.hid hn
    have HBt := Lib.hid hb
    clear hn hb
    cases k with
    | zero =>
      have hn0 : n = tot (fun k => (L k).length) := by have := HN.out; rw [psm_zero] at this; omega
      have HN0 := Lib.hid hn0
      clear hn0
      go_wp2_with fail
      go_ret2
      exact ⟨m, by rw [HN0.out]; rfl, rfl, HBt.out⟩
    | succ k =>
      rw [show (((k + 1 : Nat) : Int) - 1) = (k : Int) by omega]
      have hkl : k < 64 := by omega
      have hms := HBt.out.small
      obtain ⟨a, cap, c1, f1, o1, hq⟩ := H.out.slot hkl
      have hps := psm_succ (fun k => (L k).length) k
      have hnl : n + (L k).length ≤ 100000 := by have := HN.out; rw [hps] at this; omega
      have HPS := Lib.hid hps
      have hlk : ((L k ≠ []) ↔ 0 < (L k).length) := List.length_pos_iff.symm
      have HLK := Lib.hid hlk
      clear hq o1 f1 hps hlk
      by_cases hp : 0 < (L k).length
      · go_wp2_with fail
        go_roundw
        case rel => exact ⟨k, m * 2 + 1, n + (L k).length, by omega, by go_num, by go_num, by go_num, by rw [Nat.add_assoc, Nat.add_comm (L k).length, ← HPS.out]; exact HN.out, HBt.out.down hkl 1 (by rw [if_pos (HLK.out.2 hp)]), (by first | rfl | trivial)⟩
        case measure => simp [intOf]
      · go_wp2_with fail
        go_roundw
        case rel => exact ⟨k, m * 2, n + (L k).length, by omega, by go_num, by go_num, by go_num, by rw [Nat.add_assoc, Nat.add_comm (L k).length, ← HPS.out]; exact HN.out, HBt.out.down hkl 0 (by rw [if_neg (fun h9 => hp (HLK.out.1 h9))]), (by first | rfl | trivial)⟩
        case measure => simp [intOf]
end Go.Proofs.Ytpkjhpfmikamkaa
