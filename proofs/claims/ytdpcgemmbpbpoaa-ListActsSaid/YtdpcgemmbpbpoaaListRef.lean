/-
  What stands here: the document's lists, and what its functions answer. Under no condition but that the world holds it.
-/
import Derived.Test.YtdpcgemmbpbpoaaListCol
import Derived.Deep.CutRange
import Derived.Deep.CutBlock
namespace Go.Proofs.Ytdpcgemmbpbpoaa
set_option linter.unusedVariables false
set_option linter.unusedSimpArgs false
open Go.RowKit Go.Proofs

def irow (l : List Int) : List Value := l.map (.int .i64)
theorem irow_len (l : List Int) : (irow l).length = l.length := List.length_map ..
theorem irow_at {l : List Int} {q : Nat} {z : Int} (h : l[q]? = some z) : (irow l)[q]? = some (.int .i64 z) := by unfold irow; rw [List.getElem?_map, h]; rfl
theorem irow_snoc (l : List Int) (z : Int) : irow (l ++ [z]) = irow l ++ [.int .i64 z] := by simp [irow]
/-- a row without a number -/
def wo (n : Int) (l : List Int) : List Int := l.filter fun z => decide (z ≠ n)
theorem wo_in (n z : Int) (l : List Int) (h : z ≠ n) : wo n (l ++ [z]) = wo n l ++ [z] := by unfold wo; rw [List.filter_append]; congr 1; simp [h]
theorem wo_out (n : Int) (l : List Int) : wo n (l ++ [n]) = wo n l := by unfold wo; rw [List.filter_append]; simp
theorem wo_len (n : Int) (l : List Int) : (wo n l).length ≤ l.length := List.length_filter_le _ _
theorem owns_mono {w : World} {base base' : Nat} {e : TypeId} {sz : Nat} {v : Value} {n : Nat} {xs : List Value} (h : w.ownsRow base e sz v n xs) (hb : base' ≤ base) : w.ownsRow base' e sz v n xs := by
  obtain ⟨hl, h | ⟨g, cap, cur, rfl, hg, h⟩⟩ := h
  · exact ⟨hl, .inl h⟩
  · exact ⟨hl, .inr ⟨g, cap, cur, rfl, Nat.le_trans hb hg, h⟩⟩
/-- the document's level: a block of slices, each with a block of its own -/
structure RefL (col : Nat → Nat) (R : Nat) (L : Nat → List Int) (W : World) : Prop where
  cR : col R = 9
  blk : ∃ (c : Array Value) (vs : Nat → Value), Blk W R c 43 ∧ c.size = 4 ∧ (∀ k, k < 4 → c[k]? = some (vs k)) ∧ ∀ k, k < 4 → Owns col (10 + k) W 3 1 (vs k) (L k).length (irow (L k))
section
variable {col : Nat → Nat} {R : Nat} {L : Nat → List Int} {W : World}
theorem RefL.lt (h : RefL col R L W) : R < W.heap.size := by obtain ⟨c, vs, b, _⟩ := h.blk; exact b.lt
theorem RefL.kept (h : RefL col R L W) {S : Nat → Prop} {W' : World} (k : Kept S W W') (hS : ∀ x, x < W.heap.size → (col x = 9 ∨ (10 ≤ col x ∧ col x < 14)) → ¬ S x) : RefL col R L W' := by
  obtain ⟨c, vs, b, hs, hc, ho⟩ := h.blk
  exact ⟨h.cR, c, vs, b.kept k (hS R b.lt (.inl h.cR)), hs, hc, fun j hj => (ho j hj).kept k (fun x hx e => hS x hx (.inr (by omega)))⟩
theorem RefL.recol (h : RefL col R L W) {col' : Nat → Nat} (rc : Recol W.heap.size col col') : RefL col' R L W := by
  obtain ⟨c, vs, b, hs, hc, ho⟩ := h.blk
  exact ⟨(rc R b.lt).trans h.cR, c, vs, b, hs, hc, fun j hj => (ho j hj).recol rc⟩
theorem RefL.go (h : RefL col R L W) {W' : World} {d : Nat} (k : Kept (fun x => col x = d) W W') (hd : d < 9 ∨ 14 ≤ d) : RefL (ext col W.heap.size d) R L W' :=
  (h.recol (recol_ext col _ d)).kept k (fun x hx e => by rw [recol_ext col _ d x hx] at e; omega)
theorem RefL.still (h : RefL col R L W) {W' : World} (k : Still W W') : RefL col R L W' := h.kept k (fun _ _ _ f => f)
theorem RefL.slot (h : RefL col R L W) {k : Nat} (hk : k < 4) : ∃ a cap, W.cell? ⟨R, k, none⟩ = some (.slice a (L k).length cap) ∧ W.frozen? ⟨R, k, none⟩ = false ∧ Owns col (10 + k) W 3 1 (.slice a (L k).length cap) (L k).length (irow (L k)) ∧ ∀ (q : Nat) (z : Int), (L k)[q]? = some z → ∃ g, a = some ⟨g, 0, none⟩ ∧ W.cell? ⟨g, q, none⟩ = some (.int .i64 z) ∧ g < W.heap.size ∧ ∃ c, Blk W g c 3 := by
  obtain ⟨c, vs, b, hs, hc, ho⟩ := h.blk
  obtain ⟨a, cap, e⟩ := owns_slice (ho k hk).1
  have h1 := ho k hk
  rw [e] at h1
  refine ⟨a, cap, (b.cell k).trans ((hc k hk).trans (by rw [e])), b.free k, h1, fun q z hz => ?_⟩
  obtain ⟨g, cap', cur, e2, _, hb, _, _, _, hcell, _⟩ := owns_one h1 (irow_at hz)
  simp only [Value.slice.injEq] at e2
  exact ⟨g, e2.1, hcell, hb.lt, cur, hb⟩
/-- a slot gets another row -/
theorem RefL.put (h : RefL col R L W) {k : Nat} (hk : k < 4) {col' : Nat → Nat} {W1 : World} {v : Value} {l : List Int} (rc : Recol W.heap.size col col') (k1 : Kept (fun x => col x = 10 + k) W W1) (hv : Owns col' (10 + k) W1 3 1 v l.length (irow l)) : RefL col' R (upd L k l) (W1.setCell ⟨R, k, none⟩ v) ∧ Kept (fun x => col x = 10 + k ∨ x = R) W (W1.setCell ⟨R, k, none⟩ v) := by
  obtain ⟨c, vs, b, hs, hc, ho⟩ := h.blk
  have hcR := h.cR
  have b1 := b.kept k1 (by omega)
  have hcR' : col' R = 9 := (rc R b.lt).trans h.cR
  refine ⟨⟨hcR', _, upd vs k v, b1.set k v, by simpa using hs, fun j hj => ?_, fun j hj => ?_⟩, Kept.setCell (k1.mono fun x _ e => .inl e) (fun _ => .inr rfl) _⟩
  · by_cases e : j = k
    · subst e; rw [upd_same, Array.getElem?_setIfInBounds_self_of_lt (by omega)]
    · rw [upd_ne _ _ e, Array.getElem?_setIfInBounds_ne (Ne.symm e)]; exact hc j hj
  · by_cases e : j = k
    · subst e; rw [upd_same, upd_same]; exact hv.set_other (by show col' R ≠ _; omega) v
    · rw [upd_ne _ _ e, upd_ne _ _ e]
      have h1 := ((ho j hj).recol rc).kept k1 (fun x hx e9 e8 => by rw [rc x hx] at e9; omega)
      exact h1.set_other (by show col' R ≠ _; omega) v
end
set_option maxHeartbeats 1000000 in
theorem of_any {col : Nat → Nat} {R : Nat} {L : Nat → List Int} (n : Int) (w : World) (h : RefL col R L w) (hl : ∀ k, k < 3 → (L k).length ≤ 1000) :
    Calls Try.prog 18 #[.pointer (some ⟨R, 0, none⟩), .int .i64 n] w fun e w' => ∃ z : Int, e = .returned (.int .i64 z) ∧ w = w' ∧ ((∃ k : Nat, k < 3 ∧ z = k ∧ n ∈ L k ∧ ∀ j, j < k → n ∉ L j) ∨ (z = -1 ∧ ∀ k, k < 3 → n ∉ L k)) := by
  have H := Lib.hid h
  have HL := Lib.hid hl
  clear h hl
  go_enter Try.func18, Try.ntmps18
  go_wp2_with fail
  go_loopw [5] (fun i wr => ∃ k : Nat, k ≤ 3 ∧ i = .int .i64 k ∧ wr = w ∧ ∀ j, j < k → n ∉ L j) (fun i _ => 3 - (intOf i).toNat)
  case atStart => exact ⟨0, Nat.zero_le _, rfl, rfl, fun j hj => absurd hj (by omega)⟩
  case round =>
    obtain ⟨k, hk, rfl, rfl, hno⟩ := hrel
    have HN := Lib.hid hno
    clear hno
    by_cases hkl : k < 3
    · obtain ⟨a, cap, c1, f1, o1, hq⟩ := H.out.slot (show k < 4 by omega)
      have HQ := Lib.hid hq
      have hlen := HL.out k hkl
      clear hq o1
      go_wp2_with fail
      go_loopw [6] (fun i w2 => ∃ q : Nat, q ≤ (L k).length ∧ i = .int .i64 q ∧ w2 = wr ∧ ∀ p z, p < q → (L k)[p]? = some z → z ≠ n) (fun i _ => (L k).length - (intOf i).toNat)
      case atStart => exact ⟨0, Nat.zero_le _, rfl, rfl, fun p z hp => absurd hp (by omega)⟩
      case round =>
        obtain ⟨q, hq, rfl, rfl, hne⟩ := hrel
        have HE := Lib.hid hne
        clear hne
        by_cases hql : q < (L k).length
        · obtain ⟨z, hz⟩ : ∃ z, (L k)[q]? = some z := ⟨_, List.getElem?_eq_getElem hql⟩
          obtain ⟨g, rfl, c2, _, _⟩ := HQ.out q z hz
          have HZ := Lib.hid hz
          clear hz
          by_cases e : z = n
          · subst e
            go_wp2_with fail
            go_ret
            exact ⟨k, rfl, rfl, .inl ⟨k, hkl, rfl, List.mem_of_getElem? HZ.out, HN.out⟩⟩
          · have hb : (z == n) = false := by rw [beq_eq_false_iff_ne]; exact e
            have HNe := Lib.hid e
            clear e
            go_wp2_with fail
            go_roundw
            case rel => exact ⟨q + 1, by omega, by go_num, (by first | rfl | trivial), fun p y hp hy => by
              by_cases e : p = q
              · rw [e, HZ.out] at hy; cases hy; exact HNe.out
              · exact HE.out p y (by omega) hy⟩
            case measure => simp [intOf]; omega
        · obtain rfl : q = (L k).length := by omega
          have hnk : n ∉ L k := fun hm => by
            obtain ⟨p, hp, e⟩ := List.mem_iff_getElem.1 hm
            exact HE.out p n hp (by rw [List.getElem?_eq_getElem hp, e]) rfl
          have HNK := Lib.hid hnk
          clear hnk
          go_wp2_with fail
          go_roundw
          case rel => exact ⟨k + 1, by omega, by go_num, (by first | rfl | trivial), fun j hj => by
            by_cases e : j = k
            · rw [e]; exact HNK.out
            · exact HN.out j (by omega)⟩
          case measure => simp [intOf]; omega
    · obtain rfl : k = 3 := by omega
      go_wp2_with fail
      go_ret
      exact ⟨-1, rfl, rfl, .inr ⟨rfl, HN.out⟩⟩
theorem infoElem (P : Unit := ()) : (Try.prog.info? 3).map (fun i => (i.zero, i.size, i.bytes)) = some (some (.int .i64 0), 1, 8) := by kernel_rfl
set_option maxHeartbeats 1000000 in
theorem out_any {col : Nat → Nat} {R : Nat} {L : Nat → List Int} (n : Int) (w : World) (h : RefL col R L w) (hl : ∀ k, k < 4 → (L k).length ≤ 1000) {k : Nat} (hk : k < 3) :
    Calls Try.prog 19 #[.pointer (some ⟨R, 0, none⟩), .int .i64 (k : Int), .int .i64 n] w fun e w' => e = .returned (.tuple #[]) ∧ (∃ col', Recol w.heap.size col col' ∧ RefL col' R (upd L k (wo n (L k))) w' ∧ ∀ x, w.heap.size ≤ x → col' x = 10 + k) ∧ Kept (fun x => x = R) w w' := by
  obtain ⟨j0, hj, hj0, hj1, hj2⟩ := info_parts (infoElem)
  have H := Lib.hid h
  have HL := Lib.hid hl
  obtain ⟨a, cap, c1, f1, o1, hq⟩ := h.slot (show k < 4 by omega)
  have hlen := hl k (by omega)
  have HQ := Lib.hid hq
  have O1 := Lib.hid o1
  have hRl := h.lt
  clear h hl hq o1
  go_enter Try.func19, Try.ntmps19
  go_wp2_with fail
  go_loopw [6, 7] (fun ov i wr => ∃ q : Nat, q ≤ (L k).length ∧ i = .int .i64 q ∧ wr.ownsRow w.heap.size 3 1 ov (wo n ((L k).take q)).length (irow (wo n ((L k).take q))) ∧ Still w wr) (fun _ i _ => (L k).length - (intOf i).toNat)
  case atStart => exact ⟨0, Nat.zero_le _, rfl, World.ownsRow_nil _ _ _ _, still_refl w⟩
  case round =>
    obtain ⟨q, hq, rfl, ho, hst⟩ := hrel
    have HO2 := Lib.hid ho
    have hz := hst.size
    have c1' : wr.cell? ⟨R, k, none⟩ = some (.slice a (L k).length cap) := (World.cell?_of_block (a := ⟨R, k, none⟩) (hst.block R hRl (fun f => f))).trans c1
    have HST := Lib.hid hst
    have hfl : (wo n ((L k).take q)).length ≤ 1000 := Nat.le_trans (wo_len _ _) (by rw [List.length_take]; omega)
    clear ho hst
    by_cases hql : q < (L k).length
    · obtain ⟨z, hz9⟩ : ∃ z, (L k)[q]? = some z := ⟨_, List.getElem?_eq_getElem hql⟩
      obtain ⟨g, rfl, c2, hgl, _⟩ := HQ.out q z hz9
      have c2' : wr.cell? ⟨g, q, none⟩ = some (.int .i64 z) := (World.cell?_of_block (a := ⟨g, q, none⟩) (HST.out.block g hgl (fun f => f))).trans c2
      have htk : (L k).take (q + 1) = (L k).take q ++ [z] := by rw [List.take_succ_eq_append_getElem hql]; rw [List.getElem?_eq_getElem hql] at hz9; cases hz9; rfl
      have HTK := Lib.hid htk
      clear hz9 htk c1 c2
      obtain ⟨F, hF⟩ : ∃ F, F = wo n ((L k).take q) := ⟨_, rfl⟩
      rw [← hF] at HO2 hfl
      have HF := Lib.hid hF
      clear hF
      by_cases e : z = n
      · subst e
        go_wp2_with fail
        go_roundw
        case rel =>
          refine ⟨q + 1, by omega, by go_num, ?_, HST.out⟩
          rw [HTK.out, wo_out, ← HF.out]
          exact HO2.out
        case measure => simp [intOf]; omega
      · have hb : (z == n) = false := by rw [beq_eq_false_iff_ne]; exact e
        have hb2 : (z != n) = true := by rw [bne_iff_ne]; exact e
        have HE := Lib.hid e
        have hoa : (wr.alloc (.cells #[.int .i64 z] 3)).ownsRow w.heap.size 3 1 u6 F.length (irow F) := owns_kept2 HO2.out ((Kept.refl (fun _ => False) _).alloc _) (fun _ _ f => f)
        have hbz : w.heap.size ≤ (wr.alloc (.cells #[.int .i64 z] 3)).heap.size := by simp; omega
        clear e
        go_wp2_with (first | (at_builtin; refine wpList_append _ rfl _ _ 26 rfl w.heap.size 3 j0 (.int .i64 0) 1 8 Try.underlying26 hj hj0 hj1 hj2 rfl (by decide) _ _ _ rfl (hoa) ⟨wr.heap.size, 0, none⟩ 1 1 [.int .i64 z] rfl rfl (by intro j u hj; match j, hj with | 0, hj => simp at hj; subst hj; first | (simp [Addr.add]; done) | exact (Blk.newAt _ _ _ (by simp)).cell 0) (by intro u hu; simp at hu; subst hu; rfl) (by unfold maxLen; omega) (by omega) (by first | omega | (simp; omega) | simp) ?_) | fail)
        intro ov w3 hap
        have k3 : Still w w3 := HST.out.step (hap.kept (S := fun y => w.heap.size ≤ y) (Kept.refl _ wr) (fun b _ hb => owns_block hoa b hb)) (fun i hi h => by omega)
        have K3 := Lib.hid k3
        have R3 := Lib.hid hap.owns
        clear hap hoa k3
        go_wp2_with fail
        go_roundw
        case rel =>
          refine ⟨q + 1, by omega, by go_num, ?_, K3.out⟩
          rw [HTK.out, wo_in _ _ _ HE.out, ← HF.out, irow_snoc, List.length_append]
          exact R3.out
        case measure => simp [intOf]; omega
    · obtain rfl : q = (L k).length := by omega
      have ho := HO2.out
      rw [List.take_of_length_le (Nat.le_refl _)] at ho
      have HOE := Lib.hid ho
      have f2 : wr.frozen? ⟨R, k, none⟩ = false := by
        obtain ⟨c, vs, b, _⟩ := (H.out.still HST.out).blk
        exact b.free k
      obtain ⟨oa, oc, rfl⟩ := owns_slice ho
      clear ho
      go_wp2_with fail
      go_end0
      have rc := recol_ext col w.heap.size (10 + k)
      obtain ⟨p1, p2⟩ := H.out.put (show k < 4 by omega) (v := .slice oa _ oc) (l := wo n (L k)) rc (HST.out.mono (fun _ _ f => f.elim)) ⟨owns_mono HOE.out (Nat.zero_le _), fun g hg => ext_new col (owns_block HOE.out g hg)⟩
      exact ⟨rfl, ⟨_, rc, p1, fun x hx => ext_new col hx⟩, Kept.setCell (S := fun x => x = R) (HST.out.mono (fun _ _ f => f.elim)) (fun _ => rfl) _⟩
/-- the values of numbers -/
def valsAt (V l : List Int) : List Int := l.map fun z => V.getD z.toNat 0
set_option maxHeartbeats 1000000 in
theorem refall_any {col : Nat → Nat} {R : Nat} {L : Nat → List Int} (w : World) (h : RefL col R L w) (hl : ∀ k, k < 4 → (L k).length ≤ 1000) {k : Nat} (hk : k < 3) (hd : ∀ z, z ∈ L k → 0 ≤ z ∧ z < (L 3).length) :
    Calls Try.prog 21 #[.pointer (some ⟨R, 0, none⟩), .int .i64 (k : Int)] w fun e w' => (∃ v, e = .returned v ∧ w'.ownsRow w.heap.size 3 1 v (valsAt (L 3) (L k)).length (irow (valsAt (L 3) (L k)))) ∧ Still w w' := by
  obtain ⟨j0, hj, hj0, hj1, hj2⟩ := info_parts (infoElem)
  obtain ⟨a, cap, c1, f1, o1, hq⟩ := h.slot (show k < 4 by omega)
  obtain ⟨a3, cap3, c3, f3, o3, hq3⟩ := h.slot (show 3 < 4 by omega)
  have hlen := hl k (by omega)
  have hlen3 := hl 3 (by omega)
  have HQ := Lib.hid hq
  have HQ3 := Lib.hid hq3
  have HD := Lib.hid hd
  have hRl := h.lt
  have CR := Lib.hid (cells_of_cell c1)
  clear h hl hq hq3 o1 o3 hd f1 f3
  go_enter Try.func21, Try.ntmps21
  go_wp2_with fail
  go_loopw [5, 6] (fun ov i wr => ∃ q : Nat, q ≤ (L k).length ∧ i = .int .i64 q ∧ wr.ownsRow w.heap.size 3 1 ov (valsAt (L 3) ((L k).take q)).length (irow (valsAt (L 3) ((L k).take q))) ∧ Still w wr) (fun _ i _ => (L k).length - (intOf i).toNat)
  case atStart => exact ⟨0, Nat.zero_le _, rfl, World.ownsRow_nil _ _ _ _, still_refl w⟩
  case round =>
    obtain ⟨q, hq, rfl, ho, hst⟩ := hrel
    have HO2 := Lib.hid ho
    have hz := hst.size
    have d1 : wr.cell? ⟨R, k, none⟩ = some (.slice a (L k).length cap) := (World.cell?_of_block (a := ⟨R, k, none⟩) (hst.block R hRl (fun f => f))).trans c1
    have d3 : wr.cell? ⟨R, 3, none⟩ = some (.slice a3 (L 3).length cap3) := (World.cell?_of_block (a := ⟨R, 3, none⟩) (hst.block R hRl (fun f => f))).trans c3
    have HST := Lib.hid hst
    have hfl : (valsAt (L 3) ((L k).take q)).length ≤ 1000 := by unfold valsAt; rw [List.length_map, List.length_take]; omega
    clear ho hst
    by_cases hql : q < (L k).length
    · obtain ⟨z, hz9⟩ : ∃ z, (L k)[q]? = some z := ⟨_, List.getElem?_eq_getElem hql⟩
      obtain ⟨e1, e2⟩ := HD.out z (List.mem_of_getElem? hz9)
      obtain ⟨m, rfl⟩ : ∃ m : Nat, z = m := ⟨z.toNat, by omega⟩
      have hm3 : m < (L 3).length := by omega
      obtain ⟨u, hu⟩ : ∃ u, (L 3)[m]? = some u := ⟨_, List.getElem?_eq_getElem hm3⟩
      obtain ⟨g, rfl, c2, hgl, _⟩ := HQ.out q m hz9
      obtain ⟨g3, rfl, c4, hgl3, _⟩ := HQ3.out m u hu
      have d2 : wr.cell? ⟨g, q, none⟩ = some (.int .i64 (m : Int)) := (World.cell?_of_block (a := ⟨g, q, none⟩) (HST.out.block g hgl (fun f => f))).trans c2
      have d4 : wr.cell? ⟨g3, m, none⟩ = some (.int .i64 u) := (World.cell?_of_block (a := ⟨g3, m, none⟩) (HST.out.block g3 hgl3 (fun f => f))).trans c4
      have CA := Lib.hid (cells_of_cell d1)
      have CB := Lib.hid (cells_of_cell d2)
      have CC := Lib.hid (cells_of_cell d4)
      have htk : valsAt (L 3) ((L k).take (q + 1)) = valsAt (L 3) ((L k).take q) ++ [u] := by
        rw [List.getElem?_eq_getElem hql] at hz9
        unfold valsAt
        rw [List.take_succ_eq_append_getElem hql, Option.some.inj hz9, List.map_append, List.map_singleton, Int.toNat_natCast, List.getD_eq_getElem?_getD, hu]; rfl
      have HTK := Lib.hid htk
      obtain ⟨F, hF⟩ : ∃ F, F = valsAt (L 3) ((L k).take q) := ⟨_, rfl⟩
      rw [← hF] at HO2 hfl
      have HF := Lib.hid hF
      clear hF htk hz9 hu c1 c3 c2 c4
      have hoa : ((wr.drewN 1).alloc (.cells #[.int .i64 u] 3)).ownsRow w.heap.size 3 1 u5 F.length (irow F) := owns_kept2 HO2.out (((Kept.refl (fun _ => False) _).drewN 1).alloc _) (fun _ _ f => f)
      have hbz : w.heap.size ≤ ((wr.drewN 1).alloc (.cells #[.int .i64 u] 3)).heap.size := by simp [World.drewN]; omega
      go_upto_region 5 with fail
      refine wp_region_text ([4], [9, 28]) [R, g, g3] (by kernel_rfl) (by kernel_rfl) (cellsB_cons CA.out (cellsB_cons CB.out (cellsB_cons CC.out cellsB_nil))) (by simp [segs, isEff, isLoad, askOps, asks, ptrEq, eqOrNe, isNil]; rfl) ?_
      refine segs_go stay_drew (by simp [isLoad]) ?_
      go_wp2_with fail
      refine segs_load stay_drew (fun _ => (by exact ⟨R, _, rfl, by simp⟩)) ?_
      go_wp2_with fail
      refine segs_load stay_drew (fun _ => (by exact ⟨R, _, rfl, by simp⟩)) ?_
      go_wp2_with fail
      refine segs_load stay_drew (fun _ => (by exact ⟨g, _, rfl, by simp⟩)) ?_
      go_wp2_with fail
      refine segs_load stay_drew (fun _ => (by exact ⟨g3, _, rfl, by simp⟩)) ?_
      go_wp2_with fail
      have hs4 : StayB [R, g, g3] wr (wr.drew.alloc (.cells #[.int .i64 u] 3)) := StayB.kept (w := wr.drew) stay_drew ((Kept.refl (fun _ => False) _).alloc _) (fun b hb => by
        simp only [List.mem_cons, List.not_mem_nil, or_false] at hb
        rcases hb with rfl | rfl | rfl
        · exact ⟨lt_of_cell d1, fun f => f⟩
        · exact ⟨lt_of_cell d2, fun f => f⟩
        · exact ⟨lt_of_cell d4, fun f => f⟩)
      refine segs_go hs4 (by simp [isLoad]) ?_
      go_wp2_with (first | (at_builtin; refine wpList_append _ rfl _ _ 26 rfl w.heap.size 3 j0 (.int .i64 0) 1 8 Try.underlying26 hj hj0 hj1 hj2 rfl (by decide) _ _ _ rfl (hoa) ⟨wr.drew.heap.size, 0, none⟩ 1 1 [.int .i64 u] rfl rfl (by intro j u hj; match j, hj with | 0, hj => simp at hj; subst hj; first | (simp [Addr.add]; done) | exact (Blk.newAt _ _ _ (by simp)).cell 0) (by intro u hu; simp at hu; subst hu; rfl) (by unfold maxLen; omega) (by omega) (by first | omega | (simp; omega) | simp) ?_) | fail)
      intro ov w3 hap
      have kk := (show Appended ((wr.drewN 1).alloc (.cells #[.int .i64 u] 3)) w3 _ _ _ _ _ _ _ from hap).kept (S := fun y => w.heap.size ≤ y) (Kept.refl _ _) (fun b _ hb => owns_block hoa b hb)
      have k3 : Still w w3 := (HST.out.drewN 1).step kk (fun i hi h => absurd h (by omega))
      have hs5 : StayB [R, g, g3] wr w3 := StayB.kept (w := (wr.drewN 1)) stay_drew kk (fun b hb => by
        simp only [List.mem_cons, List.not_mem_nil, or_false] at hb
        rcases hb with rfl | rfl | rfl
        · exact ⟨lt_of_cell d1, by omega⟩
        · exact ⟨lt_of_cell d2, by omega⟩
        · exact ⟨lt_of_cell d4, by omega⟩)
      have K3 := Lib.hid k3
      have R3 := Lib.hid hap.owns
      clear hap hoa kk k3
      go_wp2_with fail
      refine segs_go hs5 (by simp [isLoad]) ?_
      go_wp2_with fail
      refine segs_nil ?_
      go_wp2_with fail
      go_roundw
      case rel =>
        refine ⟨q + 1, by omega, by go_num, ?_, K3.out⟩
        rw [HTK.out, irow_snoc, List.length_append, ← HF.out]
        exact R3.out
      case measure => simp [intOf]; omega
    · obtain rfl : q = (L k).length := by omega
      have ho := HO2.out
      rw [List.take_of_length_le (Nat.le_refl _)] at ho
      have HOE := Lib.hid ho
      clear ho
      go_wp2_with fail
      go_ret
      exact ⟨⟨_, rfl, HOE.out⟩, HST.out⟩
end Go.Proofs.Ytdpcgemmbpbpoaa
