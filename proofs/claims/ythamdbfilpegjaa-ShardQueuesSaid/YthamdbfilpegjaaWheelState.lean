/-
  What stands here: what a wheel holds. Under no condition.
-/
import Derived.Test.YthamdbfilpegjaaLevelNew
import Derived.Test.YthamdbfilpegjaaWheelLaw
namespace Go.Proofs.Ythamdbfilpegjaa
set_option linter.unusedVariables false
set_option linter.unusedSimpArgs false
open Go.RowKit Go.Proofs

theorem StayB.stil {ds : List Nat} {w0 w w' : World} (h : StayB ds w0 w) (c : CellsB ds w0) (k : Still w w') : StayB ds w0 w' := fun b hb => by
  have hlt : b < w.heap.size := by
    have h0 := h b hb
    rcases c b hb with ⟨x, t, f, e⟩ | ⟨x, t, e⟩
    · exact lt_of_block (h0.trans e)
    · exact lt_of_block (h0.trans e)
  exact (k.block b hlt (fun f => f)).trans (h b hb)
/-- a wheel, plainly: its time, the entries of each place (64 places a level, then what lies beyond), of each entry its node, its deadline, its value, and what it says of its level, its slot and its node -/
structure WSt where
  now : Nat
  pl : Nat → List Nat
  node : Nat → Nat
  due : Nat → Nat
  dl : Nat → Value
  val : Nat → Nat → Value
  lev : Nat → Int
  slot : Nat → Int
  nv : Nat → Value
/-- where an entry is placed -/
def placeOf (l s : Nat) : Nat := if l < 4 then l * 64 + s else 256
abbrev ptrN (x : Nat) : Value := .pointer (some ⟨x, 0, none⟩)
/-- the lists of all places -/
def lq (sl : Nat → Nat → Nat) (bd : Nat) (q : Nat) : Nat := if q < 256 then sl (q / 64) (q % 64) else bd
/-- how many entries there are -/
theorem all_is (f : Nat → List Nat) : ∃ n, n = ((List.range 257).map fun q => (f q).length).sum := ⟨_, rfl⟩
noncomputable def nAll (f : Nat → List Nat) : Nat := Classical.choose (all_is f)
theorem nAll_eq (f : Nat → List Nat) : nAll f = ((List.range 257).map fun q => (f q).length).sum := Classical.choose_spec (all_is f)
theorem nAll_one {f g : Nat → List Nat} {q : Nat} (hq : q < 257) (h : ∀ x, x < 257 → x ≠ q → f x = g x) : nAll f + (g q).length = nAll g + (f q).length := by
  rw [nAll_eq, nAll_eq]
  exact sum_one (f := fun q => (f q).length) (g := fun q => (g q).length) _ List.nodup_range (fun x hx hne => by rw [h x (List.mem_range.1 hx) hne]) (List.mem_range.2 hq)
theorem lq_lev (sl : Nat → Nat → Nat) (bd : Nat) {l k : Nat} (hl : l < 4) (hk : k < 64) : lq sl bd (l * 64 + k) = sl l k := by
  unfold lq; rw [if_pos (by omega), show (l * 64 + k) / 64 = l by omega, show (l * 64 + k) % 64 = k by omega]
theorem lq_bd (sl : Nat → Nat → Nat) (bd : Nat) : lq sl bd 256 = bd := rfl
theorem le_nAll (f : Nat → List Nat) {q : Nat} (hq : q < 257) : (f q).length ≤ nAll f := by
  have h := nAll_one (f := upd f q []) (g := f) hq (fun x _ hx => upd_ne _ _ hx)
  rw [upd_same] at h
  simp only [List.length_nil] at h
  omega
theorem tot_nAll (f : Nat → List Nat) {l : Nat} (hl : l < 4) : tot (fun k => (f (l * 64 + k)).length) ≤ nAll f := by
  rw [tot_eq, nAll_eq, show (257 : Nat) = l * 64 + (64 + (257 - l * 64 - 64)) by omega, List.range_add, List.map_append, List.sum_append, List.range_add, List.map_append, List.map_append, List.sum_append, List.map_map]
  have : ((fun q => (f q).length) ∘ fun x => l * 64 + x) = fun k => (f (l * 64 + k)).length := rfl
  rw [this]
  omega
theorem nAll_put (f : Nat → List Nat) {q : Nat} (hq : q < 257) (e : Nat) : nAll (putAt f q e) = nAll f + 1 := by
  have h := nAll_one (f := putAt f q e) (g := f) hq (fun x _ hx => upd_ne _ _ hx)
  rw [show putAt f q e q = f q ++ [e] from upd_same _ _ _, List.length_append, List.length_singleton] at h
  omega
theorem nAll_upd (f : Nat → List Nat) {q : Nat} (hq : q < 257) (xs : List Nat) : nAll (upd f q xs) + (f q).length = nAll f + xs.length := by
  have h := nAll_one (f := upd f q xs) (g := f) hq (fun x _ hx => upd_ne _ _ hx)
  rwa [upd_same] at h
theorem nAll_all (due : Nat → Nat) (now : Nat) : ∀ (es : List Nat) (pl : Nat → List Nat), nAll (plAll due now pl es) = nAll pl + es.length
  | [], pl => rfl
  | e :: es, pl => by
    show nAll (plAll due now (putAt pl (plc (due e) now) e) es) = _
    rw [nAll_all due now es, nAll_put _ (plc_lt _ _), List.length_cons]; omega
theorem nAll_agn (due : Nat → Nat) (now q : Nat) (hq : q < 257) (pl : Nat → List Nat) : nAll (agn due now q pl) = nAll pl := by
  unfold agn
  rw [nAll_all]
  have := nAll_upd pl hq []
  simpa using this
theorem nAll_stg (due : Nat → Nat) (now : Nat) (pl : Nat → List Nat) : ∀ j, nAll (stg due now pl j) = nAll pl
  | 0 => rfl
  | j + 1 => by
    show nAll (if tkd now (4 - j) then _ else _) = _
    split
    · rw [nAll_agn _ _ _ (tkp_lt _ _)]; exact nAll_stg due now pl j
    · exact nAll_stg due now pl j
/-- an entry's cells -/
abbrev ecl_t (dl : Value) (val : Nat → Value) (due : Nat) (home : Value) (lev slot : Int) (nv : Value) : Array Value := #[dl, val 0, val 1, val 2, val 3, val 4, .int .u64 due, home, .int .i64 lev, .int .i64 slot, nv]
/-- an entry's block -/
def EB_t (S : WSt) (W : World) (e : Nat) (home : Value) : Prop := Blk W e (ecl_t (S.dl e) (S.val e) (S.due e) home (S.lev e) (S.slot e) (S.nv e)) 105
/-- a wheel: its block, its levels, its lists, its entries; L: entries that hang, that is: they say that they are the wheel's, and stand nowhere; n: what it says of its number -/
structure WB_t (s : LS) (v : Nat) (lv : Nat → Nat) (sl : Nat → Nat → Nat) (bd : Nat) (S : WSt) (L : List Nat) (n : Nat) (W : World) : Prop where
  kv : s.kd v = 5
  blk : Blk W v #[.int .u64 S.now, ptrN (lv 0), ptrN (lv 1), ptrN (lv 2), ptrN (lv 3), ptrN bd, .int .i64 n] 101
  now : S.now < 18446744073709551616
  lw : LW_t s W
  lev : ∀ i, i < 4 → LvB_t s (lv i) (sl i) W
  linj : ∀ i j, i < 4 → j < 4 → lv i = lv j → i = j
  kl : ∀ q, q < 257 → s.kd (lq sl bd q) = 1
  inj : ∀ q r, q < 257 → r < 257 → lq sl bd q = lq sl bd r → q = r
  sq : ∀ q, q < 257 → s.sq (lq sl bd q) = (S.pl q).map S.node
  ent : ∀ q e, q < 257 → e ∈ S.pl q → s.kd e = 6 ∧ EB_t S W e (ptrN v) ∧ s.kd (S.node e) = 2 ∧ (s.nd (S.node e)).val = ptrN e ∧ 0 ≤ S.lev e ∧ (q = 256 → 4 ≤ S.lev e) ∧ (q < 256 → (q : Int) = S.lev e * 64 + S.slot e ∧ 0 ≤ S.slot e ∧ S.slot e < 64) ∧ S.due e < 18446744073709551616 ∧ S.nv e = ptrN (S.node e)
  one : ∀ q r e, q < 257 → r < 257 → e ∈ S.pl q → e ∈ S.pl r → q = r
  nodup : ∀ q, q < 257 → (S.pl q).Nodup
  hang : ∀ e, e ∈ L → s.kd e = 6 ∧ EB_t S W e (ptrN v) ∧ S.due e < 18446744073709551616 ∧ ∀ q, q < 257 → e ∉ S.pl q
  hnd : L.Nodup
  out : ∀ e, s.kd e = 6 → (∃ q, q < 257 ∧ e ∈ S.pl q) ∨ e ∈ L ∨ EB_t S W e (.pointer none)
section
variable {s : LS} {v : Nat} {lv : Nat → Nat} {sl : Nat → Nat → Nat} {bd : Nat} {S : WSt} {L : List Nat} {n : Nat} {W : World}
theorem LW_t.lt {s : LS} {W : World} (h : LW_t s W) {x : Nat} (hx : s.kd x ≠ 0) : x < W.heap.size := by
  rcases Nat.lt_or_ge x W.heap.size with h1 | h1
  · exact h1
  · exact absurd (h.fresh x h1) hx
theorem WB_t.kept (h : WB_t s v lv sl bd S L n W) {T : Nat → Prop} {W' : World} (k : Kept T W W') (hT : ∀ y, s.kd y ≠ 0 → ¬ T y) : WB_t s v lv sl bd S L n W' where
  kv := h.kv
  blk := h.blk.kept k (hT v (by rw [h.kv]; decide))
  now := h.now
  lw := h.lw.kept k hT
  lev := fun i hi => (h.lev i hi).carry k (hT (lv i) (by rw [(h.lev i hi).kv]; decide)) rfl (fun _ _ => rfl) (fun _ _ => rfl)
  linj := h.linj
  kl := h.kl
  inj := h.inj
  sq := h.sq
  ent := fun q e hq he => by
    obtain ⟨h1, h2, h3⟩ := h.ent q e hq he
    exact ⟨h1, Blk.kept h2 k (hT e (by rw [h1]; decide)), h3⟩
  one := h.one
  nodup := h.nodup
  hang := fun e he => by
    obtain ⟨h1, h2, h3⟩ := h.hang e he
    exact ⟨h1, Blk.kept h2 k (hT e (by rw [h1]; decide)), h3⟩
  hnd := h.hnd
  out := fun e he => by
    rcases h.out e he with h1 | h1 | h1
    · exact .inl h1
    · exact .inr (.inl h1)
    · exact .inr (.inr (Blk.kept h1 k (hT e (by rw [he]; decide))))
theorem WB_t.still (h : WB_t s v lv sl bd S L n W) {W' : World} (k : Still W W') : WB_t s v lv sl bd S L n W' := h.kept k (fun _ _ f => f)
theorem WB_t.len (h : WB_t s v lv sl bd S L n W) {q : Nat} (hq : q < 257) : (s.sq (lq sl bd q)).length = (S.pl q).length := by rw [h.sq q hq, List.length_map]
theorem WB_t.tot (h : WB_t s v lv sl bd S L n W) {l : Nat} (hl : l < 4) : tot (fun k => (s.sq (sl l k)).length) ≤ nAll S.pl := by
  refine Nat.le_trans (Nat.le_of_eq (tot_congr fun k hk => ?_)) (tot_nAll S.pl hl)
  rw [← lq_lev sl bd hl hk, h.len (by omega)]
end

end Go.Proofs.Ythamdbfilpegjaa
