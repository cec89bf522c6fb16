/-
  What stands here: the least deadline of a shard; the least one of a list above a number. Under the condition that the library's table is as its initialiser lays it.
-/
import Derived.Test.YthamdbfilpegjaaDoorShardAlive
import Derived.Test.YthamdbfilpegjaaDoorWheelMin
namespace Go.Proofs.YthamdbfilpegjaaDoor
set_option linter.unusedVariables false
set_option linter.unusedSimpArgs false
open Go.RowKit Go.Proofs
set_option maxRecDepth 100000 in
theorem shnext {ls : LS} {v : Nat} {lv : Nat → Nat} {sl : Nat → Nat → Nat} {bd : Nat} {S : WSt} {s r l : Nat} {w W : World} (h : SX ls v lv sl bd S s r l w W) (hT : Tab W) (hbig : nAll S.pl < 80000) (hex : ∃ e, Stands S.pl e) :
    Calls Tryd.prog 11 #[.pointer (some ⟨s, 0, none⟩)] W fun e w' => ∃ L : Nat, e = .returned (.tuple #[.int .u64 (L : Int), .int .i64 0]) ∧ (∃ e, Stands S.pl e ∧ S.due e = L) ∧ (∀ e, Stands S.pl e → L ≤ S.due e) ∧ Below W.heap.size W w' := by
  have H := Lib.hid h
  have HT := Lib.hid hT
  have HB := Lib.hid hbig
  have HE := Lib.hid hex
  have hTl := hT.lt
  clear h hT hbig hex
  have hf2 := field2 (some ⟨r, 0, none⟩) (some ⟨l, 0, none⟩) (some ⟨v, 0, none⟩)
  go_enter Tryd.func11, Tryd.ntmps11
  go_wp2_with fail
  refine (parts_any s r l v W H.out.sh).mono ?_
  rintro e w1 ⟨rfl, k1⟩
  go_wp2_with fail
  refine (xnext_t (H.out.still k1).x (HT.out.below (below_still (Below.refl _ W) k1 (Nat.le_refl _)) hTl) HB.out HE.out).mono ?_
  rintro e w2 ⟨L, rfl, h1, h2, k2⟩
  have HF := Lib.hid (And.intro h1 h2)
  clear h1 h2
  go_wp2_with fail
  go_ret2
  exact ⟨L, rfl, HF.out.1, HF.out.2, (below_still (Below.refl _ W) k1 (Nat.le_refl _)).trans (k2.mono k1.size)⟩
set_option maxRecDepth 100000 in
theorem shnext_no {ls : LS} {v : Nat} {lv : Nat → Nat} {sl : Nat → Nat → Nat} {bd : Nat} {S : WSt} {s r l : Nat} {w W : World} (h : SX ls v lv sl bd S s r l w W) (hz : nAll S.pl = 0) :
    Calls Tryd.prog 11 #[.pointer (some ⟨s, 0, none⟩)] W fun e w' => e = .returned (.tuple #[.int .u64 0, .int .i64 6]) ∧ Still W w' := by
  have H := Lib.hid h
  have HZ := Lib.hid hz
  clear h hz
  have hf2 := field2 (some ⟨r, 0, none⟩) (some ⟨l, 0, none⟩) (some ⟨v, 0, none⟩)
  go_enter Tryd.func11, Tryd.ntmps11
  go_wp2_with fail
  refine (parts_any s r l v W H.out.sh).mono ?_
  rintro e w1 ⟨rfl, k1⟩
  have hwb := (H.out.still k1).x.wb
  rw [HZ.out] at hwb
  go_wp2_with fail
  refine (wnext_zero_t w1 hwb).mono ?_
  rintro e w2 ⟨rfl, rfl⟩
  go_wp2_with fail
  go_ret2
  exact ⟨rfl, k1⟩
/-- the least one above n -/
def lm (n : Nat) (D : List Nat) : Option Nat := D.foldl (fun a d => if n < d ∧ (a = none ∨ d < a.getD 0) then some d else a) none
theorem lm_snoc (n : Nat) (D : List Nat) (d : Nat) : lm n (D ++ [d]) = if n < d ∧ (lm n D = none ∨ d < (lm n D).getD 0) then some d else lm n D := by unfold lm; rw [List.foldl_append]; rfl
theorem lm_is (n : Nat) : ∀ (k : Nat) (D : List Nat), D.length = k → (lm n D = none → ∀ d, d ∈ D → d ≤ n) ∧ (∀ L, lm n D = some L → L ∈ D ∧ n < L ∧ ∀ d, d ∈ D → n < d → L ≤ d)
  | 0, D, h => by
    obtain rfl := List.eq_nil_of_length_eq_zero h
    exact ⟨fun _ d hd => (by cases hd), fun L hL => (by cases hL)⟩
  | k + 1, D, h => by
    obtain ⟨E, d, rfl⟩ : ∃ E d, D = E ++ [d] := ⟨D.dropLast, D.getLast (by intro e; rw [e] at h; cases h), (List.dropLast_concat_getLast _).symm⟩
    obtain ⟨h1, h2⟩ := lm_is n k E (by simp at h; exact h)
    rw [lm_snoc]
    constructor
    · split
      · intro h9; cases h9
      · rename_i hc
        intro h9 x hx
        rcases List.mem_append.1 hx with hx | hx
        · exact h1 h9 x hx
        · rw [List.mem_singleton.1 hx]
          exact Nat.le_of_not_lt fun h8 => hc ⟨h8, .inl h9⟩
    · intro L hL
      split at hL
      · rename_i hc
        obtain rfl := Option.some.inj hL
        refine ⟨by simp, hc.1, fun x hx hn => ?_⟩
        rcases List.mem_append.1 hx with hx | hx
        · rcases hc.2 with h9 | h9
          · have := h1 h9 x hx; omega
          · cases hE : lm n E with
            | none => have := h1 hE x hx; omega
            | some M =>
              rw [hE] at h9
              have := (h2 M hE).2.2 x hx hn
              simp only [Option.getD_some] at h9
              omega
        · rw [List.mem_singleton.1 hx]; exact Nat.le_refl _
      · rename_i hc
        obtain ⟨g1, g2, g3⟩ := h2 L hL
        refine ⟨by simp [g1], g2, fun x hx hn => ?_⟩
        rcases List.mem_append.1 hx with hx | hx
        · exact g3 x hx hn
        · obtain rfl := List.mem_singleton.1 hx
          refine Nat.le_of_not_lt fun h8 => hc ⟨hn, .inr ?_⟩
          rw [hL]; exact h8
def u64row (D : List Nat) : List Value := D.map fun (d : Nat) => Value.int .u64 (d : Int)
theorem infoU64 : (Tryd.prog.info? 29).map (fun i => (i.zero, i.size, i.bytes)) = some (some (.int .u64 0), 1, 8) := by kernel_rfl
/-- a shard, and a row of what was told -/
structure NX (ls : LS) (v : Nat) (lv : Nat → Nat) (sl : Nat → Nat → Nat) (bd : Nat) (S : WSt) (s r l : Nat) (D : List Nat) (tv : Value) (w W : World) : Prop where
  x : SX ls v lv sl bd S s r l w W
  row : W.ownsRow w.heap.size 29 1 tv D.length (u64row D)
  rk : ∀ k, tv.ownBlock = some k → ls.kd k = 0 ∧ k ≠ s
  told : ∀ d, d ∈ D → S.now < d → ∃ e, Stands S.pl e ∧ S.due e = d
  back : ∀ e, Stands S.pl e → S.due e ∈ D
  big : ∀ d, d ∈ D → d < 18446744073709551616
  lt : s < W.heap.size
section
variable {ls ls' : LS} {v : Nat} {lv : Nat → Nat} {sl : Nat → Nat → Nat} {bd : Nat} {S S' : WSt} {s r l : Nat} {D D' : List Nat} {tv tv' : Value} {w W W' : World}
theorem NX.turn (h : NX ls v lv sl bd S s r l D tv w W) (x : SX ls' v lv sl bd S' s r l w W') (kd : ∀ y, y < W.heap.size → ls'.kd y = ls.kd y) (k : Kept (fun y => ls.kd y ≠ 0) W W') :
    W'.ownsRow w.heap.size 29 1 tv D.length (u64row D) ∧ (∀ k, tv.ownBlock = some k → ls'.kd k = 0 ∧ k ≠ s) :=
  ⟨owns_kept2 h.row k (fun b hb h9 => h9 (h.rk b hb).1), fun b hb => ⟨(kd _ (own_lt h.row b hb)).trans (h.rk b hb).1, (h.rk b hb).2⟩⟩
theorem NX.still (h : NX ls v lv sl bd S s r l D tv w W) (k : Still W W') : NX ls v lv sl bd S s r l D tv w W' :=
  ⟨h.x.still k, owns_kept2 h.row k (fun _ _ f => f), h.rk, h.told, h.back, h.big, Nat.lt_of_lt_of_le h.lt k.size⟩
theorem NX.below (h : NX ls v lv sl bd S s r l D tv w W) (k : Below W.heap.size W W') : NX ls v lv sl bd S s r l D tv w W' :=
  h.still ⟨k.os, k.tape, k.output, k.size, fun i hi _ => k.block i hi⟩
theorem NX.arm (h : NX ls v lv sl bd S s r l D tv w W) {en d : Nat} {xs : Nat → Value} (i : XIns ls ls' S S' en d xs W W') (rk : ∀ k, tv'.ownBlock = some k → ls'.kd k = 0 ∧ k ≠ s) (h64 : d < 18446744073709551616) (W2 : World) (hx : SX ls' v lv sl bd S' s r l w W2) (row2 : W2.ownsRow w.heap.size 29 1 tv' (D ++ [d]).length (u64row (D ++ [d]))) (hlt : s < W2.heap.size) : NX ls' v lv sl bd S' s r l (D ++ [d]) tv' w W2 := by
  refine ⟨hx, row2, rk, fun y hy hn => ?_, fun e he => ?_, fun y hy => ?_, hlt⟩
  · rw [i.now] at hn
    rcases List.mem_append.1 hy with h9 | h9
    · obtain ⟨e, g1, g2⟩ := h.told y h9 hn
      exact ⟨e, (i.st e).2 (.inl g1), by rw [i.due, upd_ne _ _ (fun e9 => i.no (by rw [← e9]; exact g1))]; exact g2⟩
    · rw [List.mem_singleton.1 h9]
      exact ⟨en, (i.st en).2 (.inr rfl), by rw [i.due, upd_same]⟩
  · rcases (i.st e).1 he with g1 | rfl
    · rw [i.due, upd_ne _ _ (fun e9 => i.no (by rw [← e9]; exact g1))]
      exact List.mem_append_left _ (h.back e g1)
    · rw [i.due, upd_same]; simp
  · rcases List.mem_append.1 hy with h9 | h9
    · exact h.big y h9
    · rw [List.mem_singleton.1 h9]; exact h64
theorem NX.adv (h : NX ls v lv sl bd S s r l D tv w W) {es : List Nat} (x : SX ls' v lv sl bd S' s r l w W') (t : XTurn ls ls' S S' es W W') : NX ls' v lv sl bd S' s r l D tv w W' := by
  obtain ⟨h1, h2⟩ := h.turn x t.kd t.kept
  refine ⟨x, h1, h2, fun d hd hn => ?_, fun e he => ?_, h.big, Nat.lt_of_lt_of_le h.lt t.kept.size⟩
  · rw [t.now] at hn
    obtain ⟨e, g1, g2⟩ := h.told d hd (by omega)
    exact ⟨e, (t.st e).2 ⟨g1, by omega⟩, by rw [t.due]; exact g2⟩
  · rw [t.due]; exact h.back e ((t.st e).1 he).1
end
theorem u64row_len (D : List Nat) : (u64row D).length = D.length := List.length_map ..
theorem u64row_snoc (D : List Nat) (d : Nat) : u64row (D ++ [d]) = u64row D ++ [.int .u64 (d : Int)] := by unfold u64row; rw [List.map_append]; rfl
end Go.Proofs.YthamdbfilpegjaaDoor
