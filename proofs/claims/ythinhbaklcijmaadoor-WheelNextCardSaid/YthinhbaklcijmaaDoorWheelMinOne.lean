/-
  What stands here: the least deadline, in a law. Under the condition that the library's table is as its initialiser lays it.
-/
import Derived.Test.YthinhbaklcijmaaDoorWheelMin
import Derived.Test.YthinhbaklcijmaaDoorWheelTied
namespace Go.Proofs.YthinhbaklcijmaaDoor
set_option linter.unusedVariables false
set_option linter.unusedSimpArgs false
open Go.RowKit Go.Proofs
theorem xins2_e {s : LS} {v : Nat} {lv : Nat → Nat} {sl : Nat → Nat → Nat} {bd : Nat} {S : WSt} {w W : World} (h : WX_e s v lv sl bd S w W) (hbig : nAll S.pl < 80000) (dI : Int) (d : Nat) (hdI : dI = (d : Int)) (hlt : S.now < d) (hd : d < 18446744073709551616) (z : Int) :
    Calls Tryd.prog 8 #[.pointer (some ⟨v, 0, none⟩), .int .u64 dI, .int .i64 z] W fun r w' => r = .returned (.tuple #[.pointer (some ⟨W.heap.size, 0, none⟩), .int .i64 0]) ∧ ∃ s' S', WX_e s' v lv sl bd S' w w' ∧ XIns s s' S S' W.heap.size d (fun _ => .int .i64 z) W w' := by
  subst hdI; exact xins_e h hbig d hlt hd z
theorem xnext_e {s : LS} {v : Nat} {lv : Nat → Nat} {sl : Nat → Nat → Nat} {bd : Nat} {S : WSt} {w W : World} (h : WX_e s v lv sl bd S w W) (hT : Tab W) (hbig : nAll S.pl < 80000) (hex : ∃ e, Stands S.pl e) :
    Calls Tryd.prog 9 #[.pointer (some ⟨v, 0, none⟩)] W fun r w' => ∃ L : Nat, r = .returned (.tuple #[.int .u64 (L : Int), .int .i64 0]) ∧ (∃ e, Stands S.pl e ∧ S.due e = L) ∧ (∀ e, Stands S.pl e → L ≤ S.due e) ∧ Below W.heap.size W w' := by
  have hpos : 0 < nAll S.pl := by
    obtain ⟨e, q, hq, he⟩ := hex
    have h1 := le_nAll S.pl hq
    have h2 := List.length_pos_of_mem he
    omega
  refine (wnext_e W h.wb hT hbig hpos).mono ?_
  rintro r w1 ⟨rfl, bel⟩
  have hle : ∀ e, e ∈ fsq S.pl 4 → lstOf S.due (fsq S.pl 4) ≤ S.due e := fun e he => lstOf_le S.due _ _ e he
  have hmem : ∃ e, e ∈ fsq S.pl 4 ∧ S.due e = lstOf S.due (fsq S.pl 4) := by
    rcases lstOf_mem S.due (fsq S.pl 4) 18446744073709551615 with h1 | ⟨e, he, h1⟩
    · obtain ⟨e, he⟩ := List.exists_mem_of_ne_nil _ (fsq_some hex)
      refine ⟨e, he, ?_⟩
      obtain ⟨q, g1, g2, g3, g4, g5⟩ := fsq_mem (pl := S.pl) 4 (by omega)
      have hd := (h.wb.ent q e g1 (g3 ▸ he)).2.2.2.2.2.2.2.1
      have h2 := hle e he
      unfold lstOf at h2 ⊢
      rw [h1] at h2 ⊢
      omega
    · exact ⟨e, he, h1⟩
  obtain ⟨g1, g2⟩ := h.right.least hmem hle
  exact ⟨_, rfl, g1, g2, bel⟩
end Go.Proofs.YthinhbaklcijmaaDoor
