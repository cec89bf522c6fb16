/-
  What stands here: the document's row of numbers, and whether there are too many. Under no condition but, for the row, that there are not.
-/
import Derived.Test.YtojjelafkieflaaProgChain
namespace Go.Proofs.Ytojjelafkieflaa
set_option linter.unusedVariables false
set_option linter.unusedSimpArgs false
open Go.RowKit Go.Proofs

/-- the slice of a part, in whatever world that keeps what was -/
theorem Parts.at_ {Q : Nat → Prop} {w : World} {a : Option Addr} {len cap : Nat} {pv : List Value} {P : List (List Int)} (h : Parts Q w (.slice a len cap) pv P) :
    len = P.length ∧ len ≤ cap ∧ cap ≤ maxLen ∧ (0 < len → ∃ b o, a = some ⟨b, o, none⟩ ∧ b < w.heap.size ∧ Q b ∧ ∀ i, i < len → ∃ xa xc, w.cell? ⟨b, o + i, none⟩ = some (.slice xa (P.getD i []).length xc) ∧ IRow Q w (.slice xa (P.getD i []).length xc) (P.getD i [])) := by
  obtain ⟨hl, hle, hm, h0⟩ := h.1.at_
  have hlen := relL_len h.2
  refine ⟨by omega, by omega, hm, fun hp => ?_⟩
  obtain ⟨b, o, ha, hb, hq, hc⟩ := h0 (by omega)
  refine ⟨b, o, ha, hb, hq, fun i hi => ?_⟩
  have h1 : pv[i]? = some pv[i] := List.getElem?_eq_getElem (by omega)
  obtain ⟨zs, hz, hr⟩ := relL_at h.2 h1
  have hr' : IRow Q w pv[i] zs := hr
  obtain ⟨xa, xc, hx⟩ := VRow.len hr'
  rw [List.length_map] at hx
  have hD : P.getD i [] = zs := by rw [List.getD_eq_getElem?_getD, hz]; rfl
  rw [hD]
  exact ⟨xa, xc, by rw [hc i (by omega), h1, hx], hx ▸ hr'⟩

/-- what it answers of whether there are too many -/
def GreatP (P : List (List Int)) (w : World) (e : Ending) (w' : World) : Prop := ∃ r : Bool, e = .returned (.bool r) ∧ w = w' ∧ (r = false → P.length ≤ 30 ∧ ∀ p ∈ P, p.length ≤ 30)
set_option maxHeartbeats 1000000 in
theorem great_any (Q : Nat → Prop) (pv : List Value) (P : List (List Int)) (a : Option Addr) (len cap : Nat) (w : World) (hp : Parts Q w (.slice a len cap) pv P) :
    Calls Try.prog 31 #[.slice a len cap] w (GreatP P w) := by
  obtain ⟨rfl, hle, hm, h0⟩ := hp.at_
  obtain ⟨L, hL⟩ : ∃ L, L = P.length := ⟨_, rfl⟩
  rw [← hL] at hle h0 ⊢
  unfold maxLen at hm
  have HL := Lib.hid hL
  have H0 := Lib.hid h0
  clear hL h0 hp
  by_cases h30 : 30 < L
  · go_enter Try.func31, Try.ntmps31
    go_wp2
    go_ret
    exact ⟨true, rfl, rfl, fun h => by cases h⟩
  · go_enter Try.func31, Try.ntmps31
    go_wp2
    go_loop [3] (fun i => ∃ k : Nat, k ≤ L ∧ i = .int .i64 k ∧ ∀ j, j < k → (P.getD j []).length ≤ 30) (fun i => L - (intOf i).toNat)
    case atStart => exact ⟨0, Nat.zero_le _, rfl, by omega⟩
    case round =>
      obtain ⟨k, hk, rfl, hall⟩ := hrel
      have HA := Lib.hid hall
      clear hall
      by_cases hlt : k < L
      · obtain ⟨b, o, rfl, hb, hq, hc⟩ := H0.out (by omega)
        obtain ⟨xa, xc, hx, hr⟩ := hc k hlt
        obtain ⟨n, hn⟩ : ∃ n, n = (P.getD k []).length := ⟨_, rfl⟩
        rw [← hn] at hx
        have HN := Lib.hid hn
        clear hn hc hr
        by_cases hgr : 30 < n
        · go_wp2
          go_ret
          exact ⟨true, rfl, rfl, fun h => by cases h⟩
        · go_wp2
          go_round
          case rel => exact ⟨k + 1, by omega, by go_num, fun j hj => (by rcases Nat.lt_or_ge j k with h | h; exact HA.out j h; obtain rfl : j = k := (by omega); rw [← HN.out]; omega)⟩
          case measure => simp [intOf]; omega
      · go_wp2
        go_ret
        refine ⟨false, rfl, rfl, fun _ => ⟨by rw [← HL.out]; omega, fun p hp => ?_⟩⟩
        obtain ⟨j, hj, rfl⟩ := List.getElem_of_mem hp
        have := HA.out j (by have := HL.out; omega)
        rwa [List.getD_eq_getElem?_getD, List.getElem?_eq_getElem hj] at this

theorem flat_le (P : List (List Int)) (h : ∀ p ∈ P, p.length ≤ 30) : P.flatten.length ≤ 30 * P.length := by
  induction P with
  | nil => simp
  | cons p P ih =>
    have h1 := h p (by simp)
    have h2 := ih (fun q hq => h q (by simp [hq]))
    simp only [List.flatten_cons, List.length_append, List.length_cons]
    omega
theorem take_flat (P : List (List Int)) {k : Nat} (h : k < P.length) : (P.take (k + 1)).flatten = (P.take k).flatten ++ P.getD k [] := by
  rw [List.take_succ_eq_append_getElem h, List.getD_eq_getElem?_getD, List.getElem?_eq_getElem h, List.flatten_append]; simp only [List.flatten_cons, List.flatten_nil, List.append_nil, Option.getD_some]
theorem pos_snoc_yes (l : List Int) {z : Int} (h : 0 ≤ z) : pos (l ++ [z]) = pos l ++ [z] := by simp [pos, h]
theorem pos_snoc_no (l : List Int) {z : Int} (h : ¬ 0 ≤ z) : pos (l ++ [z]) = pos l := by simp [pos, h]

set_option maxHeartbeats 2000000 in
theorem refrow_any (Q : Nat → Prop) (pv : List Value) (P : List (List Int)) (a : Option Addr) (len cap : Nat) (w : World) (hp : Parts Q w (.slice a len cap) pv P) (hP : P.length ≤ 30) (hp30 : ∀ p ∈ P, p.length ≤ 30) :
    Calls Try.prog 32 #[.slice a len cap] w fun e w' => (∃ v, e = .returned v ∧ IRow (w.heap.size ≤ ·) w' v (pos P.flatten)) ∧ Below w.heap.size w w' := by
  obtain ⟨rfl, hle, hm, h0⟩ := hp.at_
  obtain ⟨L, hL⟩ : ∃ L, L = P.length := ⟨_, rfl⟩
  rw [← hL] at hle h0 hP ⊢
  unfold maxLen at hm
  obtain ⟨i0, hi, hz0, hz1, hz2⟩ := info_parts infoInt
  have HL := Lib.hid hL
  have H0 := Lib.hid h0
  have H30 := Lib.hid hp30
  clear hL h0 hp hp30
  go_enter Try.func32, Try.ntmps32
  go_wp2
  go_loopw [3, 4] (fun v i wr => ∃ k : Nat, k ≤ L ∧ i = .int .i64 k ∧ wr.ownsRow w.heap.size 3 1 v (pos (P.take k).flatten).length ((pos (P.take k).flatten).map (Value.int .i64)) ∧ Below w.heap.size w wr) (fun _ i _ => L - (intOf i).toNat)
  case atStart => exact ⟨0, Nat.zero_le _, rfl, World.ownsRow_nil _ _ _ _, Below.refl _ _⟩
  case round =>
    obtain ⟨k, hk, rfl, hown, hbel⟩ := hrel
    by_cases hlt : k < L
    · obtain ⟨b, o, rfl, hb, hq, hc⟩ := H0.out (by omega)
      obtain ⟨xa, xc, hx, hr⟩ := hc k hlt
      have hpl : (P.getD k []).length ≤ 30 := H30.out _ (by rw [List.getD_eq_getElem?_getD, List.getElem?_eq_getElem (by rw [← HL.out]; exact hlt)]; exact List.getElem_mem _)
      have hfl : (P.take k).flatten.length ≤ 900 := by
        have := flat_le (P.take k) (fun p hp => H30.out p (List.mem_of_mem_take hp))
        rw [List.length_take] at this; omega
      obtain ⟨acc, hacc⟩ : ∃ acc, acc = (P.take k).flatten := ⟨_, rfl⟩
      obtain ⟨p, hpp⟩ : ∃ p, p = P.getD k [] := ⟨_, rfl⟩
      have HT : Hid ((P.take (k + 1)).flatten = acc ++ p) := Lib.hid (by rw [hacc, hpp]; exact take_flat P (by rw [← HL.out]; exact hlt))
      rw [← hacc] at hown hfl
      rw [← hpp] at hx hr hpl
      clear hacc hpp hc
      obtain ⟨_, _, hr0⟩ := hr.cells
      have HR0 := Lib.hid hr0
      obtain ⟨n, hn⟩ : ∃ n, n = p.length := ⟨_, rfl⟩
      rw [← hn] at hx hpl
      have HN := Lib.hid hn
      clear hr hr0 hn
      obtain ⟨wo, rfl⟩ : ∃ wo : World, wo = wr := ⟨_, rfl⟩
      go_wp2
      go_loopw [3, 5] (fun v j wr => ∃ i : Nat, i ≤ n ∧ j = .int .i64 i ∧ wr.ownsRow w.heap.size 3 1 v (pos (acc ++ p.take i)).length ((pos (acc ++ p.take i)).map (Value.int .i64)) ∧ Below w.heap.size w wr) (fun _ j _ => n - (intOf j).toNat)
      case atStart => exact ⟨0, Nat.zero_le _, rfl, by simpa using hown, hbel⟩
      case round =>
        obtain ⟨i, hin, rfl, hown2, hbel2⟩ := hrel
        have hx2 := (hbel2.cell (p := ⟨b, o + k, none⟩) hb).trans hx
        have hsz := hbel2.size
        by_cases hlt2 : i < n
        · obtain ⟨b2, o2, rfl, hb2, hq2, hc2⟩ := HR0.out (by rw [← HN.out]; omega)
          have hz2' := (hbel2.cell (p := ⟨b2, o2 + i, none⟩) hb2).trans (hc2 i (by rw [← HN.out]; exact hlt2))
          obtain ⟨z, hz⟩ : ∃ z, z = p.getD i 0 := ⟨_, rfl⟩
          rw [← hz] at hz2'
          have HZ : Hid (acc ++ p.take (i + 1) = (acc ++ p.take i) ++ [z]) := Lib.hid (by rw [hz, getD_of (by rw [← HN.out]; exact hlt2), List.append_assoc])
          have hlen : (pos (acc ++ p.take i)).length ≤ 930 := Nat.le_trans (List.length_filter_le _ _) (by rw [List.length_append, List.length_take]; omega)
          clear hz hc2
          by_cases hpos : 0 ≤ z
          · have HS := Lib.hid (pos_snoc_yes (acc ++ p.take i) hpos)
            obtain ⟨q, hq'⟩ : ∃ q, q = pos (acc ++ p.take i) := ⟨_, rfl⟩
            rw [← hq'] at hown2 hlen HS
            clear hq'
            go_wp2_with (first | (at_builtin; refine wpList_append _ rfl _ _ 32 rfl w.heap.size 3 i0 (.int .i64 0) 1 8 Try.underlying32 hi hz0 hz1 hz2 rfl (by decide) _ _ _ rfl (hown2.alloc _) ⟨wr.heap.size, 0, none⟩ 1 1 [.int .i64 z] rfl rfl (by intro j u hj; match j, hj with | 0, hj => simp at hj; subst hj; simp [Addr.add]) (by intro u hu; simp at hu; subst hu; rfl) (by unfold maxLen; omega) (by omega) (by simp; omega) ?_) | go_in)
            intro v' w2 ha
            have hb3 := below_append hbel2 hown2 ha.grown (Nat.le_refl _) (Nat.le_refl _)
            have ho3 := ha.owns
            clear ha
            go_wp2
            go_roundw
            case rel => exact ⟨i + 1, by omega, by go_num, by rw [HZ.out, HS.out, List.length_append, List.map_append]; exact ho3, hb3⟩
            case measure => simp [intOf]; omega
          · have HS := Lib.hid (pos_snoc_no (acc ++ p.take i) hpos)
            go_wp2
            go_roundw
            case rel => exact ⟨i + 1, by omega, by go_num, by rw [HZ.out, HS.out]; exact hown2, hbel2⟩
            case measure => simp [intOf]; omega
        · obtain rfl : i = n := by omega
          go_wp2
          go_roundw
          case rel => exact ⟨k + 1, by omega, by go_num, by rw [HT.out]; rwa [List.take_of_length_le (by rw [← HN.out]; omega)] at hown2, hbel2⟩
          case measure => simp [intOf]; omega
    · obtain rfl : k = L := by omega
      go_wp2
      go_ret
      rw [List.take_of_length_le (by rw [← HL.out]; omega)] at hown
      exact ⟨⟨_, rfl, VRow.of_owns hown⟩, hbel⟩
end Go.Proofs.Ytojjelafkieflaa
