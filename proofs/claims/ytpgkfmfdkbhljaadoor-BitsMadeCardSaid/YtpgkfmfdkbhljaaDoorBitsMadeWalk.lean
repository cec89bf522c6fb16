/-
  What stands here: the walk of BitsMade. Under the condition that the library's table is as its initialiser lays it.
-/
import Derived.Test.YtpgkfmfdkbhljaaDoorBitsStepsWalk
import Derived.Test.YtpgkfmfdkbhljaaDoorBitsTurnsWalk
import Derived.Test.YtpgkfmfdkbhljaaDoorBitsPop
namespace Go.Proofs.YtpgkfmfdkbhljaaDoor
set_option linter.unusedVariables false
set_option linter.unusedSimpArgs false
open Go.RowKit Go.Proofs

/-- the slots of the numbers Z 0 .. Z (k - 1) -/
def Made (x : Nat) (Z : Nat → Int) (k : Nat) : Prop := x < 18446744073709551616 ∧ ∀ i, i < 64 → (x.testBit i = true ↔ ∃ j, j < k ∧ Z j % 64 = i)
theorem Made.zero (Z : Nat → Int) : Made 0 Z 0 := ⟨by omega, fun i _ => by simp⟩
theorem Made.succ {x : Nat} {Z : Nat → Int} {k : Nat} (h : Made x Z k) : Made (withN x (Z k % 64)) Z (k + 1) := by
  refine ⟨withN_lt _ h.1, fun i hi => ?_⟩
  rw [withN_test, Bool.or_eq_true, h.2 i hi, decide_eq_true_eq]
  constructor
  · rintro (⟨j, h1, h2⟩ | ⟨h1, h2, h3⟩)
    · exact ⟨j, by omega, h2⟩
    · exact ⟨k, by omega, h3.symm⟩
  · rintro ⟨j, h1, h2⟩
    by_cases e : j = k
    · subst e; right; omega
    · exact .inl ⟨j, by omega, h2⟩
theorem Made.same {x y : Nat} {Z : Nat → Int} {L : Nat} (h : Made x Z L) (k : Made y (fun j => Z (L - 1 - j)) L) : x = y := by
  refine eq_of_bits h.1 k.1 fun i hi => ?_
  rw [Bool.eq_iff_iff, h.2 i hi, k.2 i hi]
  constructor
  · rintro ⟨j, h1, h2⟩; exact ⟨L - 1 - j, by omega, by show Z (L - 1 - (L - 1 - j)) % 64 = _; rw [show L - 1 - (L - 1 - j) = j by omega]; exact h2⟩
  · rintro ⟨j, h1, h2⟩; exact ⟨L - 1 - j, by omega, h2⟩
theorem Made.has {x : Nat} {Z : Nat → Int} {L : Nat} (h : Made x Z L) {j : Nat} (hj : j < L) : hasB x (Z j % 64) = true := by
  unfold hasB
  rw [(h.2 (Z j % 64).toNat (by omega)).2 ⟨j, hj, by omega⟩, Bool.and_true]
  exact decide_eq_true ⟨by omega, by omega⟩
theorem Made.there {x : Nat} {Z : Nat → Int} {L : Nat} (h : Made x Z L) {k : Nat} (hk : k < (slots x).length) : ∃ j, j < L ∧ Z j % 64 = ((slots x).getD k 0 : Nat) := by
  have hmem : (slots x).getD k 0 ∈ slots x := by rw [List.getD_eq_getElem?_getD, List.getElem?_eq_getElem hk]; exact List.getElem_mem _
  obtain ⟨h1, h2⟩ := mem_slots.1 hmem
  exact (h.2 _ h1).1 h2

set_option maxHeartbeats 4000000 in
theorem bitsMade_walk (a0 : Option Addr) (len0 cap0 : Nat) (z0 : List Int) (w : World) (w0 : IsRow .u8 w a0 len0 cap0 z0) (hT : Tab w) :
    Calls Tryd.prog 7 #[.slice a0 len0 cap0] w fun e w' => e = .returned (.bool true) ∧ Below w.heap.size w w' := by
  have hpos := hT.lt
  have hle := w0.le
  unfold maxLen at hle
  have st : ∀ (A B : World), Below w.heap.size w A → Below A.heap.size A B → Below w.heap.size w B := fun A B h k => h.trans (k.mono h.size)
  have hcell : ∀ j, j < len0 → ∃ ab ao, a0 = some ⟨ab, ao, none⟩ ∧ ab < w.heap.size ∧ (0 ≤ z0.getD j 0 ∧ z0.getD j 0 < 256) ∧ ∀ i, i < len0 → w.cell? ⟨ab, ao + i, none⟩ = some (.int .u8 (z0.getD i 0)) := fun j hj => by
    obtain ⟨ab, ao, h1, h2, h3⟩ := w0.at_ (by omega)
    refine ⟨ab, ao, h1, h2, ?_, h3⟩
    rcases w0 with ⟨h, _⟩ | ⟨x, _, hl, _, hzl, _, hw⟩
    · rw [h] at h1; cases h1
    · have hm : z0.getD j 0 ∈ z0 := by
        rw [List.getD_eq_getElem?_getD, List.getElem?_eq_getElem (by omega)]
        exact List.getElem_mem _
      exact bd_u8 (hw _ hm)
  obtain ⟨Z, hZ⟩ : ∃ Z : Nat → Int, Z = fun j => z0.getD j 0 := ⟨_, rfl⟩
  have hcell' : ∀ j, j < len0 → ∃ ab ao, a0 = some ⟨ab, ao, none⟩ ∧ ab < w.heap.size ∧ (0 ≤ Z j ∧ Z j < 256) ∧ ∀ i, i < len0 → w.cell? ⟨ab, ao + i, none⟩ = some (.int .u8 (Z i)) := by rw [hZ]; exact hcell
  have HC := Lib.hid hcell'
  clear hcell hcell' hZ w0
  by_cases h200 : 200 < len0
  · go_enter Tryd.func7, Tryd.ntmps7
    go_wp2_with fail
    refine (alive_any w hT).mono ?_
    rintro e w1 ⟨rfl, k1⟩
    go_wp2_with fail
    go_ret
    exact ⟨rfl, k1⟩
  go_enter Tryd.func7, Tryd.ntmps7
  go_wp2_with fail
  refine (alive_any w hT).mono ?_
  rintro e w1 ⟨rfl, k1⟩
  go_wp2_with fail
  go_loopw [3, 4, 5] (fun x y i wr => ∃ a b k : Nat, k ≤ len0 ∧ i = .int .i64 k ∧ x = .int .u64 a ∧ y = .int .u64 b ∧ Made a Z k ∧ Made b (fun j => Z (len0 - 1 - j)) k ∧ Below w.heap.size w wr) (fun _ _ i _ => len0 - (intOf i).toNat)
  case atStart => exact ⟨0, 0, 0, by omega, rfl, rfl, rfl, Made.zero _, Made.zero _, k1⟩
  case round =>
    obtain ⟨a, b, k, hk, rfl, rfl, rfl, hMa, hMb, hbel⟩ := hrel
    by_cases hlk : k < len0
    · obtain ⟨ab, ao, rfl, hab, hz, hc⟩ := HC.out k hlk
      obtain ⟨-, -, -, -, hz2, -⟩ := HC.out (len0 - 1 - k) (by omega)
      have c1 := (hbel.cell (p := ⟨ab, ao + k, none⟩) hab).trans (hc k hlk)
      have c2 := (hbel.cell (p := ⟨ab, ao + (len0 - 1 - k), none⟩) hab).trans (hc (len0 - 1 - k) (by omega))
      have hw1 := with_any a hMa.1 (Z k % 64)
      have hw2 := with_any b hMb.1 (Z (len0 - 1 - k) % 64)
      have HM1 := Lib.hid hMa.succ
      have HM2 := Lib.hid hMb.succ
      have hidx : ((len0 : Int) - 1 - k) = ((len0 - 1 - k : Nat) : Int) := by omega
      obtain ⟨q, hq⟩ : ∃ q, q = len0 - 1 - k := ⟨_, rfl⟩
      have hql : q < len0 := by omega
      rw [← hq] at c2 hw2 hz2 hidx
      have HQ := Lib.hid hq
      obtain ⟨x1, hx1⟩ : ∃ x1, x1 = Z k := ⟨_, rfl⟩
      obtain ⟨x2, hx2⟩ : ∃ x2, x2 = Z q := ⟨_, rfl⟩
      rw [← hx1] at c1 hw1 hz
      rw [← hx2] at c2 hw2 hz2
      have HX1 := Lib.hid hx1
      have HX2 := Lib.hid hx2
      obtain ⟨hz1a, hz1b⟩ := hz
      obtain ⟨hz2a, hz2b⟩ := hz2
      have HW1 := Lib.hid hw1
      have HW2 := Lib.hid hw2
      clear hc hMa hMb hq hx1 hx2 hw1 hw2
      go_wp2_with fail
      refine (HW1.out _).mono ?_
      rintro e w2 ⟨rfl, rfl⟩
      go_wp2_with fail
      refine (HW2.out _).mono ?_
      rintro e w2 ⟨rfl, rfl⟩
      go_wp2_with fail
      go_roundw
      case rel => exact ⟨_, _, k + 1, by omega, by go_num, rfl, rfl, by rw [HX1.out]; exact HM1.out, by rw [HX2.out, HQ.out]; exact HM2.out, hbel⟩
      case measure => simp [intOf]; omega
    · obtain rfl : k = len0 := by omega
      obtain rfl := hMa.same hMb
      have hA := all_any a hMa.1
      have hLn := len_any a hMa.1
      have hthere := fun (j : Nat) (h : j < (slots a).length) => hMa.there h
      have hhas := fun (j : Nat) (h : j < k) => hMa.has h
      have hHs := fun (s : Int) w => has_any a hMa.1 s w
      have hsrt := slots_sorted a
      have h64 : (slots a).length ≤ 64 := upto_len a 64
      have hsl : ∀ j, j < (slots a).length → (slots a).getD j 0 < 64 := fun j hj => by
        have hmem : (slots a).getD j 0 ∈ slots a := by rw [List.getD_eq_getElem?_getD, List.getElem?_eq_getElem hj]; exact List.getElem_mem _
        exact (mem_slots.1 hmem).1
      obtain ⟨l, hl⟩ : ∃ l, l = slots a := ⟨_, rfl⟩
      rw [← hl] at hA hLn hsrt h64
      simp only [← hl] at hthere hsl
      clear hl hMa hMb
      obtain ⟨L, hL⟩ : ∃ L, L = l.length := ⟨_, rfl⟩
      rw [← hL] at h64 hLn
      simp only [← hL] at hthere hsl
      have HL := Lib.hid hL
      have HTH := Lib.hid hthere
      have HHS := Lib.hid hhas
      have HHB := Lib.hid hHs
      have HSR := Lib.hid hsrt
      have HSL := Lib.hid hsl
      clear hL hthere hhas hHs hsrt hsl
      go_wp2_with fail
      refine (hA wr (hT.below hbel hpos)).mono ?_
      rintro e w2 ⟨⟨v, rfl, hr⟩, k2⟩
      have k2' := st _ _ hbel k2
      obtain ⟨va, vc, rfl⟩ := VRow.len hr
      rw [List.length_map, List.length_map, ← HL.out] at hr ⊢
      obtain ⟨-, -, hcv⟩ := hr.cells
      rw [List.length_map, ← HL.out] at hcv
      have hcv' : 0 < L → ∃ b o, va = some ⟨b, o, none⟩ ∧ b < w2.heap.size ∧ ∀ j, j < L → w2.cell? ⟨b, o + j, none⟩ = some (.int .i64 (l.getD j 0 : Nat)) := fun h => by
        obtain ⟨b, o, h1, h2, h3, h4⟩ := hcv h
        refine ⟨b, o, h1, h2, fun j hj => (h4 j hj).trans ?_⟩
        rw [List.getD_eq_getElem?_getD, List.getElem?_map, List.getD_eq_getElem?_getD, List.getElem?_eq_getElem (by rw [← HL.out]; exact hj)]; rfl
      have HV := Lib.hid hcv'
      clear hr hcv hcv' hA
      go_wp2_with fail
      refine (hLn w2).mono ?_
      rintro e w3 ⟨rfl, rfl⟩
      clear hbel k2
      go_wp2_with fail
      go_loopw [7, 8, 9] (fun i t j wr => ∃ n : Nat, n ≤ L ∧ i = .int .i64 n ∧ Below w.heap.size w wr ∧ Below w2.heap.size w2 wr) (fun i _ _ _ => L - (intOf i).toNat)
      case atStart => exact ⟨0, by omega, rfl, k2', Below.refl _ _⟩
      case round =>
        obtain ⟨n, hn, rfl, hbel, hbel2⟩ := hrel
        by_cases hnL : n < L
        · obtain ⟨vb, vo, hva, hvb, hvc⟩ := HV.out (by omega)
          obtain ⟨j0, hj0, hz0⟩ := HTH.out n hnL
          obtain ⟨ab, ao, ha, hab, -, hc⟩ := HC.out j0 hj0
          obtain ⟨y, hy⟩ : ∃ y, y = l.getD n 0 := ⟨_, rfl⟩
          have hvn := hvc n hnL
          rw [← hy] at hvn hz0
          have HY := Lib.hid hy
          have HJ := Lib.hid hz0
          have HCC := Lib.hid hc
          have HVC := Lib.hid hvc
          have hzj : ∀ j, j < k → 0 ≤ Z j ∧ Z j < 256 := fun j hj => by obtain ⟨_, _, _, _, h, _⟩ := HC.out j hj; exact h
          have HZJ : Hid (∀ j, j < k → 0 ≤ Z j ∧ Z j < 256) := Lib.hid hzj
          subst ha hva
          clear hy hz0 hc hvc hzj
          obtain ⟨wo, rfl⟩ : ∃ wo : World, wo = wr := ⟨_, rfl⟩
          go_wp2_with fail
          go_loopw [8, 9] (fun t j wr => ∃ (c : Nat) (b : Bool), c ≤ k ∧ j = .int .i64 c ∧ t = .bool b ∧ (b = true ↔ ∃ j, j < c ∧ Z j % 64 = (y : Int)) ∧ Below w.heap.size w wr ∧ Below w2.heap.size w2 wr) (fun _ j _ => k - (intOf j).toNat)
          case atStart => exact ⟨0, false, by omega, rfl, rfl, by simp, hbel, hbel2⟩
          case round =>
            obtain ⟨c, b, hck, rfl, rfl, hb, hbel3, hbel4⟩ := hrel
            have HB := Lib.hid hb
            clear hb
            have v1 := (hbel4.cell (p := ⟨vb, vo + n, none⟩) hvb).trans hvn
            by_cases hck2 : c < k
            · have c1 := (hbel3.cell (p := ⟨ab, ao + c, none⟩) hab).trans (HCC.out c hck2)
              obtain ⟨hx0, hx1⟩ := HZJ.out c hck2
              obtain ⟨x, hx⟩ : ∃ x, x = Z c := ⟨_, rfl⟩
              rw [← hx] at c1 hx0 hx1
              have HX := Lib.hid hx
              clear hx
              cases b
              · go_wp2_with fail
                go_quiet (fail)
                go_wp2_with fail
                go_roundw
                case rel => exact ⟨c + 1, x % 64 == (y : Int), by omega, by go_num, rfl, (by
                  constructor
                  · intro h; exact ⟨c, by omega, by rw [← HX.out]; simpa using h⟩
                  · rintro ⟨j, h1, h2⟩
                    by_cases e : j = c
                    · subst e; rw [HX.out, h2]; simp
                    · have := HB.out.2 ⟨j, by omega, h2⟩; simp at this), below_still hbel3 ((still_refl _).drewN _) (Nat.le_refl _), below_still hbel4 ((still_refl _).drewN _) (Nat.le_refl _)⟩
                case measure => simp [intOf]; omega
              · go_wp2_with fail
                go_quiet (fail)
                go_wp2_with fail
                go_roundw
                case rel => exact ⟨c + 1, true, by omega, by go_num, rfl, (by
                  constructor
                  · intro _; obtain ⟨j, h1, h2⟩ := HB.out.1 (by first | rfl | trivial); exact ⟨j, by omega, h2⟩
                  · intro _; rfl), below_still hbel3 ((still_refl _).drewN _) (Nat.le_refl _), below_still hbel4 ((still_refl _).drewN _) (Nat.le_refl _)⟩
                case measure => simp [intOf]; omega
            · obtain rfl : c = k := by omega
              obtain rfl : b = true := HB.out.2 ⟨j0, hj0, HJ.out⟩
              rcases Nat.eq_zero_or_pos n with h0 | h0
              · subst h0
                go_wp2_with fail
                go_quiet (fail)
                go_wp2_with fail
                go_roundw
                case rel => exact ⟨1, by omega, by go_num, below_still hbel3 ((still_refl _).drewN _) (Nat.le_refl _), below_still hbel4 ((still_refl _).drewN _) (Nat.le_refl _)⟩
                case measure => simp [intOf]; omega
              · obtain ⟨n', rfl⟩ : ∃ n', n = n' + 1 := ⟨n - 1, by omega⟩
                have v0 := (hbel4.cell (p := ⟨vb, vo + n', none⟩) hvb).trans (HVC.out n' (by omega))
                have hlt := lt_at HSR.out (show n' < n' + 1 by omega) (by rw [← HL.out]; exact hnL)
                rw [← HY.out] at hlt
                obtain ⟨y0, hy0⟩ : ∃ y0, y0 = l.getD n' 0 := ⟨_, rfl⟩
                rw [← hy0] at v0 hlt
                clear hy0
                have hidx : (((n' + 1 : Nat) : Int) - 1) = (n' : Int) := by omega
                go_wp2_with fail
                go_quiet (fail)
                go_wp2_with fail
                go_roundw
                case rel => exact ⟨n' + 1 + 1, by omega, by go_num, below_still hbel3 ((still_refl _).drewN _) (Nat.le_refl _), below_still hbel4 ((still_refl _).drewN _) (Nat.le_refl _)⟩
                case measure => simp [intOf]; omega
        · go_wp2_with fail
          obtain ⟨wo, rfl⟩ : ∃ wo : World, wo = wr := ⟨_, rfl⟩
          go_loopw [10] (fun j wr => ∃ c : Nat, c ≤ k ∧ j = .int .i64 c ∧ Below w.heap.size w wr) (fun j _ => k - (intOf j).toNat)
          case atStart => exact ⟨0, by omega, rfl, hbel⟩
          case round =>
            obtain ⟨c, hck, rfl, hbel3⟩ := hrel
            by_cases hck2 : c < k
            · obtain ⟨ab, ao, ha, hab, hz, hc⟩ := HC.out c hck2
              subst ha
              have c1 := (hbel3.cell (p := ⟨ab, ao + c, none⟩) hab).trans (hc c hck2)
              have hh := HHB.out (Z c % 64)
              rw [HHS.out c hck2] at hh
              obtain ⟨x, hx⟩ : ∃ x, x = Z c := ⟨_, rfl⟩
              rw [← hx] at c1 hz hh
              obtain ⟨hx0, hx1⟩ := hz
              have HH := Lib.hid hh
              clear hx hc hh
              go_wp2_with fail
              refine (HH.out _).mono ?_
              rintro e w4 ⟨rfl, rfl⟩
              go_wp2_with fail
              go_roundw
              case rel => exact ⟨c + 1, by omega, by go_num, hbel3⟩
              case measure => simp [intOf]; omega
            · go_wp2_with fail
              go_ret
              exact ⟨rfl, hbel3⟩
end Go.Proofs.YtpgkfmfdkbhljaaDoor
