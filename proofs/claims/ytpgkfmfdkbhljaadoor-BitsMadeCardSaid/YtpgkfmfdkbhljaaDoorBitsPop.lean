/-
  What stands here: how many slots a word has, by the library's function. Under the condition that the word is one.
-/
import Derived.Test.YtpgkfmfdkbhljaaDoorBitsMath
import Derived.Laws.Bits128
namespace Go.Proofs.YtpgkfmfdkbhljaaDoor
set_option linter.unusedVariables false
set_option linter.unusedSimpArgs false
open Go.RowKit Go.Proofs

theorem and_split {a c q d : Nat} (ha : a < 256) (hc : c < 256) : (a + 256 * q) &&& (c + 256 * d) = (a &&& c) + 256 * (q &&& d) := by
  have h1 : ((a + 256 * q) &&& (c + 256 * d)) % 2 ^ 8 = a &&& c := by
    rw [Nat.and_mod_two_pow]
    congr 1 <;> omega
  have h2 : ((a + 256 * q) &&& (c + 256 * d)) / 2 ^ 8 = q &&& d := by
    rw [Nat.and_div_two_pow]
    congr 1 <;> omega
  rw [← h1, ← h2]
  generalize (a + 256 * q) &&& (c + 256 * d) = X
  omega
def rep (c : Nat) : Nat → Nat
  | 0 => 0
  | n + 1 => c + 256 * rep c n
def s1 (n x : Nat) : Nat := (x / 2 &&& rep 85 n) + (x &&& rep 85 n)
def s2 (n x : Nat) : Nat := (x / 4 &&& rep 51 n) + (x &&& rep 51 n)
def s3 (n x : Nat) : Nat := (x / 16 + x) &&& rep 15 n
def cnt (k x : Nat) : Nat := ((List.range k).filter fun i => x.testBit i).length
theorem b1_and : ∀ (b : Fin 256) (t : Fin 2), (b.val / 2 + 128 * t.val) &&& 85 = b.val / 2 &&& 85 := by decide +kernel
theorem b2_and : ∀ (b : Fin 256) (t : Fin 4), (b.val / 4 + 64 * t.val) &&& 51 = b.val / 4 &&& 51 := by decide +kernel
theorem s1_step (n b q : Nat) (hb : b < 256) : s1 (n + 1) (b + 256 * q) = s1 1 b + 256 * s1 n q := by
  unfold s1
  rw [show rep 85 (n + 1) = 85 + 256 * rep 85 n from rfl, show rep 85 1 = 85 from rfl]
  rw [show (b + 256 * q) / 2 = (b / 2 + 128 * (q % 2)) + 256 * (q / 2) by omega, and_split (by omega) (by omega), and_split hb (by omega)]
  have h := b1_and ⟨b, hb⟩ ⟨q % 2, by omega⟩
  simp only at h
  rw [h]
  omega
theorem s2_step (n b q : Nat) (hb : b < 256) : s2 (n + 1) (b + 256 * q) = s2 1 b + 256 * s2 n q := by
  unfold s2
  rw [show rep 51 (n + 1) = 51 + 256 * rep 51 n from rfl, show rep 51 1 = 51 from rfl]
  rw [show (b + 256 * q) / 4 = (b / 4 + 64 * (q % 4)) + 256 * (q / 4) by omega, and_split (by omega) (by omega), and_split hb (by omega)]
  have h := b2_and ⟨b, hb⟩ ⟨q % 4, by omega⟩
  simp only at h
  rw [h]
  omega
theorem and15 (x : Nat) : x &&& 15 = x % 16 := by rw [show 15 = 2 ^ 4 - 1 from rfl, Nat.and_two_pow_sub_one_eq_mod]
theorem s3_step (n b q : Nat) (hb : b / 16 + 16 * (q % 16) + b < 256) : s3 (n + 1) (b + 256 * q) = (b / 16 + b) % 16 + 256 * s3 n q := by
  unfold s3
  rw [show (b + 256 * q) / 16 + (b + 256 * q) = (b / 16 + 16 * (q % 16) + b) + 256 * (q / 16 + q) by omega, show rep 15 (n + 1) = 15 + 256 * rep 15 n from rfl, and_split hb (by omega), and15]
  omega
theorem byte_pop : ∀ b : Fin 256, s1 1 b.val < 256 ∧ s2 1 (s1 1 b.val) ≤ 68 ∧ s2 1 (s1 1 b.val) % 16 ≤ 4 ∧ (s2 1 (s1 1 b.val) / 16 + s2 1 (s1 1 b.val)) % 16 = cnt 8 b.val ∧ cnt 8 b.val ≤ 8 := by decide +kernel
def tri (n x : Nat) : Nat := s3 n (s2 n (s1 n x))
theorem low_nibble (n q : Nat) : s2 n (s1 n q) % 16 ≤ 4 := by
  cases n with
  | zero => simp [s1, s2, rep]
  | succ n =>
    have e : q = q % 256 + 256 * (q / 256) := by omega
    have hbp := byte_pop ⟨q % 256, by omega⟩
    have h1 : s1 1 (q % 256) < 256 := hbp.1
    have h3 : s2 1 (s1 1 (q % 256)) % 16 ≤ 4 := hbp.2.2.1
    clear hbp
    rw [e, s1_step _ _ _ (by omega), s2_step _ _ _ h1]
    omega
theorem tri_step (n b q : Nat) (hb : b < 256) : tri (n + 1) (b + 256 * q) = cnt 8 b + 256 * tri n q := by
  obtain ⟨h1, h2, h3, h4, _⟩ := byte_pop ⟨b, hb⟩
  simp only at h1 h2 h3 h4
  have h5 := low_nibble n q
  unfold tri
  rw [s1_step _ _ _ hb, s2_step _ _ _ h1, s3_step _ _ _ (by omega), h4]
theorem cnt_step (k x : Nat) : cnt (8 + k) x = cnt 8 (x % 256) + cnt k (x / 256) := by
  unfold cnt
  rw [List.range_add, List.filter_append, List.length_append, List.filter_map, List.length_map]
  congr 2
  · apply List.filter_congr
    intro i hi
    rw [show x % 256 = x % 2 ^ 8 from rfl, Nat.testBit_mod_two_pow]
    simp at hi
    simp [hi]
  · apply List.filter_congr
    intro i hi
    rw [show x / 256 = x / 2 ^ 8 from rfl, Nat.testBit_div_two_pow]
    simp [Nat.add_comm]
theorem pop_low {t : Nat} {p0 p1 p2 p3 p4 p5 p6 p7 : Nat} (h0 : p0 ≤ 8) (h1 : p1 ≤ 8) (h2 : p2 ≤ 8) (h3 : p3 ≤ 8) (h4 : p4 ≤ 8) (h5 : p5 ≤ 8) (h6 : p6 ≤ 8) (h7 : p7 ≤ 8)
    (ht : t = p0 + 256 * (p1 + 256 * (p2 + 256 * (p3 + 256 * (p4 + 256 * (p5 + 256 * (p6 + 256 * p7))))))) {a b d : Nat} (ha : a = t + t / 256) (hb : b = a + a / 65536) (hd : d = b + b / 4294967296) :
    d % 128 = p0 + (p1 + (p2 + (p3 + (p4 + (p5 + (p6 + p7)))))) ∧ t < 10 ^ 18 := by
  subst ht
  have e1 : (p0 + 256 * (p1 + 256 * (p2 + 256 * (p3 + 256 * (p4 + 256 * (p5 + 256 * (p6 + 256 * p7))))))) / 256 = p1 + 256 * (p2 + 256 * (p3 + 256 * (p4 + 256 * (p5 + 256 * (p6 + 256 * p7))))) := by omega
  rw [e1] at ha
  have e2 : a = (p0 + p1) + 256 * ((p1 + p2) + 256 * ((p2 + p3) + 256 * ((p3 + p4) + 256 * ((p4 + p5) + 256 * ((p5 + p6) + 256 * ((p6 + p7) + 256 * p7)))))) := by omega
  clear ha e1
  have e3 : a / 65536 = (p2 + p3) + 256 * ((p3 + p4) + 256 * ((p4 + p5) + 256 * ((p5 + p6) + 256 * ((p6 + p7) + 256 * p7)))) := by omega
  have e4 : b = (p0 + p1 + p2 + p3) + 256 * ((p1 + p2 + p3 + p4) + 256 * ((p2 + p3 + p4 + p5) + 256 * ((p3 + p4 + p5 + p6) + 256 * ((p4 + p5 + p6 + p7) + 256 * ((p5 + p6 + p7) + 256 * ((p6 + p7) + 256 * p7)))))) := by omega
  clear hb e2 e3
  have e5 : b / 4294967296 = (p4 + p5 + p6 + p7) + 256 * ((p5 + p6 + p7) + 256 * ((p6 + p7) + 256 * p7)) := by omega
  rw [e5] at hd
  refine ⟨by omega, by omega⟩

theorem cnt_le8 (x : Nat) : cnt 8 x ≤ 8 := by unfold cnt; exact Nat.le_trans (List.length_filter_le _ _) (by simp)
theorem tri_8 (x : Nat) {a b d : Nat} (ha : a = tri 8 x + tri 8 x / 256) (hb : b = a + a / 65536) (hd : d = b + b / 4294967296) : d % 128 = (slots x).length ∧ tri 8 x < 10 ^ 18 := by
  have st : ∀ n y, tri (n + 1) y = cnt 8 (y % 256) + 256 * tri n (y / 256) := fun n y => by
    have := tri_step n (y % 256) (y / 256) (by omega)
    rwa [show y % 256 + 256 * (y / 256) = y by omega] at this
  have ht : tri 8 x = cnt 8 (x % 256) + 256 * (cnt 8 (x / 256 % 256) + 256 * (cnt 8 (x / 256 / 256 % 256) + 256 * (cnt 8 (x / 256 / 256 / 256 % 256) + 256 * (cnt 8 (x / 256 / 256 / 256 / 256 % 256) + 256 * (cnt 8 (x / 256 / 256 / 256 / 256 / 256 % 256) + 256 * (cnt 8 (x / 256 / 256 / 256 / 256 / 256 / 256 % 256) + 256 * cnt 8 (x / 256 / 256 / 256 / 256 / 256 / 256 / 256 % 256))))))) := by
    rw [st 7, st 6, st 5, st 4, st 3, st 2, st 1, st 0, show tri 0 (x / 256 / 256 / 256 / 256 / 256 / 256 / 256 / 256) = 0 by simp [tri, s3, rep]]
    rfl
  have hc : (slots x).length = cnt 8 (x % 256) + (cnt 8 (x / 256 % 256) + (cnt 8 (x / 256 / 256 % 256) + (cnt 8 (x / 256 / 256 / 256 % 256) + (cnt 8 (x / 256 / 256 / 256 / 256 % 256) + (cnt 8 (x / 256 / 256 / 256 / 256 / 256 % 256) + (cnt 8 (x / 256 / 256 / 256 / 256 / 256 / 256 % 256) + cnt 8 (x / 256 / 256 / 256 / 256 / 256 / 256 / 256 % 256))))))) := by
    show cnt 64 x = _
    rw [show 64 = 8 + 56 from rfl, cnt_step, show 56 = 8 + 48 from rfl, cnt_step, show 48 = 8 + 40 from rfl, cnt_step, show 40 = 8 + 32 from rfl, cnt_step, show 32 = 8 + 24 from rfl, cnt_step, show 24 = 8 + 16 from rfl, cnt_step, show 16 = 8 + 8 from rfl, cnt_step, show cnt 8 (x / 256 / 256 / 256 / 256 / 256 / 256 / 256) = cnt (8 + 0) (x / 256 / 256 / 256 / 256 / 256 / 256 / 256) from rfl, cnt_step]
    rfl
  rw [hc]
  exact pop_low (cnt_le8 _) (cnt_le8 _) (cnt_le8 _) (cnt_le8 _) (cnt_le8 _) (cnt_le8 _) (cnt_le8 _) (cnt_le8 _) ht ha hb hd

theorem wrap_in (n : Int) (h0 : 0 ≤ n) (h1 : n < 18446744073709551616) : IntKind.u64.wrap n = n := by rw [IntKind.wrap_u64]; omega
set_option maxRecDepth 100000 in
set_option maxHeartbeats 2000000 in
theorem ones_any (m : Nat) (hm : m < 18446744073709551616) (w : World) :
    Calls Tryd.prog 23 #[.int .u64 m] w fun e w' => e = .returned (.int .i64 ((slots m).length : Nat)) ∧ w = w' := by
  have r1 : rep 85 8 = 6148914691236517205 := by decide
  have r2 : rep 51 8 = 3689348814741910323 := by decide
  have r3 : rep 15 8 = 1085102592571150095 := by decide
  have a1 := bits_and_u64_nat (m / 2) 6148914691236517205 (by omega) (by omega)
  have a2 := bits_and_u64_nat m 6148914691236517205 hm (by omega)
  have l1 : m / 2 &&& 6148914691236517205 ≤ 6148914691236517205 := Nat.and_le_right
  have l2 : m &&& 6148914691236517205 ≤ 6148914691236517205 := Nat.and_le_right
  have e1 : s1 8 m = (m / 2 &&& 6148914691236517205) + (m &&& 6148914691236517205) := by unfold s1; rw [r1]
  generalize m / 2 &&& 6148914691236517205 = u1 at *
  generalize m &&& 6148914691236517205 = u2 at *
  obtain ⟨x1, hx1⟩ : ∃ x1, x1 = s1 8 m := ⟨_, rfl⟩
  rw [← hx1] at e1
  have b1 := bits_and_u64_nat (x1 / 4) 3689348814741910323 (by omega) (by omega)
  have b2 := bits_and_u64_nat x1 3689348814741910323 (by omega) (by omega)
  have m1 : x1 / 4 &&& 3689348814741910323 ≤ 3689348814741910323 := Nat.and_le_right
  have m2 : x1 &&& 3689348814741910323 ≤ 3689348814741910323 := Nat.and_le_right
  have e2 : s2 8 x1 = (x1 / 4 &&& 3689348814741910323) + (x1 &&& 3689348814741910323) := by unfold s2; rw [r2]
  generalize x1 / 4 &&& 3689348814741910323 = v1 at *
  generalize x1 &&& 3689348814741910323 = v2 at *
  obtain ⟨x2, hx2⟩ : ∃ x2, x2 = s2 8 x1 := ⟨_, rfl⟩
  rw [← hx2] at e2
  have c1 := bits_and_u64_nat (x2 / 16 + x2) 1085102592571150095 (by omega) (by omega)
  have e3 : s3 8 x2 = (x2 / 16 + x2) &&& 1085102592571150095 := by unfold s3; rw [r3]
  generalize (x2 / 16 + x2) &&& 1085102592571150095 = x3 at *
  have ht : x3 = tri 8 m := by rw [← e3, hx2, hx1]; rfl
  obtain ⟨hd, hlt⟩ := tri_8 m rfl rfl rfl
  rw [← ht] at hd hlt
  have HD := Lib.hid hd
  clear hd ht e3 hx1 hx2 r1 r2 r3
  have a1' : bits BinOp.and IntKind.u64 ((m : Int) / 2) 6148914691236517205 = (u1 : Int) := by rw [show ((m : Int) / 2) = ((m / 2 : Nat) : Int) by omega]; exact a1
  have b1' : bits BinOp.and IntKind.u64 ((x1 : Int) / 4) 3689348814741910323 = (v1 : Int) := by rw [show ((x1 : Int) / 4) = ((x1 / 4 : Nat) : Int) by omega]; exact b1
  have a2' : bits BinOp.and IntKind.u64 (m : Int) 6148914691236517205 = (u2 : Int) := a2
  have b2' : bits BinOp.and IntKind.u64 (x1 : Int) 3689348814741910323 = (v2 : Int) := b2
  have c1' : bits BinOp.and IntKind.u64 (IntKind.u64.wrap ((x2 : Int) / 16 + x2)) 1085102592571150095 = (x3 : Int) := by rw [wrap_in _ (by omega) (by omega), show ((x2 : Int) / 16 + x2) = ((x2 / 16 + x2 : Nat) : Int) by omega]; exact c1
  have q1 : IntKind.u64.wrap ((u1 : Int) + u2) = (x1 : Int) := by rw [wrap_in _ (by omega) (by omega)]; omega
  have q2 : IntKind.u64.wrap ((v1 : Int) + v2) = (x2 : Int) := by rw [wrap_in _ (by omega) (by omega)]; omega
  obtain ⟨y1, hy1⟩ : ∃ y1, y1 = x3 + x3 / 256 := ⟨_, rfl⟩
  obtain ⟨y2, hy2⟩ : ∃ y2, y2 = y1 + y1 / 65536 := ⟨_, rfl⟩
  obtain ⟨y3, hy3⟩ : ∃ y3, y3 = y2 + y2 / 4294967296 := ⟨_, rfl⟩
  rw [← hy1, ← hy2, ← hy3] at HD
  have q3 : IntKind.u64.wrap ((x3 : Int) + (x3 : Int) / 256) = (y1 : Int) := by rw [wrap_in _ (by omega) (by omega)]; omega
  have q4 : IntKind.u64.wrap ((y1 : Int) + (y1 : Int) / 65536) = (y2 : Int) := by rw [wrap_in _ (by omega) (by omega)]; omega
  have q5 : IntKind.u64.wrap ((y2 : Int) + (y2 : Int) / 4294967296) = (y3 : Int) := by rw [wrap_in _ (by omega) (by omega)]; omega
  have hy : y3 < 9223372036854775808 := by omega
  have q6 : bits BinOp.and IntKind.i64 (y3 : Int) 127 = ((slots m).length : Int) := by rw [i64_and127]; have := HD.out; omega
  clear a1 a2 b1 b2 c1 l1 l2 m1 m2 e1 e2 hy1 hy2 hy3 hlt
  go_enter Tryd.func23, Tryd.ntmps23
  go_wp2
  go_ret
  exact ⟨rfl, rfl⟩
theorem len_any (m : Nat) (hm : m < 18446744073709551616) (w : World) :
    Calls Tryd.prog 19 #[.int .u64 m] w fun e w' => e = .returned (.int .i64 ((slots m).length : Nat)) ∧ w = w' := by
  go_enter Tryd.func19, Tryd.ntmps19
  go_wp2_with fail
  refine (ones_any m hm w).mono ?_
  rintro e w1 ⟨rfl, rfl⟩
  go_wp2_with fail
  go_ret
  exact ⟨rfl, rfl⟩
end Go.Proofs.YtpgkfmfdkbhljaaDoor
