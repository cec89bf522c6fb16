/-
  What stands here: where a deadline stands in a wheel, and what an advance does with it: plain laws. Under no condition.
-/
import Derived.Test.YthamdbfilpegjaaLevelState
import Derived.Test.YthamdbfilpegjaaTimesHigh
namespace Go.Proofs.Ythamdbfilpegjaa
set_option linter.unusedVariables false
set_option linter.unusedSimpArgs false
open Go.RowKit Go.Proofs

/-- the place of a deadline: 64 places a level, 256: beyond -/
def plc (d now : Nat) : Nat :=
  if d / 64 / 64 / 64 / 64 ≠ now / 64 / 64 / 64 / 64 then 256 else if d / 64 / 64 / 64 ≠ now / 64 / 64 / 64 then 192 + d / 64 / 64 / 64 % 64 else if d / 64 / 64 ≠ now / 64 / 64 then 128 + d / 64 / 64 % 64 else if d / 64 ≠ now / 64 then 64 + d / 64 % 64 else d % 64
theorem plc_lt (d now : Nat) : plc d now < 257 := by unfold plc; (repeat' split) <;> omega
/-- the place that is taken at a level -/
def tkp (n : Nat) : Nat → Nat
  | 4 => 256
  | 3 => 192 + n / 64 / 64 / 64 % 64
  | 2 => 128 + n / 64 / 64 % 64
  | 1 => 64 + n / 64 % 64
  | _ => n % 64
/-- is it taken? -/
def tkd (n : Nat) : Nat → Bool
  | 4 => n % 64 = 0 ∧ n / 64 % 64 = 0 ∧ n / 64 / 64 % 64 = 0 ∧ n / 64 / 64 / 64 % 64 = 0
  | 3 => n % 64 = 0 ∧ n / 64 % 64 = 0 ∧ n / 64 / 64 % 64 = 0
  | 2 => n % 64 = 0 ∧ n / 64 % 64 = 0
  | 1 => n % 64 = 0
  | _ => true
theorem tkp_lt (n l : Nat) : tkp n l < 257 := by unfold tkp; split <;> omega
theorem plc_step {d n : Nat} (h : n < d) : plc d (n + 1) = plc d n ∨ (tkd (n + 1) 4 = true ∧ plc d n = tkp (n + 1) 4) ∨ (tkd (n + 1) 3 = true ∧ plc d n = tkp (n + 1) 3) ∨ (tkd (n + 1) 2 = true ∧ plc d n = tkp (n + 1) 2) ∨ (tkd (n + 1) 1 = true ∧ plc d n = tkp (n + 1) 1) := by
  simp only [tkd, tkp, decide_eq_true_eq]
  obtain ⟨d1, hd1⟩ : ∃ x, x = d / 64 := ⟨_, rfl⟩
  obtain ⟨d2, hd2⟩ : ∃ x, x = d1 / 64 := ⟨_, rfl⟩
  obtain ⟨d3, hd3⟩ : ∃ x, x = d2 / 64 := ⟨_, rfl⟩
  obtain ⟨d4, hd4⟩ : ∃ x, x = d3 / 64 := ⟨_, rfl⟩
  obtain ⟨n1, hn1⟩ : ∃ x, x = n / 64 := ⟨_, rfl⟩
  obtain ⟨n2, hn2⟩ : ∃ x, x = n1 / 64 := ⟨_, rfl⟩
  obtain ⟨n3, hn3⟩ : ∃ x, x = n2 / 64 := ⟨_, rfl⟩
  obtain ⟨n4, hn4⟩ : ∃ x, x = n3 / 64 := ⟨_, rfl⟩
  obtain ⟨m1, hm1⟩ : ∃ x, x = (n + 1) / 64 := ⟨_, rfl⟩
  obtain ⟨m2, hm2⟩ : ∃ x, x = m1 / 64 := ⟨_, rfl⟩
  obtain ⟨m3, hm3⟩ : ∃ x, x = m2 / 64 := ⟨_, rfl⟩
  obtain ⟨m4, hm4⟩ : ∃ x, x = m3 / 64 := ⟨_, rfl⟩
  unfold plc
  rw [← hd1, ← hd2, ← hd3, ← hd4, ← hn1, ← hn2, ← hn3, ← hn4, ← hm1, ← hm2, ← hm3, ← hm4]
  have s1 : ((n + 1) % 64 = 0 ∧ m1 = n1 + 1) ∨ ((n + 1) % 64 ≠ 0 ∧ m1 = n1) := by omega
  have s2 : (m1 = n1 + 1 ∧ m1 % 64 = 0 ∧ m2 = n2 + 1) ∨ ((m1 ≠ n1 + 1 ∨ m1 % 64 ≠ 0) ∧ m2 = n2) := by omega
  have s3 : (m2 = n2 + 1 ∧ m2 % 64 = 0 ∧ m3 = n3 + 1) ∨ ((m2 ≠ n2 + 1 ∨ m2 % 64 ≠ 0) ∧ m3 = n3) := by omega
  have s4 : (m3 = n3 + 1 ∧ m3 % 64 = 0 ∧ m4 = n4 + 1) ∨ ((m3 ≠ n3 + 1 ∨ m3 % 64 ≠ 0) ∧ m4 = n4) := by omega
  have u1 : n1 ≤ d1 := by omega
  have u2 : n2 ≤ d2 := by omega
  have u3 : n3 ≤ d3 := by omega
  have u4 : n4 ≤ d4 := by omega
  by_cases e4 : d4 = n4
  · by_cases e3 : d3 = n3
    · by_cases e2 : d2 = n2
      · by_cases e1 : d1 = n1
        · -- level 0
          have : m1 = n1 := by omega
          have : m2 = n2 := by omega
          have : m3 = n3 := by omega
          have : m4 = n4 := by omega
          left
          rw [show m1 = n1 by omega, show m2 = n2 by omega, show m3 = n3 by omega, show m4 = n4 by omega]
        · have v2 : m2 = n2 := by omega
          have v3 : m3 = n3 := by omega
          have v4 : m4 = n4 := by omega
          by_cases f1 : d1 = m1
          · right; right; right; right
            constructor
            · omega
            · simp [e4, e3, e2, e1, f1]
              have : ¬ m1 = n1 := by omega
              simp [this]
          · left; rw [v4, v3, v2]; simp only [e4, e3, e2, ne_eq, not_true_eq_false, if_false, if_true, f1, e1, not_false_eq_true]
      · have v3 : m3 = n3 := by omega
        have v4 : m4 = n4 := by omega
        by_cases f2 : d2 = m2
        · right; right; right; left
          constructor
          · constructor <;> omega
          · have : ¬ m2 = n2 := by omega
            simp [e4, e3, e2, f2, this]
        · left; rw [v4, v3]; simp only [e4, e3, ne_eq, not_true_eq_false, if_false, if_true, f2, e2, not_false_eq_true]
    · have v4 : m4 = n4 := by omega
      by_cases f3 : d3 = m3
      · right; right; left
        constructor
        · refine ⟨?_, ?_, ?_⟩ <;> omega
        · have : ¬ m3 = n3 := by omega
          simp [e4, e3, f3, this]
      · left; rw [v4]; simp only [e4, ne_eq, not_true_eq_false, if_false, if_true, f3, e3, not_false_eq_true]
  · by_cases f4 : d4 = m4
    · right; left
      constructor
      · refine ⟨?_, ?_, ?_, ?_⟩ <;> omega
      · have : ¬ m4 = n4 := by omega
        simp [e4, f4, this]
    · left; simp only [ne_eq, if_true, f4, e4, not_false_eq_true]
theorem plc_due {d n : Nat} (h : plc d n = n % 64) : d = n := by
  unfold plc at h
  split at h
  · omega
  · split at h
    · omega
    · split at h
      · omega
      · split at h
        · omega
        · omega
theorem plc_self (n : Nat) : plc n n = n % 64 := by simp [plc]
/-- what is placed anew isn't taken at the same level again, but from beyond -/
theorem plc_tkp {d n l : Nat} (h1 : 1 ≤ l) (h3 : l ≤ 3) : plc d n ≠ tkp n l := by
  intro h
  obtain rfl | rfl | rfl : l = 1 ∨ l = 2 ∨ l = 3 := by omega
  all_goals
    simp only [tkp] at h
    unfold plc at h
    split at h
    · omega
    · split at h
      · omega
      · split at h
        · omega
        · split at h
          · omega
          · omega
theorem tkp_inj {n l l' : Nat} (h : l ≤ 4) (h' : l' ≤ 4) (e : tkp n l = tkp n l') : l = l' := by
  obtain rfl | rfl | rfl | rfl | rfl : l = 0 ∨ l = 1 ∨ l = 2 ∨ l = 3 ∨ l = 4 := by omega
  all_goals
    obtain rfl | rfl | rfl | rfl | rfl : l' = 0 ∨ l' = 1 ∨ l' = 2 ∨ l' = 3 ∨ l' = 4 := by omega
    all_goals first | rfl | (simp only [tkp] at e; omega)

section
variable {α : Type}
/-- one more stands at a place -/
def putAt (pl : Nat → List α) (q : Nat) (e : α) : Nat → List α := upd pl q (pl q ++ [e])
/-- all are placed, one behind the other -/
def plAll (due : α → Nat) (now : Nat) (pl : Nat → List α) (es : List α) : Nat → List α := es.foldl (fun p e => putAt p (plc (due e) now) e) pl
theorem plAll_nil (due : α → Nat) (now : Nat) (pl : Nat → List α) : plAll due now pl [] = pl := rfl
theorem plAll_snoc (due : α → Nat) (now : Nat) (pl : Nat → List α) (es : List α) (e : α) : plAll due now pl (es ++ [e]) = putAt (plAll due now pl es) (plc (due e) now) e := by
  unfold plAll; rw [List.foldl_append]; rfl
theorem plAll_at (due : α → Nat) (now : Nat) (q : Nat) : ∀ (es : List α) (pl : Nat → List α), plAll due now pl es q = pl q ++ es.filter (fun e => plc (due e) now == q)
  | [], pl => by simp [plAll]
  | e :: es, pl => by
    show plAll due now (putAt pl (plc (due e) now) e) es q = _
    rw [plAll_at due now q es]
    unfold putAt
    by_cases h : plc (due e) now = q
    · subst h; rw [upd_same]; simp
    · rw [upd_ne _ _ (Ne.symm h), List.filter_cons_of_neg (by simpa using h)]
/-- a place is emptied, and what stood there is placed anew -/
def agn (due : α → Nat) (now : Nat) (q : Nat) (pl : Nat → List α) : Nat → List α := plAll due now (upd pl q []) (pl q)
theorem agn_at (due : α → Nat) (now q r : Nat) (pl : Nat → List α) : agn due now q pl r = (if r = q then [] else pl r) ++ (pl q).filter (fun e => plc (due e) now == r) := by
  unfold agn; rw [plAll_at]; rfl
/-- the levels from the fourth on, j of them, have come down -/
def stg (due : α → Nat) (now : Nat) (pl : Nat → List α) : Nat → Nat → List α
  | 0 => pl
  | j + 1 => if tkd now (4 - j) then agn due now (tkp now (4 - j)) (stg due now pl j) else stg due now pl j
theorem stg_skip (due : α → Nat) (now : Nat) (pl : Nat → List α) (z : Nat) (h : ∀ l, l ≤ 4 → z < l → tkd now l = false) : ∀ j, j + z ≤ 4 → stg due now pl j = pl
  | 0, _ => rfl
  | j + 1, hj => by
    show (if tkd now (4 - j) then _ else _) = _
    rw [h (4 - j) (by omega) (by omega)]
    simpa using stg_skip due now pl z h j (by omega)
/-- all stand where they are to stand -/
def Right (due : α → Nat) (n : Nat) (pl : Nat → List α) : Prop := ∀ q e, q < 257 → e ∈ pl q → n < due e ∧ plc (due e) n = q
def Half (due : α → Nat) (n j : Nat) (pl : Nat → List α) : Prop := ∀ q e, q < 257 → e ∈ pl q → n ≤ due e ∧ (plc (due e) n = q ∨ ∃ l, 1 ≤ l ∧ l + j ≤ 4 ∧ tkd n l = true ∧ q = tkp n l)
theorem Right.half {due : α → Nat} {n : Nat} {pl : Nat → List α} (h : Right due n pl) : Half due (n + 1) 0 pl := fun q e hq he => by
  obtain ⟨h1, h2⟩ := h q e hq he
  refine ⟨h1, ?_⟩
  subst h2
  rcases plc_step h1 with h3 | ⟨h3, h4⟩ | ⟨h3, h4⟩ | ⟨h3, h4⟩ | ⟨h3, h4⟩
  · exact .inl h3
  · exact .inr ⟨4, by omega, by omega, h3, h4⟩
  · exact .inr ⟨3, by omega, by omega, h3, h4⟩
  · exact .inr ⟨2, by omega, by omega, h3, h4⟩
  · exact .inr ⟨1, by omega, by omega, h3, h4⟩
theorem Half.step {due : α → Nat} {n j : Nat} {pl p : Nat → List α} (hj : j < 4) (h : Half due n j (stg due n pl j)) : Half due n (j + 1) (stg due n pl (j + 1)) := by
  show Half due n (j + 1) (if tkd n (4 - j) then _ else _)
  by_cases hk : tkd n (4 - j) = true
  · rw [if_pos hk]
    intro q e hq he
    rw [agn_at, List.mem_append] at he
    rcases he with he | he
    · by_cases h9 : q = tkp n (4 - j)
      · rw [if_pos h9] at he; cases he
      · rw [if_neg h9] at he
        obtain ⟨h1, h2⟩ := h q e hq he
        refine ⟨h1, ?_⟩
        rcases h2 with h2 | ⟨l, h3, h4, h5, h6⟩
        · exact .inl h2
        · refine .inr ⟨l, h3, ?_, h5, h6⟩
          rcases Nat.lt_or_ge (l + j) 4 with h7 | h7
          · omega
          · exact absurd h6 (by rw [show l = 4 - j by omega]; exact h9)
    · rw [List.mem_filter] at he
      exact ⟨(h _ e (tkp_lt _ _) he.1).1, .inl (by simpa using he.2)⟩
  · rw [if_neg hk]
    intro q e hq he
    obtain ⟨h1, h2⟩ := h q e hq he
    refine ⟨h1, ?_⟩
    rcases h2 with h2 | ⟨l, h3, h4, h5, h6⟩
    · exact .inl h2
    · refine .inr ⟨l, h3, ?_, h5, h6⟩
      rcases Nat.lt_or_ge (l + j) 4 with h7 | h7
      · omega
      · exact absurd h5 (by rw [show l = 4 - j by omega]; exact hk)
theorem Right.done {due : α → Nat} {n : Nat} {pl : Nat → List α} (h : Right due n pl) : ∀ q e, q < 257 → e ∈ stg due (n + 1) pl 4 q → n + 1 ≤ due e ∧ plc (due e) (n + 1) = q := fun q e hq he => by
  have h4 := Half.step (p := pl) (by omega) (Half.step (p := pl) (by omega) (Half.step (p := pl) (by omega) (Half.step (j := 0) (p := pl) (by omega) h.half)))
  obtain ⟨h1, h2⟩ := h4 q e hq he
  refine ⟨h1, ?_⟩
  rcases h2 with h2 | ⟨l, h3, h4, h5, h6⟩
  · exact h2
  · omega
/-- what is due -/
def outOf (due : α → Nat) (n : Nat) (pl : Nat → List α) : List α := stg due n pl 4 (n % 64)
/-- what stays -/
def restOf (due : α → Nat) (n : Nat) (pl : Nat → List α) : Nat → List α := upd (stg due n pl 4) (n % 64) []
theorem Right.rest {due : α → Nat} {n : Nat} {pl : Nat → List α} (h : Right due n pl) : Right due (n + 1) (restOf due (n + 1) pl) := fun q e hq he => by
  unfold restOf at he
  by_cases h9 : q = (n + 1) % 64
  · rw [h9, upd_same] at he; cases he
  · rw [upd_ne _ _ h9] at he
    obtain ⟨h1, h2⟩ := h.done q e hq he
    refine ⟨?_, h2⟩
    rcases Nat.lt_or_ge (n + 1) (due e) with h3 | h3
    · exact h3
    · obtain rfl' : due e = n + 1 := by omega
      rw [rfl', plc_self] at h2
      exact absurd h2.symm h9
theorem Right.out {due : α → Nat} {n : Nat} {pl : Nat → List α} (h : Right due n pl) {e : α} (he : e ∈ outOf due (n + 1) pl) : due e = n + 1 :=
  plc_due (h.done _ e (by omega) he).2
/-- e stands somewhere -/
def Stands (pl : Nat → List α) (e : α) : Prop := ∃ q, q < 257 ∧ e ∈ pl q
theorem stands_agn (due : α → Nat) (now q : Nat) (hq : q < 257) (pl : Nat → List α) (e : α) : Stands (agn due now q pl) e ↔ Stands pl e := by
  constructor
  · rintro ⟨r, hr, he⟩
    rw [agn_at, List.mem_append] at he
    rcases he with he | he
    · split at he
      · cases he
      · exact ⟨r, hr, he⟩
    · exact ⟨q, hq, (List.mem_filter.1 he).1⟩
  · rintro ⟨r, hr, he⟩
    by_cases h : r = q
    · subst h
      refine ⟨plc (due e) now, plc_lt _ _, ?_⟩
      rw [agn_at, List.mem_append]
      exact .inr (List.mem_filter.2 ⟨he, by simp⟩)
    · refine ⟨r, hr, ?_⟩
      rw [agn_at, List.mem_append, if_neg h]; exact .inl he
theorem stands_stg (due : α → Nat) (now : Nat) (pl : Nat → List α) (e : α) : ∀ j, Stands (stg due now pl j) e ↔ Stands pl e
  | 0 => Iff.rfl
  | j + 1 => by
    show Stands (if tkd now (4 - j) then _ else _) e ↔ _
    split
    · rw [stands_agn _ _ _ (tkp_lt _ _)]; exact stands_stg due now pl e j
    · exact stands_stg due now pl e j
theorem Right.out_iff {due : α → Nat} {n : Nat} {pl : Nat → List α} (h : Right due n pl) (e : α) : e ∈ outOf due (n + 1) pl ↔ Stands pl e ∧ due e = n + 1 := by
  constructor
  · intro he
    exact ⟨(stands_stg due (n + 1) pl e 4).1 ⟨_, by omega, he⟩, h.out he⟩
  · rintro ⟨h1, h2⟩
    obtain ⟨q, hq, he⟩ := (stands_stg due (n + 1) pl e 4).2 h1
    obtain ⟨_, h3⟩ := h.done q e hq he
    rw [h2, plc_self] at h3
    unfold outOf; rw [h3]; exact he
theorem Right.rest_iff {due : α → Nat} {n : Nat} {pl : Nat → List α} (h : Right due n pl) (e : α) : Stands (restOf due (n + 1) pl) e ↔ Stands pl e ∧ due e ≠ n + 1 := by
  constructor
  · rintro ⟨q, hq, he⟩
    have h9 := (h.rest q e hq he).1
    unfold restOf at he
    by_cases h8 : q = (n + 1) % 64
    · rw [h8, upd_same] at he; cases he
    · rw [upd_ne _ _ h8] at he
      exact ⟨(stands_stg due (n + 1) pl e 4).1 ⟨q, hq, he⟩, by omega⟩
  · rintro ⟨h1, h2⟩
    obtain ⟨q, hq, he⟩ := (stands_stg due (n + 1) pl e 4).2 h1
    obtain ⟨_, h3⟩ := h.done q e hq he
    refine ⟨q, hq, ?_⟩
    unfold restOf
    rw [upd_ne _ _ (fun e9 => h2 (plc_due (h3.trans e9)))]; exact he
/-- maps commute with it -/
theorem plAll_map {β : Type} (f : α → β) (D : α → Nat) (due : β → Nat) (now : Nat) (es : List α) (he : ∀ x ∈ es, due (f x) = D x) (P : Nat → List α) (q : Nat) : plAll due now (fun r => (P r).map f) (es.map f) q = (plAll D now P es q).map f := by
  rw [plAll_at, plAll_at, List.map_append, List.filter_map]
  congr 2
  exact List.filter_congr fun x hx => by simp only [Function.comp]; rw [he x hx]
end
theorem div_nest2 (x : Nat) : (x : Int) / 64 ^ 2 = ((x / 64 / 64 : Nat) : Int) := by rw [Nat.div_div_eq_div_mul]; omega
theorem div_nest3 (x : Nat) : (x : Int) / 64 ^ 3 = ((x / 64 / 64 / 64 : Nat) : Int) := by rw [Nat.div_div_eq_div_mul, Nat.div_div_eq_div_mul]; omega
theorem div_nest4 (x : Nat) : (x : Int) / 64 ^ 4 = ((x / 64 / 64 / 64 / 64 : Nat) : Int) := by rw [Nat.div_div_eq_div_mul, Nat.div_div_eq_div_mul, Nat.div_div_eq_div_mul]; omega
/-- the program's place: beyond, or a slot of a level -/
theorem plc_apart {d now : Nat} {k : Int} (h : ApartIs d now k) : (4 ≤ max 0 k → plc d now = 256) ∧ (max 0 k < 4 → (plc d now : Int) = max 0 k * 64 + dg d (max 0 k).toNat) := by
  have h1 := h.2.2 1
  have h2 := h.2.2 2
  have h3 := h.2.2 3
  have h4 := h.2.2 4
  rw [Int.pow_one] at h1
  rw [div_nest2, div_nest2, Int.ofNat_inj] at h2
  rw [div_nest3, div_nest3, Int.ofNat_inj] at h3
  rw [div_nest4, div_nest4, Int.ofNat_inj] at h4
  have h1' : d / 64 = now / 64 ↔ k < 1 := by
    rw [← Int.natCast_one, ← h1]; omega
  clear h1 h
  constructor
  · intro hk
    have : ¬ (d / 64 / 64 / 64 / 64 = now / 64 / 64 / 64 / 64) := by rw [h4]; omega
    unfold plc
    rw [if_pos this]
  · intro hk
    unfold plc dg
    have e4 : d / 64 / 64 / 64 / 64 = now / 64 / 64 / 64 / 64 := h4.2 (by omega)
    rw [if_neg (fun h => h e4)]
    by_cases k3 : k = 3
    · subst k3
      rw [if_pos (by rw [ne_eq, h3]; omega), show (max 0 (3 : Int)).toNat = 3 by rfl, div_nest3, show max 0 (3 : Int) = 3 by rfl]; omega
    · have e3 := h3.2 (by omega)
      rw [if_neg (fun h => h e3)]
      by_cases k2 : k = 2
      · subst k2
        rw [if_pos (by rw [ne_eq, h2]; omega), show (max 0 (2 : Int)).toNat = 2 by rfl, div_nest2, show max 0 (2 : Int) = 2 by rfl]; omega
      · have e2 := h2.2 (by omega)
        rw [if_neg (fun h => h e2)]
        by_cases k1 : k = 1
        · subst k1
          rw [if_pos (by rw [ne_eq, h1']; omega), show (max 0 (1 : Int)).toNat = 1 by rfl, Int.pow_one, show max 0 (1 : Int) = 1 by rfl]; omega
        · have e1 := h1'.2 (by omega)
          rw [if_neg (fun h => h e1), show max 0 k = 0 by omega]; simp
end Go.Proofs.Ythamdbfilpegjaa
