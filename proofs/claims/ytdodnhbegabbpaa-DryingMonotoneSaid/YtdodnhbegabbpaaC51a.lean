/- Chapter 51: what its functions compute. -/
import Derived.Test.YtdodnhbegabbpaaL51
import Derived.Test.YtdodnhbegabbpaaVF
namespace Go.Vm.Ch51
open _root_.Ch51 (T51 c12 c13 c14 c15 c16 c17 c18 c19 c20 c21 c22 c35 c36 c37 c38 c39 c40 c50 c51 c52 c64 c65)
set_option maxRecDepth 10000
set_option maxHeartbeats 4000000
abbrev iv (nn : Bool) (zs : List Int) : AV := vv none nn (AV.int .i64) zs

theorem q35 (t : Int) (m : Mem) : callL T51 35 [AV.int IntKind.i64 t] m = some (.bool (decide (1 ≤ t ∧ t ≤ 1000000)), m) := by
  apply callL_body (vf := c35) rfl rfl
  simp [c35]
  by_cases h : 1 ≤ t <;> by_cases h2 : t ≤ 1000000 <;> simp [h, h2]
  all_goals omega
theorem q64 (t : Int) (m : Mem) : callL T51 64 [AV.int IntKind.i64 t] m = some (.bool false, m) := by
  apply callL_body (vf := c64) rfl rfl
  simp [c64]
theorem q65 (t : Int) (m : Mem) : callL T51 65 [AV.int IntKind.i64 t] m = some (.bool false, m) := by
  apply callL_body (vf := c65) rfl rfl
  simp [c65]
theorem q52 (a b : Int) (m : Mem) : callL T51 52 [AV.int IntKind.i64 a, AV.int IntKind.i64 b] m = some (.bool (decide (a < b)), m) := by
  apply callL_body (vf := c52) rfl rfl
  simp [c52, q65]
theorem q38 (t : Int) (m : Mem) : callL T51 38 [AV.int IntKind.i64 t] m = some (.bool (!decide (1 ≤ t ∧ t ≤ 1000000)), m) := by
  apply callL_body (vf := c38) rfl rfl
  simp [c38, q35]
theorem q39 (t : Int) (m : Mem) : callL T51 39 [AV.int IntKind.i64 t] m = some (.bool (decide (t < 0 ∨ 1000000 < t)), m) := by
  apply callL_body (vf := c39) rfl rfl
  simp [c39]
  by_cases h : t < 0 <;> by_cases h2 : 1000000 < t <;> simp [h, h2]
  all_goals omega
theorem q51 (zs : List Int) (nn : Bool) (g : FuncId) (caps : List AV) (p : Int → Bool) (hp : ∀ z ∈ zs, callL T51 g (AV.int IntKind.i64 z :: caps.map AV.view) [] = some (.bool (p z), [])) (hlen : (zs.length : Int) < 9223372036854775807) (m : Mem) :
    callL T51 51 [iv nn zs, .fn (.func g) caps] m = some (AV.int IntKind.i64 (match zs.findIdx? p with | some i => (i : Int) | none => -1), m) := by
  apply callL_body (vf := c51) rfl rfl
  simp [c51]
  refine wp_loop (fun n s => ∃ i : Nat, n = zs.length - i ∧ i ≤ zs.length ∧ s.get 0 = iv nn zs ∧ s.get 1 = .fn (.func g) caps ∧ s.get 7 = AV.int IntKind.i64 zs.length ∧ s.get 8 = AV.int IntKind.i64 i ∧ s.mem = m ∧ ∀ j (h : j < zs.length), j < i → p zs[j] = false) ?_ zs.length _ ?_
  rotate_left
  · exact ⟨0, by simp⟩
  rintro n s ⟨i, hn, hi, h0, h1, h7, h8, hm, hbef⟩
  simp [h0, h1, h7, h8, hm]
  refine ⟨fun h => ⟨h, ?_⟩, fun h => ?_⟩
  · rw [gi_nat h, hp _ (List.getElem_mem h)]
    simp [h0, h1, h7, h8, hm]
    refine ⟨fun hpi => ?_, fun hpi => ?_⟩
    · have : zs.findIdx? p = some i := by
        rw [List.findIdx?_eq_some_iff_getElem]
        exact ⟨h, hpi, fun j hj => by simp [hbef j (by omega) hj]⟩
      rw [this]
    · refine ⟨zs.length - (i + 1), by omega, i + 1, rfl, by omega, by rw [wrap64 (by omega) (by omega)]; rfl, fun j hj hlt => ?_⟩
      rcases Nat.lt_succ_iff_lt_or_eq.1 hlt with h' | rfl
      · exact hbef j hj h'
      · exact hpi
  · have : zs.findIdx? p = none := by
      rw [List.findIdx?_eq_none_iff]
      intro x hx
      obtain ⟨j, hj, rfl⟩ := List.getElem_of_mem hx
      exact hbef j hj (by omega)
    rw [this]
theorem q37 (zs : List Int) (nn : Bool) (g : FuncId) (p : Int → Bool) (hp : ∀ z ∈ zs, callL T51 g [AV.int IntKind.i64 z] [] = some (.bool (p z), [])) (hlen : (zs.length : Int) < 9223372036854775807) (m : Mem) :
    callL T51 37 [iv nn zs, .fn (.func g) []] m = some (.bool (zs.any p), m) := by
  apply callL_body (vf := c37) rfl rfl
  simp [c37, q51 zs nn g [] p hp hlen]
  cases h : zs.findIdx? p with
  | none =>
    rw [List.findIdx?_eq_none_iff] at h
    simp
    exact h
  | some i =>
    rw [List.findIdx?_eq_some_iff_getElem] at h
    obtain ⟨hi, hp, _⟩ := h
    simp
    exact ⟨_, List.getElem_mem hi, hp⟩
def sortedL : List Int → Bool
  | [] => true
  | [_] => true
  | a :: b :: r => decide (a ≤ b) && sortedL (b :: r)
theorem sortedL_iff (zs : List Int) : sortedL zs = true ↔ ∀ i (h : i + 1 < zs.length), zs[i] ≤ zs[i+1] := by
  induction zs with
  | nil => simp [sortedL]
  | cons a r ih =>
    cases r with
    | nil => simp [sortedL]
    | cons b r =>
      simp only [sortedL, Bool.and_eq_true, decide_eq_true_eq, ih]
      constructor
      · rintro ⟨h1, h2⟩ i h
        cases i with
        | zero => exact h1
        | succ i => exact h2 i (by simpa using h)
      · intro h
        exact ⟨h 0 (by simp), fun i hi => h (i + 1) (by simpa using hi)⟩
theorem q40 (zs : List Int) (nn : Bool) (hlen : (zs.length : Int) < 9223372036854775807) (m : Mem) :
    callL T51 40 [iv nn zs] m = some (.bool (sortedL zs), m) := by
  apply callL_body (vf := c40) rfl rfl
  simp [c40]
  refine wp_loop (fun n s => ∃ i : Int, n = i.toNat ∧ -1 ≤ i ∧ i ≤ zs.length - 1 ∧ s.get 0 = iv nn zs ∧ s.get 3 = AV.int IntKind.i64 i ∧ s.mem = m ∧ ∀ (j : Nat) (h : j + 1 < zs.length), i < (j : Int) + 1 → zs[j] ≤ zs[j+1]) ?_ (zs.length - 1) _ ?_
  rotate_left
  · refine ⟨zs.length - 1, by omega, by omega, by omega, by simp, ?_, by simp, fun j h hj => by omega⟩
    simp; rw [wrap64 (by omega) (by omega)]
  rintro n s ⟨i, hn, hi, hi2, h0, h3, hm, hbef⟩
  simp [h0, h3, hm, q52]
  refine ⟨fun h => ?_, fun h => ?_⟩
  · have hw : IntKind.wrap .i64 (i - 1) = i - 1 := wrap64 (by omega) (by omega)
    obtain ⟨j, rfl⟩ : ∃ j : Nat, i = (j : Int) + 1 := ⟨(i - 1).toNat, by omega⟩
    have e1 : gi zs ((j : Int) + 1) = zs[j + 1] := gi_nat (i := j + 1) (by omega)
    have e2 : gi zs ((j : Int) + 1 - 1) = zs[j] := by rw [show (j : Int) + 1 - 1 = (j : Nat) by omega]; exact gi_nat (by omega)
    rw [hw, e1, e2]
    refine ⟨by omega, by omega, fun hlt => ?_, fun hle => ?_⟩
    · have : ¬ sortedL zs = true := fun hs => by
        have := (sortedL_iff zs).1 hs j (by omega)
        omega
      simpa using this
    · refine ⟨j, by omega, j, by simp, by omega, by omega, by omega, fun j' h' hj' => ?_⟩
      by_cases hjj : j' = j
      · subst hjj; exact hle
      · exact hbef j' h' (by omega)
  · exact ((sortedL_iff zs).2 fun j hj => hbef j hj (by omega))

def Incr (zs : List Int) : Prop := ∀ i j (h : j < zs.length) (h' : i < j), zs[i] < zs[j]
/-- The first place whose number is not smaller. -/
def lb (zs : List Int) (n : Int) : Nat := zs.findIdx (fun z => decide (n ≤ z))
theorem lb_eq {zs : List Int} {n : Int} {k : Nat} (hk : k ≤ zs.length) (h1 : ∀ j (h : j < zs.length), j < k → zs[j] < n) (h2 : ∀ (h : k < zs.length), n ≤ zs[k]) : lb zs n = k := by
  unfold lb
  by_cases hl : k < zs.length
  · rw [List.findIdx_eq hl]
    exact ⟨by simpa using h2 hl, fun j hj => by have := h1 j (by omega) hj; simp; omega⟩
  · have : k = zs.length := by omega
    subst this
    rw [List.findIdx_eq_length]
    intro x hx
    obtain ⟨j, hj, rfl⟩ := List.getElem_of_mem hx
    have := h1 j hj hj
    simp; omega
theorem lb_spec {zs : List Int} (hs : Incr zs) (n : Int) : lb zs n ≤ zs.length ∧ (∀ j (h : j < zs.length), j < lb zs n → zs[j] < n) ∧ (∀ j (h : j < zs.length), lb zs n ≤ j → n ≤ zs[j]) := by
  have hle : lb zs n ≤ zs.length := List.findIdx_le_length
  refine ⟨hle, fun j h hj => ?_, fun j h hj => ?_⟩
  · have := List.not_of_lt_findIdx (p := fun z => decide (n ≤ z)) (xs := zs) (i := j) hj
    simpa using this
  · have hl : lb zs n < zs.length := by omega
    have h1 := List.findIdx_getElem (p := fun z => decide (n ≤ z)) (xs := zs) (w := hl)
    have h2 : n ≤ zs[lb zs n] := of_decide_eq_true h1
    rcases Nat.lt_or_eq_of_le hj with h' | h'
    · have := hs _ _ h h'; omega
    · subst h'; exact h2
theorem q50 (zs : List Int) (nn : Bool) (t : Int) (hs : Incr zs) (hlen : (zs.length : Int) < 4611686018427387904) (m : Mem) :
    callL T51 50 [iv nn zs, AV.int IntKind.i64 t] m = some (.tup [AV.int IntKind.i64 (lb zs t), .bool (decide (zs[lb zs t]? = some t))], m) := by
  obtain ⟨k1, k2, k3⟩ := lb_spec hs t
  apply callL_body (vf := c50) rfl rfl
  simp [c50]
  refine wp_loop (fun n s => ∃ i j : Nat, n = j - i ∧ i ≤ j ∧ j ≤ zs.length ∧ s.get 0 = iv nn zs ∧ s.get 1 = AV.int IntKind.i64 t ∧ s.get 6 = AV.int IntKind.i64 zs.length ∧ s.get 7 = AV.int IntKind.i64 i ∧ s.get 8 = AV.int IntKind.i64 j ∧ s.mem = m ∧ i ≤ lb zs t ∧ lb zs t ≤ j) ?_ zs.length _ ?_
  rotate_left
  · exact ⟨0, zs.length, by simp, by simp, by simp, by simp, by simp, by simp, by simp, by simp, by simp, by simp, k1⟩
  rintro n s ⟨i, j, hn, hij, hj, h0, h1, h6, h7, h8, hm, hl1, hl2⟩
  have hw1 : IntKind.wrap .i64 ((i : Int) + j) = (i : Int) + j := wrap64 (by omega) (by omega)
  have hw2 : IntKind.wrap .u64 ((i : Int) + j) = (i : Int) + j := wrapU64 (by omega) (by omega)
  have hw3 : IntKind.wrap .i64 (((i : Int) + j).fdiv (2 ^ min 1 IntKind.u64.bits)) = ((i + j) / 2 : Nat) := by
    have e : ((i : Int) + j).fdiv (2 ^ min 1 IntKind.u64.bits) = ((i + j) / 2 : Nat) := by
      rw [Int.fdiv_eq_ediv_of_nonneg _ (by decide)]
      show ((i : Int) + j) / 2 = _
      omega
    rw [e]; exact wrap64 (by omega) (by omega)
  simp [h0, h1, h6, h7, h8, hm, hw1, hw2, hw3, q52, q64, -Int.natCast_ediv, -Int.natCast_add]
  refine ⟨fun hlt => ⟨by omega, fun hmt => ?_, fun hmt => ?_⟩, fun hge => ?_⟩
  · have hM : (i + j) / 2 < zs.length := by omega
    rw [gi_nat hM] at hmt
    have hlb : (i + j) / 2 < lb zs t := by
      refine Nat.lt_of_not_le fun h => ?_
      have := k3 _ hM h; omega
    refine ⟨j - ((i + j) / 2 + 1), by omega, (i + j) / 2 + 1, j, rfl, by omega, hj, ?_, rfl, by omega, hl2⟩
    rw [wrap64 (by omega) (by omega)]; omega
  · have hM : (i + j) / 2 < zs.length := by omega
    rw [gi_nat hM] at hmt
    have hlb : lb zs t ≤ (i + j) / 2 := by
      refine Nat.le_of_not_lt fun h => ?_
      have := k2 _ hM h; omega
    exact ⟨(i + j) / 2 - i, by omega, i, (i + j) / 2, rfl, by omega, by omega, rfl, rfl, hl1, hlb⟩
  · have hk : lb zs t = i := by omega
    rw [hk]
    refine ⟨fun hil => ?_, fun hil => ⟨rfl, by simp [List.getElem?_eq_none hil]⟩⟩
    rw [gi_nat hil]
    exact ⟨hil, fun hne => ⟨hil, rfl, by simp [hil, hne]⟩, fun he => ⟨rfl, by simp [hil, he]⟩⟩

/-- A good rule. -/
structure Good (xs ys : List Int) : Prop where
  one : 1 ≤ xs.length
  most : xs.length ≤ 16
  same : ys.length = xs.length
  xr : ∀ i (h : i < xs.length), 1 ≤ xs[i] ∧ xs[i] ≤ 1000000
  yr : ∀ i (h : i < ys.length), 0 ≤ ys[i] ∧ ys[i] ≤ 1000000
  inc : Incr xs
  mono : ∀ i j (h : j < ys.length) (h' : i ≤ j), ys[i] ≤ ys[j]

abbrev rv (nx ny : Bool) (xs ys : List Int) : AV := .agg [iv nx xs, iv ny ys]

theorem mid_wrap {a b c d n : Int} (h1 : 1 ≤ a) (h2 : a < b) (h3 : b ≤ 1000000) (h4 : 0 ≤ c) (h5 : c ≤ d) (h6 : d ≤ 1000000) (h7 : a ≤ n) (h8 : n ≤ 1000000) :
    IntKind.wrap .i64 (n - a) = n - a ∧ IntKind.wrap .i64 (d - c) = d - c ∧ IntKind.wrap .i64 ((n - a) * (d - c)) = (n - a) * (d - c) ∧ IntKind.wrap .i64 (b - a) = b - a ∧
    IntKind.wrap .i64 ((n - a) * (d - c) + (b - a)) = (n - a) * (d - c) + (b - a) ∧ IntKind.wrap .i64 ((n - a) * (d - c) + (b - a) - 1) = (n - a) * (d - c) + (b - a) - 1 ∧
    IntKind.wrap .i64 (((n - a) * (d - c) + (b - a) - 1).tdiv (b - a)) = ((n - a) * (d - c) + (b - a) - 1).tdiv (b - a) ∧
    IntKind.wrap .i64 (c + ((n - a) * (d - c) + (b - a) - 1).tdiv (b - a)) = c + ((n - a) * (d - c) + (b - a) - 1).tdiv (b - a) := by
  have p0 : 0 ≤ (n - a) * (d - c) := Int.mul_nonneg (by omega) (by omega)
  have p1 : (n - a) * (d - c) ≤ 1000000 * 1000000 := Int.mul_le_mul (by omega) (by omega) (by omega) (by omega)
  have q0 : 0 ≤ ((n - a) * (d - c) + (b - a) - 1).tdiv (b - a) := Int.tdiv_nonneg (by omega) (by omega)
  have q1 : ((n - a) * (d - c) + (b - a) - 1).tdiv (b - a) ≤ (n - a) * (d - c) + (b - a) - 1 := by
    rw [Int.tdiv_eq_ediv_of_nonneg (by omega)]
    exact Int.ediv_le_self _ (by omega)
  refine ⟨?_, ?_, ?_, ?_, ?_, ?_, ?_, ?_⟩ <;> exact wrap64 (by omega) (by omega)

/-- Between two points. -/
def mid (xs ys : List Int) (k : Int) (n : Int) : Int := gi ys (k - 1) + ((n - gi xs (k - 1)) * (gi ys k - gi ys (k - 1)) + (gi xs k - gi xs (k - 1)) - 1).tdiv (gi xs k - gi xs (k - 1))

def tm (xs ys : List Int) (n : Int) : Int :=
  if xs[lb xs n]? = some n then gi ys (lb xs n)
  else if lb xs n = 0 then gi ys 0
  else if lb xs n = xs.length then gi ys (lb xs n - 1 : Int)
  else mid xs ys (lb xs n) n

theorem q36 (xs ys : List Int) (nx ny : Bool) (n : Int) (hg : Good xs ys) (hn : 1 ≤ n ∧ n ≤ 1000000) (m : Mem) :
    callL T51 36 [rv nx ny xs ys, AV.int IntKind.i64 n] m = some (AV.int IntKind.i64 (tm xs ys n), m) := by
  obtain ⟨k1, k2, k3⟩ := lb_spec hg.inc n
  have hmost := hg.most
  have hone := hg.one
  apply callL_body (vf := c36) rfl rfl
  have hsame := hg.same
  by_cases hk0 : lb xs n = 0
  · simp [c36, q50 xs nx n hg.inc (by omega), hk0, tm]
    omega
  · have hw : IntKind.wrap .i64 ((lb xs n : Int) - 1) = (lb xs n : Int) - 1 := wrap64 (by omega) (by omega)
    simp [c36, q50 xs nx n hg.inc (by omega), hk0, tm, hw, -Int.sub_nonneg]
    refine ⟨fun h => ⟨by have := (List.getElem?_eq_some_iff.1 h).1; omega, fun h2 => absurd h h2⟩, fun h => ⟨fun hl => ⟨by omega, ?_⟩, fun hl => ?_⟩⟩
    · have : lb xs n = xs.length := by omega
      simp [this]
    · have hl2 : lb xs n < xs.length := by omega
      obtain ⟨j, hj⟩ : ∃ j : Nat, lb xs n = j + 1 := ⟨lb xs n - 1, by omega⟩
      have g1 : gi xs ((lb xs n : Int) - 1) = xs[j] := by rw [hj, show ((j + 1 : Nat) : Int) - 1 = (j : Nat) by omega]; exact gi_nat (by omega)
      have g2 : gi ys ((lb xs n : Int) - 1) = ys[j]'(by omega) := by rw [hj, show ((j + 1 : Nat) : Int) - 1 = (j : Nat) by omega]; exact gi_nat (by omega)
      have g3 : gi xs (lb xs n : Int) = xs[j + 1]'(by omega) := by rw [hj]; exact gi_nat (by omega)
      have g4 : gi ys (lb xs n : Int) = ys[j + 1]'(by omega) := by rw [hj]; exact gi_nat (by omega)
      have b1 := hg.xr j (by omega)
      have b2 := hg.xr (j + 1) (by omega)
      have b3 := hg.yr j (by omega)
      have b4 := hg.yr (j + 1) (by omega)
      have b5 := hg.inc j (j + 1) (by omega) (by omega)
      have b6 := hg.mono j (j + 1) (by omega) (by omega)
      have b7 := k2 j (by omega) (by omega)
      have hne : ¬ lb xs n = xs.length := by omega
      simp only [mid, g1, g2, g3, g4]
      obtain ⟨w1, w2, w3, w4, w5, w6, w7, w8⟩ := mid_wrap b1.1 b5 b2.2 b3.1 b6 b4.2 (by omega) hn.2
      rw [w1, w2, w3, w4, w5, w6, w7, w8, if_neg h, if_neg hne]
      exact ⟨by omega, by omega, hl2, by omega, by omega, rfl⟩

theorem q14 (xs ys : List Int) (nx ny : Bool) (t e : Int) (m : Mem) (h17 : callL T51 17 [rv nx ny xs ys] [] = some (AV.int IntKind.i64 e, [])) (he : e = 0 → Good xs ys) :
    callL T51 14 [rv nx ny xs ys, AV.int IntKind.i64 t] m = some (if e = 0 then (if 1 ≤ t ∧ t ≤ 1000000 then .tup [AV.int IntKind.i64 (tm xs ys t), AV.int IntKind.i64 0] else .tup [AV.int IntKind.i64 0, AV.int IntKind.i64 6]) else .tup [AV.int IntKind.i64 0, AV.int IntKind.i64 e], m) := by
  apply callL_body (vf := c14) rfl rfl
  by_cases h : e = 0
  · by_cases ht : 1 ≤ t ∧ t ≤ 1000000
    · simp [c14, h17, h, q35, q36 xs ys nx ny t (he h) ht, ht]
    · simp [c14, h17, h, q35, ht]
  · simp [c14, h17, h]

/-- The greatest number between two for which p holds, by halving. -/
def bs (p : Int → Bool) (lo hi : Int) : Int :=
  if h : lo < hi then (if p ((lo + hi + 1) / 2) then bs p ((lo + hi + 1) / 2) hi else bs p lo ((lo + hi + 1) / 2 - 1)) else lo
  termination_by (hi - lo).toNat
  decreasing_by all_goals omega

theorem q16 (xs ys : List Int) (nx ny : Bool) (t e : Int) (m : Mem) (h17 : callL T51 17 [rv nx ny xs ys] [] = some (AV.int IntKind.i64 e, [])) (he : e = 0 → Good xs ys) :
    callL T51 16 [rv nx ny xs ys, AV.int IntKind.i64 t] m = some (if e = 0 then (if 0 ≤ t ∧ t ≤ 1000000000 then (if tm xs ys 1 ≤ t then .tup [AV.int IntKind.i64 (bs (fun n => decide (tm xs ys n ≤ t)) 1 1000000), AV.int IntKind.i64 0] else .tup [AV.int IntKind.i64 0, AV.int IntKind.i64 9]) else .tup [AV.int IntKind.i64 0, AV.int IntKind.i64 6]) else .tup [AV.int IntKind.i64 0, AV.int IntKind.i64 e], m) := by
  apply callL_body (vf := c16) rfl rfl
  by_cases h : e = 0
  · have hg := he h
    by_cases ht : 0 ≤ t ∧ t ≤ 1000000000
    · have hn1 : ¬ t < 0 := by omega
      have hn2 : ¬ 1000000000 < t := by omega
      by_cases ht1 : tm xs ys 1 ≤ t
      · have hn3 : ¬ t < tm xs ys 1 := by omega
        simp [c16, h17, h, q36 xs ys nx ny 1 hg (by omega), ht, ht1, hn1, hn2, hn3]
        refine wp_loop (fun n s => ∃ lo hi : Int, n = (hi - lo).toNat ∧ 1 ≤ lo ∧ lo ≤ hi ∧ hi ≤ 1000000 ∧ s.get 1 = AV.int IntKind.i64 t ∧ s.get 2 = .ptr (.loc 2 0) 0 ∧ s.loc 2 = [.cells false [iv nx xs, iv ny ys]] ∧ s.get 7 = AV.int IntKind.i64 lo ∧ s.get 8 = AV.int IntKind.i64 hi ∧ s.mem = m ∧
          bs (fun n => decide (tm xs ys n ≤ t)) lo hi = bs (fun n => decide (tm xs ys n ≤ t)) 1 1000000) ?_ 999999 _ ?_
        rotate_left
        · exact ⟨1, 1000000, by simp, by simp, by simp, by simp, by simp, by simp, by simp, by simp, by simp, by simp, by simp⟩
        rintro n s ⟨lo, hi, hn, hlo, hlh, hhi, e1, e2, e3, e7, e8, hm, hbs⟩
        have w1 : IntKind.wrap .i64 (lo + hi) = lo + hi := wrap64 (by omega) (by omega)
        have w2 : IntKind.wrap .i64 (lo + hi + 1) = lo + hi + 1 := wrap64 (by omega) (by omega)
        have w3 : (lo + hi + 1).tdiv 2 = (lo + hi + 1) / 2 := Int.tdiv_eq_ediv_of_nonneg (by omega)
        have w4 : IntKind.wrap .i64 ((lo + hi + 1) / 2) = (lo + hi + 1) / 2 := wrap64 (by omega) (by omega)
        have w5 : IntKind.wrap .i64 ((lo + hi + 1) / 2 - 1) = (lo + hi + 1) / 2 - 1 := wrap64 (by omega) (by omega)
        simp [e1, e2, e3, e7, e8, hm, w1, w2, w3, w4, w5, q36 xs ys nx ny ((lo + hi + 1) / 2) hg (by omega)]
        refine ⟨fun hlt => ⟨fun hp => ⟨(hi - (lo + hi + 1) / 2).toNat, by omega, _, hi, rfl, by omega, by omega, hhi, rfl, rfl, ?_⟩, fun hp => ⟨((lo + hi + 1) / 2 - 1 - lo).toNat, by omega, lo, _, rfl, hlo, by omega, by omega, rfl, rfl, ?_⟩⟩, fun hge => ?_⟩
        · rw [← hbs]; conv => rhs; rw [bs]
          simp [hlt, hp]
        · rw [← hbs]; conv => rhs; rw [bs]
          have : ¬ tm xs ys ((lo + hi + 1) / 2) ≤ t := by omega
          simp [hlt, this]
        · rw [← hbs, bs]
          have : ¬ lo < hi := by omega
          simp [this]
      · have hn3 : t < tm xs ys 1 := by omega
        simp [c16, h17, h, q36 xs ys nx ny 1 hg (by omega), ht, ht1, hn1, hn2, hn3]
    · by_cases hn1 : t < 0
      · simp [c16, h17, h, hn1, ht]
      · have hn2 : 1000000000 < t := by omega
        simp [c16, h17, h, hn1, hn2, ht]
  · simp [c16, h17, h]

end Go.Vm.Ch51
