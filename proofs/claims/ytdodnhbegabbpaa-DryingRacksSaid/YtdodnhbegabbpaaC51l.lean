/- Chapter 51: what its functions compute. -/
import Derived.Test.YtdodnhbegabbpaaC51k
import Derived.Test.YtdodnhbegabbpaaC51f
namespace Go.Vm.Ch51
open _root_.Ch51 (T51 c29 c30 c49)
set_option maxRecDepth 10000
set_option maxHeartbeats 4000000
theorem rdy_ok {xs ys : List Int} {places : Int} {list : List Bat} (h : rdy xs ys places list = 0) :
    Good xs ys ∧ 1 ≤ places ∧ places ≤ 1000 ∧ list.length ≤ 128 ∧ (∀ b ∈ list, nameOK b.name = true) ∧ (∀ b ∈ list, 0 ≤ b.arr ∧ b.arr ≤ 1000000000 ∧ 1 ≤ b.th ∧ b.th ≤ 1000000) ∧ (list.map Bat.name).Nodup := by
  unfold rdy at h
  split at h
  · rename_i hc
    unfold bat at h
    split at h
    · simp at h
    · split at h
      · simp at h
      · split at h
        · simp at h
        · split at h
          · simp at h
          · split at h
            · simp at h
            · rename_i h1 h2 h3 h4 h5
              refine ⟨good_of hc, by omega, by omega, by omega, ?_, ?_, ?_⟩
              · rw [Bool.not_eq_true, List.any_eq_false] at h3
                intro b hb; simpa using h3 b hb
              · rw [Bool.not_eq_true, List.any_eq_false] at h4
                intro b hb
                have := h4 b hb
                simp only [badB, decide_eq_true_eq] at this
                omega
              · simpa [dupB] using h5
  · rename_i hc; exact absurd h hc
/-- A stay at a place for the first batch with its name. -/
def fit1 (xs ys : List Int) (places : Int) (list : List Bat) (s : Sta) : Prop :=
  match list.findIdx? (fun b => b.name == s.name) with
  | none => False
  | some k => 0 ≤ s.place ∧ s.place < places ∧ (gi list k).arr ≤ s.frm ∧ s.to - tm xs ys (gi list k).th = s.frm
def ValidP (xs ys : List Int) (places : Int) (list : List Bat) (stays : List Sta) : Prop :=
  rdy xs ys places list = 0 ∧ stays.length = list.length ∧ (∀ s ∈ stays, fit1 xs ys places list s) ∧ ∀ i j (h : j < stays.length) (h' : i < j), clash stays[i] stays[j] = false
open Classical in
noncomputable def validB (xs ys : List Int) (places : Int) (list : List Bat) (stays : List Sta) : Bool := decide (ValidP xs ys places list stays)
theorem validB_t {xs ys : List Int} {places : Int} {list : List Bat} {stays : List Sta} (h : ValidP xs ys places list stays) : validB xs ys places list stays = true := by
  unfold validB; simpa using h
theorem validB_f {xs ys : List Int} {places : Int} {list : List Bat} {stays : List Sta} (h : ¬ ValidP xs ys places list stays) : validB xs ys places list stays = false := by
  unfold validB; simpa using h
theorem tm_bounds0 {xs ys : List Int} (hg : Good xs ys) (n : Int) : 0 ≤ tm xs ys n ∧ tm xs ys n ≤ 1000000 := by
  have h := (tm_between hg n).2.2
  have hone := hg.one
  have hsame := hg.same
  have y0 := hg.yr 0 (by omega)
  have y1 := hg.yr (ys.length - 1) (by omega)
  omega
theorem q29 (xs ys : List Int) (nx ny nn ns : Bool) (places : Int) (list : List Bat) (stays : List Sta) (hx : xs.length ≤ 20) (hy : ys.length ≤ 20) (hlen : (list.length : Int) < 4611686018427387904) (hname : ∀ b ∈ list, (b.name.length : Int) < 4611686018427387904) (hs : (stays.length : Int) < 4611686018427387904) (hto : ∀ s ∈ stays, 0 ≤ s.to ∧ s.to ≤ 9223372036854775807) (m : Mem) :
    callL T51 29 [rv nx ny xs ys, AV.int IntKind.i64 places, bv nn list, sv ns stays] m = some (.bool (validB xs ys places list stays), m) := by
  have h41 := q41 xs ys nx ny nn places list hx hy hlen hname []
  apply callL_body (vf := c29) rfl rfl
  by_cases hr : rdy xs ys places list = 0
  rotate_left
  · have := validB_f (stays := stays) (fun h : ValidP xs ys places list stays => hr h.1)
    simp [c29, h41, hr, this]
  rw [hr] at h41
  by_cases hl : stays.length = list.length
  rotate_left
  · have := validB_f (stays := stays) (fun h : ValidP xs ys places list stays => hl h.2.1)
    have hl' : ¬ (stays.length : Int) = list.length := by omega
    simp [c29, h41, this, hl']
  obtain ⟨hg, hp1, hp2, hl128, hnames, hb, hnd⟩ := rdy_ok hr
  simp [c29, h41, hl]
  refine wp_loop (fun w s => ∃ i : Nat, w = stays.length - i ∧ i ≤ stays.length ∧ s.get 1 = AV.int IntKind.i64 places ∧ s.get 2 = bv nn list ∧ s.get 3 = sv ns stays ∧ s.get 4 = .ptr (.loc 4 0) 0 ∧ s.loc 4 = [.cells false [iv nx xs, iv ny ys]] ∧ s.get 25 = sv ns stays ∧ s.get 26 = AV.int IntKind.i64 list.length ∧ s.get 27 = AV.int IntKind.i64 i ∧ s.mem = m ∧
    (∀ j (h : j < stays.length), j < i → fit1 xs ys places list stays[j]) ∧ ∀ j k (h : k < stays.length) (h' : j < k), k < i → clash stays[j] stays[k] = false) ?_ stays.length _ ?_
  rotate_left
  · exact ⟨0, by simp⟩
  rintro w s ⟨i, hn, hi, e1, e2, e3, e4, l4, e25, e26, e27, hm, hfit, hcl⟩
  have w1 : IntKind.wrap .i64 ((i : Int) + 1) = (i : Int) + 1 := wrap64 (by omega) (by omega)
  by_cases h : i < stays.length
  rotate_left
  · have := validB_t (stays := stays) (show ValidP xs ys places list stays from ⟨hr, hl, fun s hs => by
      obtain ⟨j, hj, rfl⟩ := List.getElem_of_mem hs
      exact hfit j hj (by omega), fun j k hk hjk => hcl j k hk hjk (by omega)⟩)
    have h' : ¬ i < list.length := by omega
    simp [e25, e26, e27, hm, h', this]
  have h' : i < list.length := by omega
  have h45 := q45 list nn 46 [.vptr (es stays[i]) 0] (fun x => x.name == stays[i].name) (fun z _ => q46 z stays[i] []) (by omega) []
  have hnf : ¬ fit1 xs ys places list stays[i] → validB xs ys places list stays = false := fun hf => validB_f fun hv => hf (hv.2.2.1 _ (List.getElem_mem h))
  unfold fidx at h45
  cases hfi : list.findIdx? (fun x => x.name == stays[i].name) with
  | none =>
    rw [hfi] at h45
    have := hnf (by unfold fit1; rw [hfi]; exact fun h => h)
    simp [e2, e25, e26, e27, hm, h, h', gi_nat h, h45, this]
  | some k =>
    rw [hfi] at h45
    have hkl : k < list.length := by
      rw [List.findIdx?_eq_some_iff_getElem] at hfi; exact hfi.1
    have hfeq : fit1 xs ys places list stays[i] = (0 ≤ stays[i].place ∧ stays[i].place < places ∧ list[k].arr ≤ stays[i].frm ∧ stays[i].to - tm xs ys list[k].th = stays[i].frm) := by
      unfold fit1; rw [hfi]; simp only [gi_nat hkl]
    rw [hfeq] at hnf
    obtain ⟨hb1, hb2, hb3, hb4⟩ := hb list[k] (List.getElem_mem hkl)
    have h36 := q36 xs ys nx ny list[k].th hg ⟨hb3, hb4⟩ []
    have htb := tm_bounds0 hg list[k].th
    have htt := hto stays[i] (List.getElem_mem h)
    have w2 : IntKind.wrap .i64 (stays[i].to - tm xs ys list[k].th) = stays[i].to - tm xs ys list[k].th := wrap64 (by omega) (by omega)
    by_cases g1 : stays[i].place < 0
    · have := hnf (by omega)
      simp [e2, e25, e26, e27, hm, h, h', gi_nat h, h45, this, g1]
    by_cases g2 : places ≤ stays[i].place
    · have := hnf (by omega)
      simp [e1, e2, e25, e26, e27, hm, h, h', gi_nat h, h45, this, g1, g2]
    by_cases g3 : stays[i].frm < list[k].arr
    · have := hnf (by omega)
      simp [e1, e2, e25, e26, e27, hm, h, h', gi_nat h, h45, this, g1, g2, gi_nat hkl, hkl, g3]
    by_cases g4 : stays[i].to - tm xs ys list[k].th = stays[i].frm
    rotate_left
    · have := hnf (by omega)
      simp [e1, e2, e4, l4, e25, e26, e27, hm, h, h', gi_nat h, h45, this, g1, g2, gi_nat hkl, hkl, g3, h36, w2, g4]
    have w3 : IntKind.wrap .i64 stays[i].frm = stays[i].frm := wrap64 (by omega) (by omega)
    have hk0 : ¬ (k : Int) < 0 := by omega
    have h48 := q48 (stays.take i) ns 47 [.vptr (es stays[i]) 0] (fun x => clash x stays[i]) (fun z _ => q47 z stays[i] []) (by simp; omega) []
    cases hd : (stays.take i).any fun x => clash x stays[i]
    · rw [hd] at h48
      simp [e1, e2, e3, e4, l4, e25, e26, e27, hm, h, h', gi_nat h, h45, g1, g2, gi_nat hkl, hkl, g3, h36, w1, w3, g4, h48, hk0]
      refine ⟨hi, stays.length - (i + 1), by omega, i + 1, rfl, by omega, rfl, fun j hj hlt => ?_, fun j k hk hjk hki => ?_⟩
      · by_cases e : j = i
        · subst e; rw [hfeq]; omega
        · exact hfit j hj (by omega)
      · by_cases e : k = i
        · subst e
          rw [List.any_eq_false] at hd
          have := hd stays[j] (by rw [List.mem_take_iff_getElem]; exact ⟨j, by omega, rfl⟩)
          simpa using this
        · exact hcl j k hk hjk (by omega)
    · have := validB_f (xs := xs) (ys := ys) (places := places) (list := list) (stays := stays) fun hv => by
        rw [List.any_eq_true] at hd
        obtain ⟨x, hx, hxe⟩ := hd
        rw [List.mem_take_iff_getElem] at hx
        obtain ⟨j, hj, rfl⟩ := hx
        have := hv.2.2.2 j i h (by omega)
        rw [this] at hxe; cases hxe
      rw [hd] at h48
      simp [e1, e2, e3, e4, l4, e25, e26, e27, hm, h, h', gi_nat h, h45, g1, g2, gi_nat hkl, hkl, g3, h36, w3, g4, h48, this, hk0]
      exact hi
def fits (xs ys : List Int) (places : Int) (b : Bat) (s : Sta) : Bool := decide (s.name = b.name ∧ 0 ≤ s.place ∧ s.place < places ∧ b.arr ≤ s.frm ∧ s.frm ≤ s.to ∧ s.to - s.frm = tm xs ys b.th)
theorem q49 (xs ys : List Int) (nx ny : Bool) (places : Int) (b : Bat) (s : Sta) (hg : Good xs ys) (hb : 1 ≤ b.th ∧ b.th ≤ 1000000) (hs : 0 ≤ s.frm ∧ s.frm ≤ 9223372036854775807 ∧ 0 ≤ s.to ∧ s.to ≤ 9223372036854775807) (m : Mem) :
    callL T51 49 [rv nx ny xs ys, AV.int IntKind.i64 places, .agg (eb b), .agg (es s)] m = some (.bool (fits xs ys places b s), m) := by
  have h21 := q21 xs ys nx ny b.th hg hb []
  have w : IntKind.wrap .i64 (s.to - s.frm) = s.to - s.frm := wrap64 (by omega) (by omega)
  apply callL_body (vf := c49) rfl rfl
  unfold fits
  by_cases h1 : s.name = b.name
  rotate_left
  · simp [c49, h1]
  by_cases h2 : 0 ≤ s.place
  rotate_left
  · simp [c49, h1, h2]
  by_cases h3 : s.place < places
  rotate_left
  · simp [c49, h1, h2, h3]
  by_cases h4 : b.arr ≤ s.frm
  rotate_left
  · simp [c49, h1, h2, h3, h4]
  by_cases h5 : s.frm ≤ s.to
  rotate_left
  · simp [c49, h1, h2, h3, h4, h5]
  simp [c49, h1, h2, h3, h4, h5, h21, w]
  rfl
end Go.Vm.Ch51
