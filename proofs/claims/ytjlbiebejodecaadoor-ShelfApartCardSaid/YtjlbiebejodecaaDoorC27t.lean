/- Chapter 27: what its functions compute. -/
import Derived.Test.YtjlbiebejodecaaDoorC27s
namespace Go.Vm.Ch27
open _root_.Ch27 (T27 c9)
set_option maxRecDepth 10000
set_option maxHeartbeats 8000000
/-- Where the row of shelves stands behind places. -/
def chS (P : List Prt) : Option (Plc × Int) → List Plc → Option (Plc × Int)
  | st, [] => st
  | none, p :: r => chS P (some (p, p.y + (gi P p.part).h)) r
  | some (q, top), p :: r => if p.sh = q.sh then chS P (some (p, if top < p.y + (gi P p.part).h then p.y + (gi P p.part).h else top)) r else chS P (some (p, p.y + (gi P p.part).h)) r
theorem chB_app (P : List Prt) (w h kf : Int) : ∀ (a b : List Plc) (st : Option (Plc × Int)), chB P w h kf st a = true → chB P w h kf (chS P st a) b = true → chB P w h kf st (a ++ b) = true
  | [], b, st, _, h2 => by cases st <;> simpa [chS] using h2
  | p :: a, b, none, h1, h2 => by
    rw [chB, Bool.and_eq_true] at h1
    rw [chS] at h2
    rw [List.cons_append, chB, h1.1, Bool.true_and]
    exact chB_app P w h kf a b _ h1.2 h2
  | p :: a, b, some (q, top), h1, h2 => by
    rw [chB, Bool.and_eq_true] at h1
    rw [chS] at h2
    rw [List.cons_append, chB, h1.1, Bool.true_and]
    have h3 := h1.2
    by_cases c : p.sh = q.sh
    · rw [if_pos c] at h2 h3 ⊢
      rw [Bool.and_eq_true] at h3
      rw [h3.1, Bool.true_and]
      exact chB_app P w h kf a b _ h3.2 h2
    · rw [if_neg c] at h2 h3 ⊢
      by_cases c2 : p.sh = IntKind.wrap .i64 (q.sh + 1)
      · rw [if_pos c2] at h3 ⊢
        rw [Bool.and_eq_true] at h3
        rw [h3.1, Bool.true_and]
        exact chB_app P w h kf a b _ h3.2 h2
      · rw [if_neg c2] at h3; cases h3
theorem chS_app (P : List Prt) : ∀ (a b : List Plc) (st : Option (Plc × Int)), chS P st (a ++ b) = chS P (chS P st a) b
  | [], b, st => by cases st <;> simp [chS]
  | p :: a, b, none => by rw [List.cons_append, chS, chS]; exact chS_app P a b _
  | p :: a, b, some (q, top) => by
    rw [List.cons_append, chS, chS]
    by_cases c : p.sh = q.sh
    · rw [if_pos c, if_pos c]; exact chS_app P a b _
    · rw [if_neg c, if_neg c]; exact chS_app P a b _
/-- Of two places the second one lies apart from the first. -/
def sep (P : List Prt) (kf : Int) (b a : Plc) : Prop := b.x + (gi P b.part).w + kf ≤ a.x ∨ b.y + (gi P b.part).h + kf ≤ a.y
structure InvC (P : List Prt) (w h kf : Int) (o : List Int) (i : Nat) (S : PS) : Prop where
  low : S.num < 0 → S.pl = [] ∧ S.top = -kf
  ch : chB P w h kf none S.pl = true
  st : 0 ≤ S.num → ∃ q, chS P none S.pl = some (q, S.top) ∧ q.sh = S.num ∧ q.y = S.y ∧ q.x + (gi P q.part).w + kf = S.x
  b : 0 ≤ S.num → S.top ≤ h ∧ (∀ j (hj : j < o.length), i ≤ j → (gi P o[j]).h ≤ S.top - S.y) ∧ 0 ≤ S.y ∧ 0 ≤ S.top
  all : ∀ q ∈ S.pl, (q.y = S.y ∧ q.x + (gi P q.part).w + kf ≤ S.x ∧ q.y + (gi P q.part).h ≤ S.top) ∨ q.y + (gi P q.part).h + kf ≤ S.y
  pw : S.pl.Pairwise (sep P kf)
theorem pack_ch {P : List Prt} {w h kf : Int} {o : List Int} (hok : OK P w kf o) (hs : Sorted P o) (h0 : 0 ≤ h) : InvC P w h kf o o.length (packS P w h kf o) := by
  refine pack_ind (I := InvC P w h kf o) (h := h) hok ⟨by simp [ini], by simp [ini, chB], by simp [ini], by simp [ini], by simp [ini], by simp [ini]⟩ fun i hi S hI hv => ?_
  have hix := hok.ix _ (List.getElem_mem hi)
  have hpm := gi_memP hix
  have hh := hok.hg _ hpm
  have hpw := hok.wd _ hpm
  have hk := hok.k1
  have hlen := hok.len
  have hn := hv.n1
  have hx := hv.x1
  have hsort : ∀ j (hj : j < o.length), i + 1 ≤ j → (gi P o[j]).h ≤ (gi P o[i]).h := fun j hj hij => List.pairwise_iff_getElem.1 hs i j hi hj (by omega)
  obtain ⟨a1, a2, a3, a4, a5, a6⟩ := hI
  unfold stepP
  split
  · rename_i c
    obtain ⟨b1, b2, b3, b4⟩ := a4 c.1
    have hhi := b2 i hi (Nat.le_refl _)
    obtain ⟨q, q1, q2, q3, q4⟩ := a3 c.1
    have hon : onB P w h ⟨o[i], S.x, S.y, S.num⟩ = true := by unfold onB; simp only [decide_eq_true_eq]; omega
    have htop : (if S.top < S.y + (gi P o[i]).h then S.y + (gi P o[i]).h else S.top) = S.top := by split <;> omega
    refine ⟨fun hneg => by simp at hneg; omega, ?_, fun _ => ⟨⟨o[i], S.x, S.y, S.num⟩, ?_, rfl, rfl, by simp only; omega⟩, fun _ => ⟨b1, fun j hj hij => b2 j hj (by omega), b3, b4⟩, fun r hr => ?_, ?_⟩
    · apply chB_app P w h kf _ _ _ a2
      rw [q1, chB, hon, if_pos (by simp [q2])]
      simp only [Bool.true_and, Bool.and_eq_true, decide_eq_true_eq, chB, and_true]
      omega
    · rw [chS_app, q1, chS, if_pos (by simp [q2]), chS]
      simp only [htop]
    · rcases List.mem_append.1 hr with hr | hr
      · rcases a5 r hr with ⟨c1, c2, c3⟩ | c1
        · exact .inl ⟨c1, by simp only; omega, c3⟩
        · exact .inr c1
      · rw [List.mem_singleton.1 hr]
        exact .inl ⟨rfl, by simp only; omega, by simp only; omega⟩
    · rw [List.pairwise_append]
      refine ⟨a6, List.pairwise_singleton _ _, fun r hr a ha => ?_⟩
      rw [List.mem_singleton.1 ha]
      rcases a5 r hr with ⟨c1, c2, c3⟩ | c1
      · exact .inl (by simp only; omega)
      · exact .inr (by simp only; omega)
  · split
    · exact ⟨a1, a2, a3, fun hp => ⟨(a4 hp).1, fun j hj hij => (a4 hp).2.1 j hj (by omega), (a4 hp).2.2⟩, a5, a6⟩
    · rename_i c c3
      have ht : 0 ≤ S.top + kf := by
        by_cases c0 : 0 ≤ S.num
        · have := (a4 c0).2.2.2; omega
        · have := (a1 (by omega)).2; omega
      have hon : onB P w h ⟨o[i], 0, S.top + kf, S.num + 1⟩ = true := by unfold onB; simp only [decide_eq_true_eq]; omega
      have hbel : ∀ r ∈ S.pl, r.y + (gi P r.part).h + kf ≤ S.top + kf := fun r hr => by
        by_cases c0 : 0 ≤ S.num
        · have b1 := hh.1
          rcases a5 r hr with ⟨c1, c2, c4⟩ | c1
          · omega
          · have := (a4 c0).2.1 i hi (Nat.le_refl _)
            omega
        · rw [(a1 (by omega)).1] at hr; simp at hr
      refine ⟨fun hneg => by simp at hneg; omega, ?_, fun _ => ⟨⟨o[i], 0, S.top + kf, S.num + 1⟩, ?_, rfl, rfl, by simp only; omega⟩, fun _ => ⟨by simp only; omega, fun j hj hij => ?_, ht, by simp only; omega⟩, fun r hr => ?_, ?_⟩
      · by_cases c0 : 0 ≤ S.num
        · obtain ⟨q, q1, q2, q3, q4⟩ := a3 c0
          have hwr : IntKind.wrap .i64 (q.sh + 1) = S.num + 1 := by rw [q2]; exact wrap64 (by omega) (by omega)
          apply chB_app P w h kf _ _ _ a2
          rw [q1, chB, hon, if_neg (by simp only [q2]; omega), if_pos (by simp only [hwr])]
          simp [chB]
        · have e1 := (a1 (by omega)).1
          rw [e1]
          simp only [List.nil_append, chB, hon, Bool.true_and, Bool.and_true, decide_eq_true_eq]
          omega
      · by_cases c0 : 0 ≤ S.num
        · obtain ⟨q, q1, q2, q3, q4⟩ := a3 c0
          rw [chS_app, q1, chS, if_neg (by simp only [q2]; omega), chS]
        · have e1 := (a1 (by omega)).1
          rw [e1]
          simp [chS]
      · have := hsort j hj hij
        simp only; omega
      · rcases List.mem_append.1 hr with hr | hr
        · exact .inr (hbel r hr)
        · rw [List.mem_singleton.1 hr]
          exact .inl ⟨rfl, by simp only; omega, by simp only; omega⟩
      · rw [List.pairwise_append]
        refine ⟨a6, List.pairwise_singleton _ _, fun r hr a ha => ?_⟩
        rw [List.mem_singleton.1 ha]
        exact .inr (hbel r hr)
theorem use_nodup (n : Nat) : ∀ (r l : List Int), r.Nodup → (∀ k ∈ r, 0 ≤ k ∧ k < n) → (∀ k ∈ r, has l k = false) → useB n l r = true
  | [], l, _, _, _ => rfl
  | k :: r, l, h1, h2, h3 => by
    obtain ⟨h4, h5⟩ := List.nodup_cons.1 h1
    rw [useB, Bool.and_eq_true]
    refine ⟨?_, use_nodup n r (l ++ [k]) h5 (fun x hx => h2 x (by simp [hx])) fun x hx => ?_⟩
    · unfold newB
      rw [decide_eq_true (h2 k (by simp)), h3 k (by simp)]; rfl
    · rw [has_app, h3 x (by simp [hx]), Bool.false_or]
      have : ¬ x = k := fun e => h4 (by rw [← e]; exact hx)
      simpa using this
theorem range_nodup (n : Nat) : ((List.range n).map fun i : Nat => (i : Int)).Nodup := by
  unfold List.Nodup
  rw [List.pairwise_map]
  refine List.Pairwise.imp (fun {a b} hab => ?_) List.pairwise_lt_range
  omega
theorem pack_valid {P : List Prt} {w h kf : Int} (hc : chk P w h kf = 0) : validB P w h kf (packS P w h kf (ord P)).pl (packS P w h kf (ord P)).lf = true := by
  obtain ⟨g1, g2, g3, g4, g5⟩ := chk_inv hc
  have hok := ok_of_chk hc
  have hC := pack_ch (h := h) hok (ord_sorted P) (by omega)
  have hp := pack_perm (h := h) hok
  have hnd : (ksL (packS P w h kf (ord P)).pl (packS P w h kf (ord P)).lf).Nodup := (hp.trans (ord_perm P)).nodup_iff.2 (range_nodup _)
  have hu : useB P.length [] (ksL (packS P w h kf (ord P)).pl (packS P w h kf (ord P)).lf) = true := use_nodup _ _ _ hnd (fun k hk => ord_ix P k (hp.mem_iff.1 hk)) (fun _ _ => rfl)
  unfold validB
  rw [decide_eq_true hc, hu, full_iff hu, hC.ch]
  have hl : (ksL (packS P w h kf (ord P)).pl (packS P w h kf (ord P)).lf).length = P.length := by
    unfold ksL; rw [hp.length_eq, ord_len]
  rw [decide_eq_true hl]; rfl
end Go.Vm.Ch27
