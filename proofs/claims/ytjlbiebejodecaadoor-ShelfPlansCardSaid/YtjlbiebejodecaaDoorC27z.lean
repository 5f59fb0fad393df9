/- Chapter 27: what its functions compute. -/
import Derived.Test.YtjlbiebejodecaaDoorC27y
namespace Go.Vm.Ch27
open _root_.Ch27 (T27 c60 c78 c80 c82)
set_option maxRecDepth 10000
set_option maxHeartbeats 8000000
theorem fidx_tw {α : Type} (f : α → Bool) : ∀ xs : List α, fidx (fun x => !f x) xs = if (xs.takeWhile f).length < xs.length then ((xs.takeWhile f).length : Int) else -1
  | [] => by simp [fidx]
  | x :: r => by
    have ih := fidx_tw f r
    unfold fidx at ih ⊢
    rw [List.findIdx?_cons]
    cases hx : f x
    · simp [hx]
    · simp only [List.takeWhile_cons, hx, Bool.not_true, if_true, List.length_cons]
      cases hf : r.findIdx? (fun x => !f x) with
      | none =>
        rw [hf] at ih
        simp only at ih
        simp only [Option.map_none]
        by_cases c : (r.takeWhile f).length < r.length
        · rw [if_pos c] at ih; omega
        · have c' : ¬ (r.takeWhile f).length + 1 < r.length + 1 := by omega
          rw [if_neg c']; simp
      | some i =>
        rw [hf] at ih
        simp only at ih
        simp only [Option.map_some]
        by_cases c : (r.takeWhile f).length < r.length
        · have c' : (r.takeWhile f).length + 1 < r.length + 1 := by omega
          rw [if_pos c] at ih; rw [if_pos c']; simp; omega
        · rw [if_neg c] at ih; omega
theorem q78 (p q : Plc) (b : Bool) (r : List Plc) (m : Mem) : callL T27 78 [.agg (el p), .vptr [lv b (q :: r)] 0] m = some (.bool (!(p.sh == q.sh)), m) := by
  have g0 : gi (q :: r) 0 = q := rfl
  have hz2 : (0 : Int) < (r.length : Int) + 1 := by omega
  apply callL_body (vf := c78) rfl rfl
  simp [c78, g0, hz2]
  rfl
theorem runL_le : ∀ l : List Plc, runL l ≤ l.length
  | [] => by simp [runL]
  | q :: r => by
    have : (r.takeWhile fun p => p.sh == q.sh).length ≤ r.length := (List.takeWhile_prefix _).length_le
    rw [runL, List.length_cons]; omega
theorem q77 (q : Plc) (b : Bool) (r : List Plc) (hl : r.length ≤ 1000) (m : Mem) : callL T27 77 [lv b (q :: r), .fn (.func 78) [.vptr [lv b (q :: r)] 0]] m = some (AV.int IntKind.i64 (if runL (q :: r) < (q :: r).length then (runL (q :: r) : Int) else -1), m) := by
  have h := index_vec (T := T27) (f := 77) (n := 4) rfl el (fun _ => rfl) (q :: r) b 78 [.vptr [lv b (q :: r)] 0] (fun p => !(p.sh == q.sh)) (fun z _ => q78 z q b r []) (by simp; omega) m
  rw [fidx_tw (fun p : Plc => p.sh == q.sh)] at h
  have e : ((q :: r).takeWhile fun p => p.sh == q.sh).length = runL (q :: r) := by
    rw [runL]; simp [Nat.add_comm]
  rw [e] at h
  exact h
theorem q80 (M : Mem) (P : List Prt) (nn : Bool) (kf w top : Int) (hg : Good P) (hk : 0 ≤ kf ∧ kf ≤ 1000) (l : List Plc) (b : Bool) (s : PSt) (n : Nat) (hn : n ≤ l.length) (hl : ∀ q ∈ l, PlOK P q) (hs : s.1.length + 4 * l.length ≤ 900) (hr : s.2 + 1 < 100) (_hll : l.length ≤ 1000) :
    callL T27 80 [.vptr [.ptr (.mem M.length) 0] 0, .vptr [lv b l] 0, .vptr [AV.int IntKind.i64 n] 0, .vptr [AV.int IntKind.i64 w] 0, .vptr [AV.int IntKind.i64 top] 0] (pM M P nn kf s.1 s.2) = some (.tup [], pM M P nn kf (stripS P kf w top (l.take n) s).1 (stripS P kf w top (l.take n) s).2) := by
  have h81 := q81 M P nn kf w top hg hk (l.take n) b s (fun q hq => hl q (List.mem_of_mem_take hq)) (by rw [List.length_take]; omega) hr (by rw [List.length_take]; omega)
  apply callL_body (vf := c80) rfl rfl
  simp [c80, h81]
  omega
theorem q60 (M : Mem) (P : List Prt) (nn : Bool) (kf w : Int) (hg : Good P) (hk : 0 ≤ kf ∧ kf ≤ 1000) : ∀ (f : Nat) (l : List Plc) (b : Bool) (h : Int) (s : PSt), l.length ≤ f → (∀ q ∈ l, PlOK P q) → s.1.length + 6 * l.length ≤ 800 → s.2 + l.length + 1 < 100 →
    callL T27 60 [.ptr (.mem M.length) 0, lv b l, AV.int IntKind.i64 w, AV.int IntKind.i64 h] (pM M P nn kf s.1 s.2) = some (.tup [], pM M P nn kf (shelvesS P kf w f l h s).1 (shelvesS P kf w f l h s).2)
  | f, [], b, h, s, hf, hl, hn, hr => by
    have h76 := q76 M P nn kf s.1 s.2 (by simp at hr; omega) (by simp at hn; omega)
    have e : shelvesS P kf w f [] h s = (s.1 ++ [offN (s.2 + 1)], s.2 + 1) := by cases f <;> rfl
    rw [e]
    apply callL_body (vf := c60) rfl rfl
    simp [c60, h76]
  | 0, q :: r, b, h, s, hf, hl, hn, hr => by simp at hf
  | f + 1, q :: r, b, h, s, hf, hl, hn, hr => by
    obtain ⟨hq, hx, hy⟩ := hl q (by simp)
    have hpm := hg _ (gi_memP hq)
    simp only [List.length_cons] at hn hr hf
    have hst : shelvesS P kf w (f + 1) (q :: r) h s = if q.y + (gi P q.part).h + kf < h then shelvesS P kf w f ((q :: r).drop (runL (q :: r))) h (setR (stripS P kf w (q.y + (gi P q.part).h) ((q :: r).take (runL (q :: r))) (s.1 ++ [cutN 1 (q.y + (gi P q.part).h) kf ((s.1.length : Int) + 1) 0], s.2)).1 s.1.length, (stripS P kf w (q.y + (gi P q.part).h) ((q :: r).take (runL (q :: r))) (s.1 ++ [cutN 1 (q.y + (gi P q.part).h) kf ((s.1.length : Int) + 1) 0], s.2)).2) else stripS P kf w h ((q :: r).take (runL (q :: r))) s := by
      rw [shelvesS]; split <;> rfl
    rw [hst]
    clear hst
    have h77 := q77 q b r (by omega) []
    have hNle := runL_le (q :: r)
    have hN1 : 1 ≤ runL (q :: r) := by rw [runL]; omega
    have hlen : (q :: r).length = r.length + 1 := rfl
    have htl := stripS_len P kf w (q.y + (gi P q.part).h) ((q :: r).take (runL (q :: r))) (s.1 ++ [cutN 1 (q.y + (gi P q.part).h) kf ((s.1.length : Int) + 1) 0], s.2)
    have htr := stripS_r P kf w (q.y + (gi P q.part).h) ((q :: r).take (runL (q :: r))) (s.1 ++ [cutN 1 (q.y + (gi P q.part).h) kf ((s.1.length : Int) + 1) 0], s.2)
    have h80 := q80 M P nn kf w (q.y + (gi P q.part).h) hg hk (q :: r) b (s.1 ++ [cutN 1 (q.y + (gi P q.part).h) kf ((s.1.length : Int) + 1) 0], s.2) (runL (q :: r)) hNle hl (by simp; omega) (by simp only; omega) (by simp; omega)
    have h81 := q81 M P nn kf w h hg hk ((q :: r).take (runL (q :: r))) b s (fun p hp => hl p (List.mem_of_mem_take hp)) (by rw [List.length_take]; omega) (by omega) (by rw [List.length_take]; omega)
    simp only [List.length_take, List.length_append, List.length_cons, List.length_nil] at htl htr hNle
    generalize hNN : runL (q :: r) = N at *
    have ih := q60 M P nn kf w hg hk f ((q :: r).drop N) b h (setR (stripS P kf w (q.y + (gi P q.part).h) ((q :: r).take N) (s.1 ++ [cutN 1 (q.y + (gi P q.part).h) kf ((s.1.length : Int) + 1) 0], s.2)).1 s.1.length, (stripS P kf w (q.y + (gi P q.part).h) ((q :: r).take N) (s.1 ++ [cutN 1 (q.y + (gi P q.part).h) kf ((s.1.length : Int) + 1) 0], s.2)).2) (by rw [List.length_drop]; simp; omega) (fun p hp => hl p (List.mem_of_mem_drop hp)) (by simp only [setR_len, List.length_drop, List.length_cons]; omega) (by simp only [List.length_drop, List.length_cons]; omega)
    generalize (stripS P kf w (q.y + (gi P q.part).h) ((q :: r).take N) (s.1 ++ [cutN 1 (q.y + (gi P q.part).h) kf ((s.1.length : Int) + 1) 0], s.2)) = T1 at *
    generalize shelvesS P kf w f ((q :: r).drop N) h (setR T1.1 s.1.length, T1.2) = S1 at *
    generalize stripS P kf w h ((q :: r).take N) s = S2 at *
    have h82 : callL T27 82 [.vptr [.ptr (.mem M.length) 0] 0, .vptr [lv b (q :: r)] 0, .vptr [AV.int IntKind.i64 N] 0, .vptr [AV.int IntKind.i64 w] 0, .vptr [AV.int IntKind.i64 h] 0] (pM M P nn kf (setR T1.1 s.1.length) T1.2) = some (.tup [], pM M P nn kf S1.1 S1.2) := by
      apply callL_body (vf := c82) rfl rfl
      simp [c82, ih]
      omega
    have h79 := q79 M P nn kf 1 (q.y + (gi P q.part).h) s.1 T1.1 S1.1 s.2 T1.2 S1.2 80 82 [.vptr [.ptr (.mem M.length) 0] 0, .vptr [lv b (q :: r)] 0, .vptr [AV.int IntKind.i64 N] 0, .vptr [AV.int IntKind.i64 w] 0, .vptr [AV.int IntKind.i64 (q.y + (gi P q.part).h)] 0] [.vptr [.ptr (.mem M.length) 0] 0, .vptr [lv b (q :: r)] 0, .vptr [AV.int IntKind.i64 N] 0, .vptr [AV.int IntKind.i64 w] 0, .vptr [AV.int IntKind.i64 h] 0] (by omega) (by omega) (by omega) h80 h82
    have hobj := plM_obj M (pcO P nn kf (nodV M.length s.1) s.2) s.1
    clear h80 h82 ih
    generalize hp : gi P q.part = p at *
    have w1 : IntKind.wrap .i64 (q.y + p.h) = q.y + p.h := wrap64 (by omega) (by omega)
    have w2 : IntKind.wrap .i64 (q.y + p.h + kf) = q.y + p.h + kf := wrap64 (by omega) (by omega)
    have g0 : gi (q :: r) 0 = q := rfl
    have hz : ¬ (r.length : Int) + 1 = 0 := by omega
    have hz2 : (0 : Int) < (r.length : Int) + 1 := by omega
    simp only [pM] at h79 h81 ⊢
    simp only [pcO] at hobj h79 h81 ⊢
    rw [hlen] at h77
    by_cases hNl : N < r.length + 1
    · rw [if_pos hNl] at h77
      have hNn : ¬ (N : Int) < 0 := by omega
      by_cases hc : q.y + p.h + kf < h
      · rw [if_pos hc]
        apply callL_body (vf := c60) rfl rfl
        simp [c60, hobj, objCells, hq, hp, w1, w2, hc, g0, hz, hz2, h77, hNn, h79]
      · rw [if_neg hc]
        apply callL_body (vf := c60) rfl rfl
        simp [c60, hobj, objCells, hq, hp, w1, w2, hc, g0, hz, hz2, h77, hNn, h81]
        omega
    · rw [if_neg hNl] at h77
      have hNe : (r.length : Int) + 1 = N := by omega
      have hn0 : ¬ N = 0 := by omega
      have hn1 : 0 < N := by omega
      by_cases hc : q.y + p.h + kf < h
      · rw [if_pos hc]
        apply callL_body (vf := c60) rfl rfl
        simp [c60, hobj, objCells, hq, hp, w1, w2, hc, g0, h77, hNe, hn0, hn1, h79]
      · rw [if_neg hc]
        apply callL_body (vf := c60) rfl rfl
        simp [c60, hobj, objCells, hq, hp, w1, w2, hc, g0, h77, hNe, hn0, hn1, h81]
end Go.Vm.Ch27
