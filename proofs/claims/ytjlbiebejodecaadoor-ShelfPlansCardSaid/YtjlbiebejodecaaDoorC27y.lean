/- Chapter 27: what its functions compute. -/
import Derived.Test.YtjlbiebejodecaaDoorC27x
namespace Go.Vm.Ch27
open _root_.Ch27 (T27 c91 c92)
set_option maxRecDepth 10000
set_option maxHeartbeats 8000000
abbrev PSt := List Nod × Nat
def offS (s : PSt) : PSt := (s.1 ++ [offN (s.2 + 1)], s.2 + 1)
def cutS (ax at' kf : Int) (L R : PSt → PSt) (s : PSt) : PSt :=
  R (setR (L (s.1 ++ [cutN ax at' kf ((s.1.length : Int) + 1) 0], s.2)).1 s.1.length, (L (s.1 ++ [cutN ax at' kf ((s.1.length : Int) + 1) 0], s.2)).2)
def leafS (b : List UInt8) (s : PSt) : PSt := (s.1 ++ [prodN b], s.2)
def wasteS (s : PSt) : PSt := (s.1 ++ [wasteN], s.2)
def prodS (P : List Prt) (kf : Int) (q : Plc) (top : Int) : PSt → PSt :=
  if q.y + (gi P q.part).h + kf < top then cutS 1 (q.y + (gi P q.part).h) kf (leafS (gi P q.part).name) wasteS else leafS (gi P q.part).name
def stripS (P : List Prt) (kf w top : Int) : List Plc → PSt → PSt
  | [] => offS
  | q :: r => if q.x + (gi P q.part).w + kf < w then cutS 0 (q.x + (gi P q.part).w) kf (prodS P kf q top) (stripS P kf w top r) else prodS P kf q top
/-- How many places stand on the first one's shelf. -/
def runL : List Plc → Nat
  | [] => 0
  | q :: r => 1 + (r.takeWhile fun p => p.sh == q.sh).length
def shelvesS (P : List Prt) (kf w : Int) : Nat → List Plc → Int → PSt → PSt
  | 0, _, _ => offS
  | _ + 1, [], _ => offS
  | n + 1, q :: r, h => if q.y + (gi P q.part).h + kf < h then cutS 1 (q.y + (gi P q.part).h) kf (stripS P kf w (q.y + (gi P q.part).h) ((q :: r).take (runL (q :: r)))) (shelvesS P kf w n ((q :: r).drop (runL (q :: r))) h)
      else stripS P kf w h ((q :: r).take (runL (q :: r)))
theorem cutS_len {ax at' kf : Int} {L R : PSt → PSt} {a b : Nat} (hL : ∀ s, s.1.length ≤ (L s).1.length ∧ (L s).1.length ≤ s.1.length + a) (hR : ∀ s, s.1.length ≤ (R s).1.length ∧ (R s).1.length ≤ s.1.length + b) (s : PSt) :
    s.1.length ≤ (cutS ax at' kf L R s).1.length ∧ (cutS ax at' kf L R s).1.length ≤ s.1.length + (a + b + 1) := by
  unfold cutS
  have h1 := hL (s.1 ++ [cutN ax at' kf ((s.1.length : Int) + 1) 0], s.2)
  have h2 := hR (setR (L (s.1 ++ [cutN ax at' kf ((s.1.length : Int) + 1) 0], s.2)).1 s.1.length, (L (s.1 ++ [cutN ax at' kf ((s.1.length : Int) + 1) 0], s.2)).2)
  simp only [setR_len, List.length_append, List.length_cons, List.length_nil] at h1 h2
  omega
theorem leafS_len (b : List UInt8) (s : PSt) : s.1.length ≤ (leafS b s).1.length ∧ (leafS b s).1.length ≤ s.1.length + 1 := by simp [leafS]
theorem wasteS_len (s : PSt) : s.1.length ≤ (wasteS s).1.length ∧ (wasteS s).1.length ≤ s.1.length + 1 := by simp [wasteS]
theorem prodS_len (P : List Prt) (kf : Int) (q : Plc) (top : Int) (s : PSt) : s.1.length ≤ (prodS P kf q top s).1.length ∧ (prodS P kf q top s).1.length ≤ s.1.length + 3 := by
  unfold prodS
  split
  · exact cutS_len (a := 1) (b := 1) (leafS_len _) wasteS_len s
  · have := leafS_len (gi P q.part).name s; omega
theorem stripS_len (P : List Prt) (kf w top : Int) : ∀ (l : List Plc) (s : PSt), s.1.length ≤ (stripS P kf w top l s).1.length ∧ (stripS P kf w top l s).1.length ≤ s.1.length + (4 * l.length + 1)
  | [], s => by simp [stripS, offS]
  | q :: r, s => by
    rw [stripS]
    split
    · have := cutS_len (ax := 0) (at' := q.x + (gi P q.part).w) (kf := kf) (a := 3) (b := 4 * r.length + 1) (prodS_len P kf q top) (stripS_len P kf w top r) s
      simp only [List.length_cons]; omega
    · have := prodS_len P kf q top s
      simp only [List.length_cons]; omega
theorem q92 (M : Mem) (P : List Prt) (nn : Bool) (kf top : Int) (q : Plc) (s : PSt) (hq : 0 ≤ q.part ∧ q.part < P.length) (hh : 1 ≤ (gi P q.part).h ∧ (gi P q.part).h ≤ 1000000) (hy : 0 ≤ q.y ∧ q.y ≤ 1000000) (hk : 0 ≤ kf ∧ kf ≤ 1000) (hl : s.1.length ≤ 900) :
    callL T27 92 [.ptr (.mem M.length) 0, .agg (el q), AV.int IntKind.i64 top] (pM M P nn kf s.1 s.2) = some (.tup [], pM M P nn kf (prodS P kf q top s).1 (prodS P kf q top s).2) := by
  obtain ⟨ns, r⟩ := s
  simp only at hl ⊢
  have hobj := plM_obj M (pcO P nn kf (nodV M.length ns) r) ns
  generalize hp : gi P q.part = p at *
  have w1 : IntKind.wrap .i64 (q.y + p.h) = q.y + p.h := wrap64 (by omega) (by omega)
  have w2 : IntKind.wrap .i64 (q.y + p.h + kf) = q.y + p.h + kf := wrap64 (by omega) (by omega)
  unfold prodS
  rw [hp]
  apply callL_body (vf := c92) rfl rfl
  by_cases hc : q.y + p.h + kf < top
  · rw [if_pos hc]
    have h79 := q79 M P nn kf 1 (q.y + p.h) ns (ns ++ [cutN 1 (q.y + p.h) kf ((ns.length : Int) + 1) 0] ++ [prodN p.name]) _ r r r 99 100 [.vptr [.ptr (.mem M.length) 0] 0, .vptr (ep p) 0] [.vptr [.ptr (.mem M.length) 0] 0] (by omega) (by simp; omega) (by simp)
      (q99 M P nn kf _ r p (by simp; omega)) (q100 M P nn kf _ r (by rw [setR_len]; simp; omega))
    have e : cutS 1 (q.y + p.h) kf (leafS p.name) wasteS (ns, r) = (setR (ns ++ [cutN 1 (q.y + p.h) kf ((ns.length : Int) + 1) 0] ++ [prodN p.name]) ns.length ++ [wasteN], r) := rfl
    rw [e]
    simp only [pM] at h79 ⊢
    simp only [pcO] at hobj h79 ⊢
    simp [c92, hobj, objCells, hq, hp, w1, w2, hc, h79]
  · rw [if_neg hc]
    have h99 := q99 M P nn kf ns r p (by omega)
    have e : leafS p.name (ns, r) = (ns ++ [prodN p.name], r) := rfl
    rw [e]
    simp only [pM] at h99 ⊢
    simp only [pcO] at hobj h99 ⊢
    simp [c92, hobj, objCells, hq, hp, w1, w2, hc, h99]
theorem prodS_r (P : List Prt) (kf : Int) (q : Plc) (top : Int) (s : PSt) : (prodS P kf q top s).2 = s.2 := by
  unfold prodS
  split <;> rfl
theorem stripS_r (P : List Prt) (kf w top : Int) : ∀ (l : List Plc) (s : PSt), (stripS P kf w top l s).2 ≤ s.2 + 1
  | [], s => by simp [stripS, offS]
  | q :: r, s => by
    rw [stripS]
    split
    · unfold cutS
      have := stripS_r P kf w top r (setR (prodS P kf q top (s.1 ++ [cutN 0 (q.x + (gi P q.part).w) kf ((s.1.length : Int) + 1) 0], s.2)).1 s.1.length, (prodS P kf q top (s.1 ++ [cutN 0 (q.x + (gi P q.part).w) kf ((s.1.length : Int) + 1) 0], s.2)).2)
      simp only [prodS_r] at this ⊢
      exact this
    · rw [prodS_r]; omega
theorem q91 (M : Mem) (P : List Prt) (nn : Bool) (kf top : Int) (q : Plc) (s : PSt) (hq : 0 ≤ q.part ∧ q.part < P.length) (hh : 1 ≤ (gi P q.part).h ∧ (gi P q.part).h ≤ 1000000) (hy : 0 ≤ q.y ∧ q.y ≤ 1000000) (hk : 0 ≤ kf ∧ kf ≤ 1000) (hl : s.1.length ≤ 900) :
    callL T27 91 [.vptr [.ptr (.mem M.length) 0] 0, .vptr (el q) 0, .vptr [AV.int IntKind.i64 top] 0] (pM M P nn kf s.1 s.2) = some (.tup [], pM M P nn kf (prodS P kf q top s).1 (prodS P kf q top s).2) := by
  have h92 := q92 M P nn kf top q s hq hh hy hk hl
  apply callL_body (vf := c91) rfl rfl
  simp [c91, h92]
/-- Places that the rule of the shelves may have made. -/
def PlOK (P : List Prt) (q : Plc) : Prop := (0 ≤ q.part ∧ q.part < P.length) ∧ (0 ≤ q.x ∧ q.x ≤ 1000000) ∧ 0 ≤ q.y ∧ q.y ≤ 1000000
theorem q81 (M : Mem) (P : List Prt) (nn : Bool) (kf w top : Int) (hg : Good P) (hk : 0 ≤ kf ∧ kf ≤ 1000) : ∀ (l : List Plc) (b : Bool) (s : PSt), (∀ q ∈ l, PlOK P q) → s.1.length + 4 * l.length ≤ 900 → s.2 + 1 < 100 → l.length ≤ 1000 →
    callL T27 81 [.ptr (.mem M.length) 0, lv b l, AV.int IntKind.i64 w, AV.int IntKind.i64 top] (pM M P nn kf s.1 s.2) = some (.tup [], pM M P nn kf (stripS P kf w top l s).1 (stripS P kf w top l s).2)
  | [], b, s, hl, hn, hr, hll => by
    have h76 := q76 M P nn kf s.1 s.2 hr (by simp at hn; omega)
    have e : stripS P kf w top [] s = (s.1 ++ [offN (s.2 + 1)], s.2 + 1) := rfl
    rw [e]
    apply callL_body (vf := _root_.Ch27.c81) rfl rfl
    simp [_root_.Ch27.c81, h76]
  | q :: r, b, s, hl, hn, hr, hll => by
    obtain ⟨hq, hx, hy⟩ := hl q (by simp)
    have hpm := hg _ (gi_memP hq)
    simp only [List.length_cons] at hn hll
    have hcn := prodS_len P kf q top (s.1 ++ [cutN 0 (q.x + (gi P q.part).w) kf ((s.1.length : Int) + 1) 0], s.2)
    simp only [List.length_append, List.length_cons, List.length_nil] at hcn
    have h91 := q91 M P nn kf top q (s.1 ++ [cutN 0 (q.x + (gi P q.part).w) kf ((s.1.length : Int) + 1) 0], s.2) hq hpm.2 hy hk (by simp; omega)
    have hir := prodS_r P kf q top (s.1 ++ [cutN 0 (q.x + (gi P q.part).w) kf ((s.1.length : Int) + 1) 0], s.2)
    have ih := q81 M P nn kf w top hg hk r b (setR (prodS P kf q top (s.1 ++ [cutN 0 (q.x + (gi P q.part).w) kf ((s.1.length : Int) + 1) 0], s.2)).1 s.1.length, (prodS P kf q top (s.1 ++ [cutN 0 (q.x + (gi P q.part).w) kf ((s.1.length : Int) + 1) 0], s.2)).2)
      (fun p hp => hl p (by simp [hp])) (by simp only [setR_len]; omega) (by simp only [hir]; exact hr) (by omega)
    have h92 := q92 M P nn kf top q s hq hpm.2 hy hk (by omega)
    have hst : stripS P kf w top (q :: r) s = if q.x + (gi P q.part).w + kf < w then stripS P kf w top r (setR (prodS P kf q top (s.1 ++ [cutN 0 (q.x + (gi P q.part).w) kf ((s.1.length : Int) + 1) 0], s.2)).1 s.1.length, (prodS P kf q top (s.1 ++ [cutN 0 (q.x + (gi P q.part).w) kf ((s.1.length : Int) + 1) 0], s.2)).2) else prodS P kf q top s := by
      rw [stripS]; split <;> rfl
    rw [hst]
    clear hst
    generalize (prodS P kf q top (s.1 ++ [cutN 0 (q.x + (gi P q.part).w) kf ((s.1.length : Int) + 1) 0], s.2)) = T1 at *
    generalize stripS P kf w top r (setR T1.1 s.1.length, T1.2) = S1 at *
    have h93 : callL T27 93 [.vptr [.ptr (.mem M.length) 0] 0, .vptr [lv b (q :: r)] 0, .vptr [AV.int IntKind.i64 w] 0, .vptr [AV.int IntKind.i64 top] 0] (pM M P nn kf (setR T1.1 s.1.length) T1.2) = some (.tup [], pM M P nn kf S1.1 S1.2) := by
      apply callL_body (vf := _root_.Ch27.c93) rfl rfl
      simp [_root_.Ch27.c93, ih]
      omega
    have h79 := q79 M P nn kf 0 (q.x + (gi P q.part).w) s.1 T1.1 S1.1 s.2 T1.2 S1.2 91 93 [.vptr [.ptr (.mem M.length) 0] 0, .vptr (el q) 0, .vptr [AV.int IntKind.i64 top] 0] [.vptr [.ptr (.mem M.length) 0] 0, .vptr [lv b (q :: r)] 0, .vptr [AV.int IntKind.i64 w] 0, .vptr [AV.int IntKind.i64 top] 0] (by omega) (by omega) (by omega) h91 h93
    have hobj := plM_obj M (pcO P nn kf (nodV M.length s.1) s.2) s.1
    generalize prodS P kf q top s = S2 at *
    generalize hp : gi P q.part = p at *
    have w1 : IntKind.wrap .i64 (q.x + p.w) = q.x + p.w := wrap64 (by omega) (by omega)
    have w2 : IntKind.wrap .i64 (q.x + p.w + kf) = q.x + p.w + kf := wrap64 (by omega) (by omega)
    have g0 : gi (q :: r) 0 = q := rfl
    have hz : ¬ (r.length : Int) + 1 = 0 := by omega
    have hz2 : (0 : Int) < (r.length : Int) + 1 := by omega
    simp only [pM] at h79 h92 ⊢
    simp only [pcO] at hobj h79 h92 ⊢
    apply callL_body (vf := _root_.Ch27.c81) rfl rfl
    by_cases hc : q.x + p.w + kf < w
    · rw [if_pos hc]
      simp [_root_.Ch27.c81, hobj, objCells, hq, hp, w1, w2, hc, g0, hz, hz2, h79]
    · rw [if_neg hc]
      simp [_root_.Ch27.c81, hobj, objCells, hq, hp, w1, w2, hc, g0, hz, hz2, h92]
end Go.Vm.Ch27
