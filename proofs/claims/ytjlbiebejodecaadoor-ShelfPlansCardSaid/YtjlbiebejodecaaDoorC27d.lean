/- Chapter 27: what its functions compute. -/
import Derived.Test.YtjlbiebejodecaaDoorC27c
namespace Go.Vm.Ch27
open _root_.Ch27 (T27 c16 c17 c18 c19 c49)
open Go.Vm.Stable
set_option maxRecDepth 10000
set_option maxHeartbeats 4000000
theorem q45e (caps : List AV) (m : Mem) : callL T27 45 [.vec none false [], .fn (.func 46) caps] m = some (.tup [], m) := by
  have h88 : callL T27 88 [.vec none false [], AV.int IntKind.i64 0, AV.int IntKind.i64 0, .fn (.func 46) caps] m = some (.tup [], m) := by
    apply callL_body (vf := _root_.Ch27.c88) rfl rfl
    have w1 : IntKind.wrap .i64 (0 + 1) = 1 := wrap64 (by omega) (by omega)
    simp [_root_.Ch27.c88]
    refine wp_loop (fun w s => s.get 8 = AV.int IntKind.i64 1 ∧ s.get 2 = AV.int IntKind.i64 0 ∧ s.mem = m) ?_ 0 _ ?_
    rotate_left
    · simp; rfl
    rintro w s ⟨e8, e2, hm⟩
    simp [e8, e2, hm]
  have h69 : callL T27 69 [.vec none false [], AV.int IntKind.i64 0, .fn (.func 46) caps] m = some (.tup [], m) := by
    apply callL_body (vf := _root_.Ch27.c69) rfl rfl
    simp [_root_.Ch27.c69]
    refine wp_loop (fun w s => s.get 0 = .vec none false [] ∧ s.get 1 = AV.int IntKind.i64 0 ∧ s.get 2 = .fn (.func 46) caps ∧ s.get 6 = AV.int IntKind.i64 20 ∧ s.get 7 = AV.int IntKind.i64 0 ∧ s.get 8 = AV.int IntKind.i64 20 ∧ s.mem = m) ?_ 0 _ ?_
    rotate_left
    · simp
    rintro w s ⟨e0, e1, e2, e6, e7, e8, hm⟩
    simp [e0, e1, e2, e7, e8, hm, h88]
    refine wp_loop (fun w s => s.get 1 = AV.int IntKind.i64 0 ∧ s.get 6 = AV.int IntKind.i64 20 ∧ s.mem = m) ?_ 0 _ ?_
    rotate_left
    · simp [e1, e6]
    rintro w s ⟨e1, e6, hm⟩
    simp [e1, e6, hm]
  apply callL_body (vf := _root_.Ch27.c45) rfl rfl
  simp [_root_.Ch27.c45, h69]
/-- Memory behind i elements of a row that was appended to. -/
def apm (m : Mem) (cs : List AV) : Mem := match cs with
  | [] => m
  | c :: r => m ++ (List.replicate r.length none ++ [some (.cells false (c :: r))])
theorem apm_app (m : Mem) (cs : List AV) (h : cs ≠ []) : apm m cs = m ++ (List.replicate (cs.length - 1) none ++ [some (.cells false cs)]) := by
  cases cs with
  | nil => exact absurd rfl h
  | cons c r => rfl
theorem apm_len (m : Mem) (cs : List AV) : (apm m cs).length = m.length + cs.length := by
  cases cs with
  | nil => rfl
  | cons c r => simp [apm]
theorem apm_get (m : Mem) (cs : List AV) (h : cs ≠ []) : (apm m cs)[m.length + (cs.length - 1)]? = some (some (.cells false cs)) := by
  rw [apm_app m cs h, List.getElem?_append_right (by omega), List.getElem?_append_right (by simp)]
  simp
theorem apm_next (m : Mem) (cs : List AV) (h : cs ≠ []) (c : AV) : (apm m cs).set (m.length + (cs.length - 1)) none ++ [some (.cells false (cs ++ [c]))] = apm m (cs ++ [c]) := by
  rw [apm_app m cs h, apm_app m _ (by simp), List.set_append_right _ _ (by omega), List.set_append_right _ _ (by simp)]
  obtain ⟨x, r, rfl⟩ := List.exists_cons_of_ne_nil h
  simp [List.replicate_succ']
theorem apm_set (m : Mem) (cs cs' : List AV) (h : cs ≠ []) (hl : cs.length = cs'.length) : (apm m cs).set (m.length + (cs.length - 1)) (some (.cells false cs')) = apm m cs' := by
  have h' : cs' ≠ [] := by intro e; rw [e] at hl; simp at hl; exact h hl
  rw [apm_app m cs h, apm_app m cs' h', List.set_append_right _ _ (by omega), List.set_append_right _ _ (by simp), hl]
  simp
def onat (i : Nat) : Int := (i : Int)
theorem ixs_take (P : List Prt) (i : Nat) : ((ixs P).take i).map (·.1) = ((List.range P.length).take i).map fun i : Nat => (i : Int) := by
  rw [List.map_take, ixs_val, List.map_take]
def rngc (i : Nat) : List AV := (List.range i).map fun i : Nat => AV.int .i64 i
theorem rngc_len (i : Nat) : (rngc i).length = i := by simp [rngc]
theorem rngc_succ (i : Nat) : rngc (i + 1) = rngc i ++ [AV.int .i64 i] := by simp [rngc, List.range_succ]
theorem rngc_view (i : Nat) : (rngc i).map AV.view = rngc i := by simp [rngc]
def ordV (P : List Prt) (m : Mem) : AV := if P = [] then .vec none false [] else .row (.mem (m.length + (P.length - 1))) 0 P.length
def ordM (P : List Prt) (m : Mem) : Mem := apm m ((ord P).map (AV.int .i64))
theorem q18 (P : List Prt) (nn : Bool) (hlen : P.length ≤ 1000000) (m : Mem) : callL T27 18 [pv nn P] m = some (ordV P m, ordM P m) := by
  apply callL_body (vf := c18) rfl rfl
  simp [c18]
  refine wp_loop (fun w s => ∃ i : Nat, w = P.length - i ∧ i ≤ P.length ∧ s.get 1 = .ptr (.loc 1 0) 0 ∧ s.loc 1 = [.cells false [pv nn P]] ∧ s.get 6 = AV.int IntKind.i64 P.length ∧ s.get 7 = AV.int IntKind.i64 i ∧ s.mem = apm m (rngc i) ∧ s.get 3 = (if i = 0 then .vec none false [] else .orow 1 (m.length + (i - 1)) i)) ?_ P.length _ ?_
  rotate_left
  · exact ⟨0, by simp, by simp, by simp, by simp, by simp, by simp, by simp [rngc, apm], by simp⟩
  rintro w s ⟨i, hn, hi, e1, l1, e6, e7, hm, e3⟩
  by_cases h : i < P.length
  · have w1 : IntKind.wrap .i64 ((i : Int) + 1) = (i : Int) + 1 := wrap64 (by omega) (by omega)
    by_cases h0 : i = 0
    · subst h0
      simp at e3
      simp [e1, l1, e6, e7, hm, e3, h]
      exact ⟨P.length - 1, by omega, 1, rfl, by omega, wrap64 (by omega) (by omega), by simp [rngc, apm, flat], by simp [apm, rngc]⟩
    · rw [if_neg h0] at e3
      have hne : rngc i ≠ [] := by intro e; have := rngc_len i; rw [e] at this; simp at this; omega
      have hg := apm_get m (rngc i) hne
      have hx := apm_next m (rngc i) hne (AV.int IntKind.i64 i)
      rw [rngc_len] at hg hx
      have hal := apm_len m (rngc i)
      rw [rngc_len] at hal
      simp [e1, l1, e6, e7, hm, e3, h, hg, rngc_len, rngc_view, w1, hal]
      refine ⟨by omega, P.length - (i + 1), by omega, i + 1, rfl, by omega, rfl, ?_, by simp⟩
      rw [rngc_succ]; exact hx
  · have hi : i = P.length := by omega
    subst hi
    by_cases hP : P = []
    · subst hP
      have h45 := fun m => q45e [.vptr [pv nn []] 0] m
      simp at e3 hm
      simp [e1, l1, e6, e7, hm, e3, h45, ordV, ordM, ord, ixs, srt, rngc, apm]
    · have h0 : ¬ P.length = 0 := by simpa using hP
      rw [if_neg h0] at e3
      have h45 := q45 (P := P) (nn := nn) (m := apm m (rngc P.length)) (ix := m.length + (P.length - 1)) (by rw [apm_len, rngc_len]; omega) (A := ixs P) (N := P.length) (ixs_len P).symm (by omega)
      have hr : rowc eS (ixs P) = rngc P.length := by rw [rowc_eS, ixs_val, List.map_map]; rfl
      have hr2 : rowc eS (srt (ltc (cmpS P)) (ixs P)) = (ord P).map (AV.int .i64) := by rw [rowc_eS]; rfl
      have s1 : ∀ cs' : List AV, cs'.length = P.length → (apm m (rngc P.length)).set (m.length + (P.length - 1)) (some (.cells false cs')) = apm m cs' := fun cs' hl => by
        have := apm_set m (rngc P.length) cs' (by intro e; have := rngc_len P.length; rw [e] at this; simp at this; omega) (by rw [rngc_len, hl])
        rw [rngc_len] at this; exact this
      unfold mrow at h45
      rw [hr, hr2, s1 _ (rngc_len _), s1 _ (by simp [ord_len])] at h45
      simp [e1, l1, e6, e7, hm, e3, h45, ordV, ordM, hP]
theorem ordV_sl (P : List Prt) (m : Mem) : IntSl (ordV P m) (ordM P m) (ord P) := by
  unfold ordV ordM
  by_cases hP : P = []
  · subst hP
    rw [if_pos rfl]
    exact IntSl.vec false _ []
  · rw [if_neg hP, ← ord_len P]
    have hl := ord_len P
    have h0 : P.length ≠ 0 := by simpa using hP
    have := apm_get m ((ord P).map (AV.int .i64)) (by intro e; have : ((ord P).map (AV.int IntKind.i64)).length = 0 := by rw [e]; rfl
                                                      simp at this; rw [this] at hl; simp at hl; exact h0 (by simpa using hl.symm))
    rw [List.length_map] at this
    exact IntSl.row this
end Go.Vm.Ch27
