/- Chapter 10: what its functions compute. -/
import Derived.Test.YtmncbcgcahfdcaaGreatDoorC10xb
namespace Go.Vm.Ch10
open _root_.Ch10 (T10 c10 c31)
set_option maxRecDepth 10000
set_option maxHeartbeats 16000000
theorem callL_exP {T : FuncId → Option VF} {f : FuncId} {vf : VF} {args : List AV} {m : Mem} {P : AV → Mem → Prop} (hT : T f = some vf) (hl : args.length = vf.nparams)
    (h : wp T vf.body (St.init args m) (retK vf.results P)) : ∃ v m', callL T f args m = some (v, m') ∧ P v m' := by
  obtain ⟨n, e, s', h1, h2⟩ := h
  cases e with
  | normal => obtain ⟨u, hu, he⟩ := h2; exact ⟨u, s'.mem, callL_body hT hl ⟨n, _, s', h1, u, hu, rfl, rfl⟩, he⟩
  | ret => obtain ⟨u, hu, he⟩ := h2; exact ⟨u, s'.mem, callL_body hT hl ⟨n, _, s', h1, u, hu, rfl, rfl⟩, he⟩
  | exit i => exact h2.elim
theorem q31 (x : Tk) (T : List Tk) (b h : Bool) (kv : AV) (a : Int) (_ : kv.one = true) : callL T10 31 [.agg [vv none b tv (x :: T), .bool h, kv, AV.int IntKind.i64 a]] [] = some (AV.int IntKind.i64 x.a, []) := by
  apply callL_body (vf := c31) rfl rfl
  have hg0 : gi (x :: T) (0 : Int) = x := rfl
  have hTl : ¬ (T.length : Int) + 1 = 0 := by omega
  simp [c31, objCells, hTl, hg0, et, -et_def]
/-- The memory that Parse leaves, in plain terms. -/
def lenM (M : Mem) (q o : Nat) : Nat := match M[q]? with
  | some (some (.cells false cs)) => match cs[o + 2]? with
    | some (.orow _ _ len) => len
    | _ => 0
  | _ => 0
def upM (M : Mem) (q o : Nat) (new : List AV) : Mem := match M[q]? with
  | some (some (.cells false cs)) => match cs[o + 2]? with
    | some (.orow _ i len) => match M[i]? with
      | some (some (.cells false old)) => (M.set i none ++ [some (LObj.cells false (old.map AV.view ++ new))]).set q (some (LObj.cells false (cs.set (o + 2) (.orow 4 M.length (len + 1)))))
      | _ => M
    | _ => (M ++ [some (LObj.cells false new)]).set q (some (LObj.cells false (cs.set (o + 2) (.orow 4 M.length 1))))
  | _ => M
def simM : List (List UInt8) → Nat → Mem → List AV → List (Nat × L0) → Mem
  | [], _, M, _, _ => M
  | row :: rows, i, M, O, acc => match scanS row with
    | .fault _ _ => M
    | .ok ind T hd _ => match T with
      | [] => simM rows (i + 1) M O acc
      | x :: r => if (mostF acc : Int) < ind then M else match O[ind.toNat]? with
        | some (.ptr (.mem q) o) => simM rows (i + 1) (upM M q o (lnC true ⟨x :: r, hd, (i + 1 : Nat)⟩ (.vec none false []))) (O.set (ind.toNat + 1) (.ptr (.mem M.length) (lenM M q o * 4))) (acc ++ [(ind.toNat, ⟨x :: r, hd, (i + 1 : Nat)⟩)])
        | _ => M
def finM (s : List UInt8) (m : Mem) : Mem := if 65536 < s.length then m else simM (linesL s) 0 (m ++ [lnO (sp10 s) 0, some (LObj.cells false [.vec none false [], .bool true, .vec none false [], AV.int IntKind.i64 0])]) [AV.ptr (.mem (m.length + 1)) 0, .nilptr, .nilptr, .nilptr, .nilptr, .nilptr, .nilptr, .nilptr] []
/-- What Parse answers. -/
def PA (s : List UInt8) (m : Mem) (v : AV) (m' : Mem) : Prop := m' = finM s m ∧ m.length ≤ m'.length ∧ (∀ j, j < m.length → m'[j]? = m[j]?) ∧ match parR s with
  | .fault e l c => v = .tup [.vec none false [], .agg [AV.int IntKind.i64 e, AV.int IntKind.i64 l, AV.int IntKind.i64 c]]
  | .ok acc => ∃ kv, v = .tup [kv, .agg [AV.int IntKind.i64 0, AV.int IntKind.i64 0, AV.int IntKind.i64 0]] ∧ TV m' m.length m'.length (treeF (acc.length + 1) 0 acc) kv ∧ ∃ cs x, m'[m.length + 1]? = some (some (.cells false cs)) ∧ cs[2]? = some x ∧ kv = x.view
theorem upd_mk {m M0 : Mem} {q o len : Nat} {kill : Option Nat} {new cs : List AV} (hq : q < m.length) (f1 : m[q]? = some (some (LObj.cells false cs))) (hl : M0.length = m.length) (h0 : ∀ j, some j ≠ kill → M0[j]? = m[j]?) (hk : ∀ i, kill = some i → q < i) : Upd m ((M0 ++ [some (LObj.cells false new)]).set q (some (LObj.cells false (cs.set (o + 2) (.orow 4 m.length (len + 1)))))) q o len kill new where
  u1 := fun j hj => by
    rw [List.getElem?_set_ne (by omega), List.getElem?_append_left (by omega)]
    exact h0 j fun e => by have := hk j e.symm; omega
  u2 := fun cs' h => by
    rw [f1] at h
    simp only [Option.some.injEq, LObj.cells.injEq, true_and] at h
    subst h
    exact List.getElem?_set_self (by rw [List.length_append]; omega)
  u3 := fun j h1 h2 h3 => by
    rw [List.getElem?_set_ne (by omega), List.getElem?_append_left (by omega)]
    exact h0 j h3
  u4 := by
    rw [List.getElem?_set_ne (by omega), List.getElem?_append_right (by omega)]
    simp [hl]
theorem q10 (s : List UInt8) (m : Mem) : ∃ v m', callL T10 10 [.str s] m = some (v, m') ∧ PA s m v m' := by
  apply callL_exP (vf := c10) rfl rfl
  by_cases h1 : 65536 < s.length
  · have h20 := q20a s h1 m
    simp [c10, h20, objCells, PA, parR, h1, finM]
  have h20 := q20 s h1 m
  have hll := linesL_len s
  obtain ⟨R, hR⟩ : ∃ R, linesL s = R := ⟨_, rfl⟩
  rw [hR] at h20 hll
  obtain ⟨SS, hSS⟩ : ∃ SS, (sp10 s).map AV.str ++ List.replicate 0 (AV.str []) = SS := ⟨_, rfl⟩
  obtain ⟨ob, hob⟩ : ∃ ob, lnO (sp10 s) 0 = ob := ⟨_, rfl⟩
  rw [hob] at h20
  have hob : ob = some (.cells false SS) := by rw [← hob, ← hSS]
  subst hob
  have hcell : ∀ j, j < R.length → SS[j]? = some (.str (gi R (j : Int))) := by
    intro j hj
    have hpre : ∃ Z, sp10 s = R ++ Z := by
      rw [← hR]; unfold linesL
      split
      · rename_i h
        exact ⟨[[]], by rw [List.getLast?_eq_some_getLast (sp10_ne s)] at h; rw [← Option.some.inj h, List.dropLast_concat_getLast]⟩
      · exact ⟨[], by simp⟩
    obtain ⟨Z, hZ⟩ := hpre
    rw [← hSS, hZ, List.map_append, List.append_assoc, List.getElem?_append_left (by simpa using hj)]
    simp [hj, gi_nat hj]
  obtain ⟨S0, hS0⟩ : ∃ S0, finM s m = S0 := ⟨_, rfl⟩
  have hS1 := hS0
  unfold finM at hS1
  rw [if_neg h1, hR] at hS1
  rw [show lnO (sp10 s) 0 = some (LObj.cells false SS) by rw [← hSS]] at hS1
  simp [c10, h20]
  refine wp_loop (fun n t => ∃ (i : Nat) (c : Chain) (ps : List AV) (O : List AV), n = R.length - i ∧ i ≤ R.length ∧ t.get 3 = .ptr (.loc 3 0) 0 ∧ t.loc 3 = [.cells false [AV.int IntKind.i64 0, AV.int IntKind.i64 0, AV.int IntKind.i64 0]] ∧ t.get 6 = .ptr (.mem (m.length + 1)) 0 ∧ t.get 7 = .ptr (.loc 7 0) 0 ∧ t.loc 7 = [.cells false O] ∧ t.get 8 = AV.int IntKind.i64 ((c.length : Int) - 1) ∧ t.get 9 = .bool (chH c) ∧ t.get 27 = .row (.mem m.length) 0 R.length ∧ t.get 28 = AV.int IntKind.i64 (R.length : Nat) ∧ t.get 29 = AV.int IntKind.i64 (i : Nat) ∧
    (∀ j, j ≤ m.length → t.mem[j]? = (m ++ [some (LObj.cells false SS)])[j]?) ∧ m.length + 1 < t.mem.length ∧ CH t.mem (m.length + 1) 0 c ps ∧ O.length = 8 ∧ O.take (ps.length + 1) = .ptr (.mem (m.length + 1)) 0 :: ps ∧ (pre 0 (Tc c)).length ≤ i ∧ parF (R.drop i) i (pre 0 (Tc c)) = parF R 0 [] ∧ simM (R.drop i) i t.mem O (pre 0 (Tc c)) = S0) ?_ R.length _ ?_
  rotate_left
  · refine ⟨0, [], [], [.ptr (.mem (m.length + 1)) 0, .nilptr, .nilptr, .nilptr, .nilptr, .nilptr, .nilptr, .nilptr], ?_⟩
    simp [chH, CH, Tc, pre, fieldAt]
    refine ⟨fun j hj => ?_, by simpa using hS1⟩
    rw [show m ++ [some (LObj.cells false SS), some (LObj.cells false [AV.vec none false [], AV.bool true, AV.vec none false [], AV.int IntKind.i64 0])] = (m ++ [some (LObj.cells false SS)]) ++ [some (LObj.cells false [AV.vec none false [], AV.bool true, AV.vec none false [], AV.int IntKind.i64 0])] by simp, List.getElem?_append_left (by simp; omega)]
  rintro n t ⟨i, c, ps, O, hn, hi, e3, l3, e6, e7, l7, e8, e9, e27, e28, e29, hfr, hml, hC, hO, hOp, hpl, hE, hS⟩
  have hcl := CH_ps c _ _ ps hC
  have hmR : t.mem[m.length]? = some (some (LObj.cells false SS)) := by rw [hfr _ (Nat.le_refl _)]; simp
  by_cases hlt : i < R.length
  rotate_left
  · have hli : ¬ (i : Int) < R.length := by omega
    rw [List.drop_eq_nil_of_le (by omega)] at hE
    rw [List.drop_eq_nil_of_le (by omega)] at hS
    simp only [simM] at hS
    simp only [parF] at hE
    have hroot : ∃ cs v, t.mem[m.length + 1]? = some (some (.cells false cs)) ∧ cs[2]? = some v ∧ TV t.mem (m.length + 1) t.mem.length (Tc c) v.view := by
      cases c with
      | nil =>
        obtain ⟨-, cs, a1, a2⟩ := hC
        exact ⟨cs, _, a1, a2, .nil⟩
      | cons e c =>
        obtain ⟨p, l⟩ := e
        have hC' := hC
        obtain ⟨i, es, b, x, ps', k1, kb, ⟨cs, a1, a2⟩, k3⟩ := hC
        exact ⟨cs, _, a1, a2, CH_TV _ _ _ _ _ hC' ⟨cs, a1, a2⟩⟩
    obtain ⟨cs, v, a1, a2, hv⟩ := hroot
    obtain ⟨w, hw⟩ : ∃ w, v.view = w := ⟨_, rfl⟩
    rw [hw] at hv
    obtain ⟨⟨ew, hew, -⟩⟩ := hv.at
    simp [e3, e6, e27, e28, e29, hli, l3, a1, a2, hw, hew.tk, hew.nl, hew.view, memO, objCells]
    refine ⟨by rw [hS0]; exact hS, by omega, fun j hj => ?_, ?_⟩
    · rw [hfr j (by omega), List.getElem?_append_left hj]
    · rw [show parR s = .ok (pre 0 (Tc c)) by unfold parR; rw [if_neg h1, hR, ← hE]]
      exact ⟨w, rfl, by rw [tree_pre 0 _ _ (Nat.le_succ _)]; exact hv.mono (by omega) (Nat.le_refl _) fun _ _ _ => rfl, cs, v, a1, a2, hw.symm⟩
  have hli : (i : Int) < R.length := by omega
  obtain ⟨row, hrow⟩ : ∃ x, gi R (i : Int) = x := ⟨_, rfl⟩
  have hd : R.drop i = row :: R.drop (i + 1) := by rw [← hrow, gi_nat hlt]; simp
  have hmem : row ∈ linesL s := by rw [hR, ← hrow, gi_nat hlt]; exact List.getElem_mem _
  have h22 := q22 row (by have := linesL_row hmem; omega) []
  have hce := hcell i hlt
  rw [hrow] at hce
  rw [hd] at hE hS
  have w1 : W64 ((i : Int) + 1) ((i + 1 : Nat) : Int) := .mkI rfl (by omega) (by omega)
  have hPF : t.mem = S0 → ∀ e l c', parF R 0 [] = .fault e l c' → PA s m (.tup [.vec none false [], .agg [AV.int IntKind.i64 e, AV.int IntKind.i64 l, AV.int IntKind.i64 c']]) t.mem := by
    intro hS e l c' hp
    refine ⟨by rw [hS0]; exact hS, by omega, fun j hj => by rw [hfr j (by omega), List.getElem?_append_left hj], ?_⟩
    rw [show parR s = .fault e l c' by unfold parR; rw [if_neg h1, hR, hp]]
  have hc8 : c.length + 1 ≤ 8 := by
    have := congrArg List.length hOp
    rw [List.length_take, List.length_cons] at this
    omega
  have hmc := most_ch c
  have w3 : W64 (c.length : Int) (c.length : Int) := .mkI rfl (by omega) (by omega)
  have w2 : W64 ((c.length : Int) - 1 + 1) (c.length : Int) := .mkI (by omega) (by omega) (by omega)
  cases hsc : scanS row with
  | fault e c' =>
    have he := scan_e hsc
    simp only [parF, hsc] at hE
    simp only [simM, hsc] at hS
    simp only [hsc, scV] at h22
    simp [e3, e6, e7, e8, e9, e27, e28, e29, hli, h22, hmR, hce, memO, he, l3, objCells, w1.eq, -Int.natCast_add]
    exact hPF hS _ _ _ hE.symm
  | ok ind T hd cm =>
    obtain ⟨d, rfl, hd6⟩ := scan_ind hsc
    have hT := scan_len hsc
    simp only [parF, hsc] at hE
    simp only [simM, hsc] at hS
    simp only [hsc, scV] at h22
    cases T with
    | nil =>
      simp only at hE hS
      simp [e3, e6, e7, e8, e9, e27, e28, e29, hli, h22, hmR, hce, memO, l3, objCells, w1.eq, -Int.natCast_add]
      exact ⟨R.length - (i + 1), by omega, i + 1, rfl, by omega, c, ps, O, l7, rfl, rfl, rfl, hfr, hml, hC, hO, hOp, by omega, hE, hS⟩
    | cons x T =>
      simp only at hE hS
      have hTl : ¬ (T.length : Int) + 1 = 0 := by omega
      by_cases hc : (mostF (pre 0 (Tc c)) : Int) < d
      · rw [if_pos hc] at hE hS
        have h31 := q31 x T true hd (.vec none false []) ((i + 1 : Nat) : Int) rfl
        by_cases k1 : c.length < d
        · simp [e3, e6, e7, e8, e9, e27, e28, e29, hli, h22, hmR, hce, memO, l3, objCells, w1.eq, w3.eq, k1, h31, -Int.natCast_add]
          exact hPF hS _ _ _ hE.symm
        · have k2 : d = c.length := by split at hmc <;> omega
          have k3 : chH c = false := by
            cases hh : chH c with
            | false => rfl
            | true => rw [hh] at hmc; simp at hmc; omega
          simp [e3, e6, e7, e8, e9, e27, e28, e29, hli, h22, hmR, hce, memO, l3, objCells, w1.eq, w3.eq, k2, k3, h31, -Int.natCast_add]
          exact hPF hS _ _ _ hE.symm
      · rw [if_neg hc] at hE hS
        simp only [Int.toNat_natCast] at hS
        have hdc : d ≤ c.length := by split at hmc <;> omega
        obtain ⟨q', o', kv, len, kill, old, g1, g2, g3, ⟨cs, f1, f2⟩, g5, gl, g6⟩ := CH_ins ⟨x :: T, hd, (i + 1 : Nat)⟩ true (fun h => by cases h) d (m.length + 1) 0 c ps hC hdc
        have gO : O[d]? = some (.ptr (.mem q') o') := by
          have := congrArg (fun l => l[d]?) hOp
          rw [List.getElem?_take, if_pos (by omega)] at this
          rw [this]; exact g1
        rw [gO] at hS
        simp only [upM, lenM, f1, f2] at hS
        rw [← Nat.zero_add d, ← pre_ins _ d 0 c hdc, Nat.zero_add] at hS
        have hd8 : (d : Int) < 8 := by omega
        have gl0 := gl 0
        have w4 : W64 ((len : Int) + 1) ((len + 1 : Nat) : Int) := .mkI rfl (by omega) (by omega)
        have w5 : W64 ((d : Int) + 1) ((d + 1 : Nat) : Int) := .mkI rfl (by omega) (by omega)
        have hq' : q' < t.mem.length := (List.getElem?_eq_some_iff.1 f1).1
        have hfl : flat [AV.agg [.vec none false [], .bool false, .vec none false [], AV.int IntKind.i64 0]] = [.vec none false [], .bool false, .vec none false [], AV.int IntKind.i64 0] := rfl
        have hqC : ∀ X Y, ((t.mem ++ [X]).set q' Y)[q']? = some Y := fun X Y => List.getElem?_set_self (by rw [List.length_append]; omega)
        have hqD : ∀ (X : Option LObj) (k : Nat) (Z Y : Option LObj), ((t.mem.set k Z ++ [X]).set q' Y)[q']? = some Y := fun X k Z Y => List.getElem?_set_self (by rw [List.length_append, List.length_set]; omega)
        have hqA : ∀ X, (t.mem ++ [X])[q']? = some (some (.cells false cs)) := fun X => by rw [List.getElem?_append_left hq']; exact f1
        have ho2 : o' + 2 + 1 ≤ cs.length := (List.getElem?_eq_some_iff.1 f2).1
        have hne : ¬ t.mem.length = q' := by omega
        have hcs : ∀ y, (cs.set (o' + 2) y)[o' + 2]? = some y := fun y => List.getElem?_set_self (by omega)
        have w6 : W64 (((len + 1 : Nat) : Int) - 1) (len : Nat) := .mkI (by omega) (by omega) (by omega)
        have w7 : W64 ((d : Int) + 1) ((d + 1 : Nat) : Int) := .mkI rfl (by omega) (by omega)
        have hd8' : d + 1 < 8 := by omega
        have fin : ∀ M1, Upd t.mem M1 q' o' len kill (old.map AV.view ++ lnC true ⟨x :: T, hd, (i + 1 : Nat)⟩ (.vec none false [])) → M1.length = t.mem.length + 1 → (∀ j, j ≤ m.length → M1[j]? = (m ++ [some (LObj.cells false SS)])[j]?) ∧ m.length + 1 < M1.length ∧ CH M1 (m.length + 1) 0 (insC d ⟨x :: T, hd, (i + 1 : Nat)⟩ c) (ps.take d ++ [.ptr (.mem t.mem.length) (len * 4)]) ∧ (O.set (d + 1) (.ptr (.mem t.mem.length) (len * 4))).length = 8 ∧ (O.set (d + 1) (.ptr (.mem t.mem.length) (len * 4))).take ((ps.take d ++ [AV.ptr (.mem t.mem.length) (len * 4)]).length + 1) = .ptr (.mem (m.length + 1)) 0 :: (ps.take d ++ [.ptr (.mem t.mem.length) (len * 4)]) ∧ (pre 0 (Tc (insC d ⟨x :: T, hd, (i + 1 : Nat)⟩ c))).length ≤ i + 1 ∧ parF (R.drop (i + 1)) (i + 1) (pre 0 (Tc (insC d ⟨x :: T, hd, (i + 1 : Nat)⟩ c))) = parF R 0 [] := by
          intro M1 U hM
          refine ⟨fun j hj => by rw [U.u1 j (by omega)]; exact hfr j hj, by omega, g6 M1 U, by simpa using hO, ?_, ?_, ?_⟩
          · have e1 : (ps.take d ++ [AV.ptr (.mem t.mem.length) (len * 4)]).length + 1 = (d + 1) + 1 := by simp; omega
            have e2 : O.take (d + 1) = .ptr (.mem (m.length + 1)) 0 :: ps.take d := by
              have := congrArg (List.take (d + 1)) hOp
              rw [List.take_take, Nat.min_eq_left (by omega)] at this
              rw [this]; rfl
            rw [e1, List.take_add_one, List.take_set_of_le (by omega), e2, List.getElem?_set_self (by omega)]
            rfl
          · rw [pre_ins _ d 0 c hdc, List.length_append]
            simp; omega
          · rw [pre_ins _ d 0 c hdc, Nat.zero_add]
            exact hE
        have w0 : W64 (0 : Int) 0 := .mkI rfl (by omega) (by omega)
        have k3 : ¬ c.length < d := by omega
        by_cases k1 : d < c.length
        · have k2 : ¬ (d : Int) = c.length := by omega
          rcases g5 with ⟨rfl, rfl, rfl, rfl⟩ | ⟨i0, rfl, hqi, rfl, hi0, hold⟩
          · have U := upd_mk (len := 0) (o := o') (kill := none) (new := lnC true ⟨x :: T, hd, (i + 1 : Nat)⟩ (.vec none false [])) hq' f1 rfl (fun _ _ => rfl) (fun i h => by cases h)
            obtain ⟨r1, r2, r3, r4, r5, r6⟩ := fin _ U (by simp)
            simp [e3, e6, e7, e8, e9, e27, e28, e29, hli, h22, hmR, hce, memO, l3, l7, objCells, w0.eq, w1.eq, w3.eq, k2, k3, gO, hd8, f1, f2, hfl, hqA, hqC, ho2, hne, hcs, w7.eq, -Int.natCast_add]
            exact ⟨by omega, by omega, R.length - (i + 1), by omega, i + 1, rfl, by omega, _, by rw [insC_len _ _ _ hdc]; omega, (insC_H ⟨x :: T, hd, (i + 1 : Nat)⟩ _ _ hdc).symm, rfl, r1, by omega, _, r3, hO, r5, r6.1, r6.2, hS⟩
          · simp only [hi0] at hS
            have hqB : ∀ X, (t.mem.set i0 none ++ [X])[q']? = some (some (.cells false cs)) := fun X => by rw [List.getElem?_append_left (by simpa using hq'), List.getElem?_set_ne (by omega)]; exact f1
            have ht1 : List.take (len * 4) (List.map AV.view old) = List.map AV.view old := List.take_of_length_le (by simp [hold])
            have ht2 : ∀ Y, List.take (len * 4) (List.map AV.view old ++ Y) = List.map AV.view old := fun Y => List.take_left' (by simp [hold])
            have ht3 : ∀ Y, List.drop (len * 4 + 4) (List.map AV.view old ++ Y) = Y.drop 4 := fun Y => by
              rw [← List.drop_drop, List.drop_left' (by simp [hold])]
            have U := upd_mk (M0 := t.mem.set i0 none) (len := len) (o := o') (kill := some i0) (new := old.map AV.view ++ lnC true ⟨x :: T, hd, (i + 1 : Nat)⟩ (.vec none false [])) hq' f1 (by simp) (fun j hj => List.getElem?_set_ne fun e => hj (by rw [e])) (fun i h => by cases h; exact hqi)
            obtain ⟨r1, r2, r3, r4, r5, r6⟩ := fin _ U (by simp)
            simp [e3, e6, e7, e8, e9, e27, e28, e29, hli, h22, hmR, hce, memO, l3, l7, objCells, w1.eq, w3.eq, k2, k3, gO, hd8, f1, f2, hi0, hfl, hqB, hqD, hold, ho2, hne, hcs, w6.eq, w7.eq, ht1, ht2, ht3, -Int.natCast_add]
            exact ⟨by omega, by omega, by omega, R.length - (i + 1), by omega, i + 1, rfl, by omega, _, by rw [insC_len _ _ _ hdc]; omega, (insC_H ⟨x :: T, hd, (i + 1 : Nat)⟩ _ _ hdc).symm, rfl, r1, by omega, _, r3, hO, r5, r6.1, r6.2, hS⟩
          
        · have k4 : d = c.length := by omega
          have k5 : chH c = true := by
            cases hh : chH c with
            | true => rfl
            | false => rw [hh] at hmc; simp at hmc; omega
          have k6 := eq_true k4
          have k7 : ((d : Int) = (c.length : Int)) = True := eq_true (by omega)
          rcases g5 with ⟨rfl, rfl, rfl, rfl⟩ | ⟨i0, rfl, hqi, rfl, hi0, hold⟩
          · have U := upd_mk (len := 0) (o := o') (kill := none) (new := lnC true ⟨x :: T, hd, (i + 1 : Nat)⟩ (.vec none false [])) hq' f1 rfl (fun _ _ => rfl) (fun i h => by cases h)
            obtain ⟨r1, r2, r3, r4, r5, r6⟩ := fin _ U (by simp)
            simp [e3, e6, e7, e8, e9, e27, e28, e29, hli, h22, hmR, hce, memO, l3, l7, objCells, w0.eq, w1.eq, w3.eq, k5, k7, k3, gO, hd8, f1, f2, hfl, hqA, hqC, ho2, hne, hcs, w7.eq, -Int.natCast_add]
            exact ⟨by omega, by omega, R.length - (i + 1), by omega, i + 1, rfl, by omega, _, by rw [insC_len _ _ _ hdc]; omega, (insC_H ⟨x :: T, hd, (i + 1 : Nat)⟩ _ _ hdc).symm, rfl, r1, by omega, _, r3, hO, r5, r6.1, r6.2, hS⟩
          · simp only [hi0] at hS
            have hqB : ∀ X, (t.mem.set i0 none ++ [X])[q']? = some (some (.cells false cs)) := fun X => by rw [List.getElem?_append_left (by simpa using hq'), List.getElem?_set_ne (by omega)]; exact f1
            have ht1 : List.take (len * 4) (List.map AV.view old) = List.map AV.view old := List.take_of_length_le (by simp [hold])
            have ht2 : ∀ Y, List.take (len * 4) (List.map AV.view old ++ Y) = List.map AV.view old := fun Y => List.take_left' (by simp [hold])
            have ht3 : ∀ Y, List.drop (len * 4 + 4) (List.map AV.view old ++ Y) = Y.drop 4 := fun Y => by
              rw [← List.drop_drop, List.drop_left' (by simp [hold])]
            have U := upd_mk (M0 := t.mem.set i0 none) (len := len) (o := o') (kill := some i0) (new := old.map AV.view ++ lnC true ⟨x :: T, hd, (i + 1 : Nat)⟩ (.vec none false [])) hq' f1 (by simp) (fun j hj => List.getElem?_set_ne fun e => hj (by rw [e])) (fun i h => by cases h; exact hqi)
            obtain ⟨r1, r2, r3, r4, r5, r6⟩ := fin _ U (by simp)
            simp [e3, e6, e7, e8, e9, e27, e28, e29, hli, h22, hmR, hce, memO, l3, l7, objCells, w1.eq, w3.eq, k5, k7, k3, gO, hd8, f1, f2, hi0, hfl, hqB, hqD, hold, ho2, hne, hcs, w6.eq, w7.eq, ht1, ht2, ht3, -Int.natCast_add]
            exact ⟨by omega, by omega, by omega, R.length - (i + 1), by omega, i + 1, rfl, by omega, _, by rw [insC_len _ _ _ hdc]; omega, (insC_H ⟨x :: T, hd, (i + 1 : Nat)⟩ _ _ hdc).symm, rfl, r1, by omega, _, r3, hO, r5, r6.1, r6.2, hS⟩
          
end Go.Vm.Ch10
