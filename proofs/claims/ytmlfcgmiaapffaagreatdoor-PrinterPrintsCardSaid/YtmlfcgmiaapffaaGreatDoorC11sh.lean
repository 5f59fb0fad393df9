/- Chapter 11: what its functions compute. -/
import Derived.Test.YtmlfcgmiaapffaaGreatDoorC11sg
namespace Go.Vm.Ch11
open _root_.Ch11 (T11 c17 c42 c19 c13)
set_option maxRecDepth 10000
set_option maxHeartbeats 16000000
mutual
def lnW : Ln → AV
  | .mk T h K a => .agg [vv none true tv T, .bool h, lnsW K, AV.int .i64 a]
def lnsW : List Ln → AV
  | [] => .vec none true []
  | x :: r => .vec none true (lnW x :: lnsLW r)
def lnsLW : List Ln → List AV
  | [] => []
  | x :: r => lnW x :: lnsLW r
end
theorem lnsLW_eq : ∀ K, lnsLW K = K.map lnW
  | [] => rfl
  | x :: r => by simp [lnsLW, lnsLW_eq r]
theorem lnsW_eq (K : List Ln) : lnsW K = vv none true lnW K := by
  cases K with
  | nil => rfl
  | cons x r => simp [lnsW, lnsLW_eq, vv]
theorem TV_lns {m : Mem} {lo hi : Nat} : ∀ (n : Nat) (K : List Ln), szL K < n → TV m lo hi K (lnsV K)
  | 0, _, h => absurd h (Nat.not_lt_zero _)
  | n + 1, K, h => by
    refine .mk K _ (fun j => !(gi K (j : Int)).toks.isEmpty) (fun j => lnsV (gi K (j : Int)).kids) (.inl ⟨!K.isEmpty, ?_, fun h => ?_⟩) (fun j hj h => by simpa using h) fun j hj => ?_
    · rw [lnsV_eq]
      simp only [ovn, vv]
      congr 1
      apply List.ext_getElem
      · simp
      · intro j h1 h2
        have hj : j < K.length := by simpa using h1
        simp only [List.getElem_map, List.getElem_range, gi_nat hj]
        cases K[j] with
        | mk T h K a => rfl
    · simp at h; simp [h]
    · have h1 := szL_get K j hj
      rw [← gi_nat hj] at h1
      cases hg : gi K (j : Int) with
      | mk T hd K' a =>
        rw [hg, szN] at h1
        simp only [Ln.kids]
        have e : (lnsV K').view = lnsV K' := by rw [lnsV_eq]; rfl
        rw [e]
        exact TV_lns n K' (by omega)
theorem TV_lnw {m : Mem} {lo hi : Nat} : ∀ (n : Nat) (K : List Ln), szL K < n → TV m lo hi K (lnsW K)
  | 0, _, h => absurd h (Nat.not_lt_zero _)
  | n + 1, K, h => by
    refine .mk K _ (fun _ => true) (fun j => lnsW (gi K (j : Int)).kids) (.inl ⟨true, ?_, fun h => ?_⟩) (fun j hj h => by cases h) fun j hj => ?_
    · rw [lnsW_eq]
      simp only [vv]
      congr 1
      apply List.ext_getElem
      · simp
      · intro j h1 h2
        have hj : j < K.length := by simpa using h1
        simp only [List.getElem_map, List.getElem_range, gi_nat hj]
        cases K[j] with
        | mk T h K a => rfl
    · cases h
    · have h1 := szL_get K j hj
      rw [← gi_nat hj] at h1
      cases hg : gi K (j : Int) with
      | mk T hd K' a =>
        rw [hg, szN] at h1
        simp only [Ln.kids]
        have e : (lnsW K').view = lnsW K' := by rw [lnsW_eq]; rfl
        rw [e]
        exact TV_lnw n K' (by omega)
theorem q42 : ∀ (N : Nat) (K : List Ln) (v : AV) (d k : Nat), szL K < N → N ≤ 250001 → d + dL K ≤ 8 → k + cL K ≤ 600000 → allL vT K = true → TV [] 0 0 K v → callL T11 42 [v, AV.int .i64 (d : Nat), AV.int .i64 (k : Nat)] [] = some (.tup [vv none true lnW (numL d k K), AV.int .i64 ((k + cL K : Nat) : Int)], []) := by
  intro N
  induction N with
  | zero => intro K v d k h; omega
  | succ N ih =>
    intro K v d k hN hN2 hd hk hall hK
    obtain ⟨ea, hea, la, ha⟩ := hK.at2
    have hvv := hea.view
    have hvl := hea.len
    have hvn := hea.nl
    have hszl := szL_len K
    have hcK := (mea_sz K).1
    apply callL_body (vf := c42) rfl rfl
    simp [c42]
    refine wp_loop (fun n s => ∃ (i : Nat), n = K.length - i ∧ i ≤ K.length ∧ s.get 0 = v ∧ s.get 1 = AV.int .i64 d ∧ s.get 2 = AV.int .i64 ((k + cL (K.take i) : Nat) : Int) ∧ s.get 8 = vv (some 4) true lnW (numL d k (K.take i)) ∧ s.get 9 = AV.int .i64 (i : Nat) ∧ s.mem = []) ?_ K.length _ ?_
    rotate_left
    · refine ⟨0, ?_⟩
      simp [numL, cL]
      rfl
    rintro n s ⟨i, hn, hi', e0, e1, e2, e8, e9, em⟩
    by_cases hlt : i < K.length
    rotate_left
    · have hli : ¬ (i : Int) < K.length := by omega
      have hie : i = K.length := by omega
      rw [hie, List.take_length] at e2 e8
      simp [e0, e2, e8, e9, em, hli, hvv, hvl, la]
    have hli : (i : Int) < K.length := by omega
    obtain ⟨nt, kv, hE, hnt, hkv⟩ := ha i (by omega)
    obtain ⟨a, ha1, ha2, -, -, -, ha6⟩ := hea.adr i (by omega)
    rw [hE] at ha2 ha6
    obtain ⟨ak, ha7, ha8, -, -⟩ := ha6 2 kv rfl
    obtain ⟨⟨ek, hek, -⟩⟩ := hkv.at
    have hone' : kv.one = true := by rw [← one_view]; exact hek.one
    have hgood : kv.good = true := one_good hone'
    have hdk := dL_at K i hlt
    have hszk := szL_kid hlt
    have hrt := rows_take (d := d) hlt
    have hnt' := num_take (d := d) (n := k) hlt
    have hrl2 := rowsL_len d (K.take i)
    have hrl3 := rowsL_len d (K.take (i + 1))
    have hct := cL_take K (i + 1)
    have hmx := allL_at hall _ (show gi K (i : Int) ∈ K by rw [gi_nat hlt]; exact List.getElem_mem _)
    have hsz := szL_get K i hlt
    rw [← gi_nat hlt] at hsz
    generalize gi K (i : Int) = x at *
    obtain ⟨T, h, K', ax⟩ := x
    simp only [Ln.toks, Ln.head, Ln.kids, Ln.at_, allN, Bool.and_eq_true, szN] at *
    have hcn := congrArg List.length hrt
    rw [hrl3, List.length_append, hrl2, rowsN, List.length_cons, rowsL_len] at hcn
    have h60 := q60 T nt h kv ax d hone' (by omega) (by omega) hmx.1
    have hIH := ih K' kv.view (d + 1) (k + cL (K.take i) + 1) (by omega) (by omega) (by omega) (by omega) hmx.2 hkv
    have w1 : W64 ((i : Int) + 1) ((i + 1 : Nat) : Int) := .mkI rfl (by omega) (by omega)
    have w2 : W64 ((d : Int) + 1) ((d + 1 : Nat) : Int) := .mkI rfl (by omega) (by omega)
    have hkvv := hek.view
    have hknl := hek.nl
    have w3 : W64 (((k + cL (K.take i) : Nat) : Int) + 1) ((k + cL (K.take i) + 1 : Nat) : Int) := .mkI rfl (by omega) (by omega)
    obtain ⟨c, hc⟩ : ∃ c, k + cL (K.take i) = c := ⟨_, rfl⟩
    have hc2 : k + cL (K.take (i + 1)) = c + 1 + cL K' := by omega
    rw [hc] at e2 hIH w3
    obtain ⟨NN, hNN⟩ : ∃ NN, numL d k (K.take i) = NN := ⟨_, rfl⟩
    have hNl : NN.length ≤ 250001 := by
      rw [← hNN, numL_length]
      have := List.length_take_le i K
      omega
    rw [hNN] at e8
    have b1 : (NN.length + 1) * 64 ≤ 140737488355328 := by omega
    simp [e0, e1, e2, e8, e9, em, hli, hvv, hvl, la, ha1, ha2, ha7, ha8, hone', objCells, h60, hIH, b1, hkvv, hknl, w1.eq, w2.eq, w3.eq, -Int.natCast_add]
    refine ⟨K.length - (i + 1), by omega, i + 1, rfl, by omega, by rw [hc2], ?_, rfl⟩
    rw [hnt', hNN, hc]
    simp [numN, lnW, lnsW_eq, vv]
theorem q19 (K : List Ln) (v : AV) (hs : szL K ≤ 250000) (hd : dL K ≤ 7) (hall : allL vT K = true) (hK : TV [] 0 0 K v) : callL T11 19 [v] [] = some (lnsW (numL 0 1 K), []) := by
  have hcK := (mea_sz K).1
  have h42 := q42 (szL K + 1) K v 0 1 (Nat.lt_succ_self _) (by omega) (by omega) (by omega) hall hK
  rw [show (((0 : Nat) : Int)) = 0 from rfl, show (((1 : Nat) : Int)) = 1 from rfl] at h42
  obtain ⟨⟨es, he, -⟩⟩ := hK.at
  rw [lnsW_eq]
  apply callL_body (vf := c19) rfl rfl
  simp [c19, he.view, he.nl, h42]
theorem lnF_len : ∀ (T : List Tk) (s : List UInt8) (q : Option Tk), T.all vT = true → (lnF s q T).1.length ≤ s.length + 203 * T.length
  | [], s, q, _ => by simp [lnF]
  | p :: T, s, q, h => by
    simp only [List.all_cons, Bool.and_eq_true] at h
    have h1 := lnF_len T (pref q p s ++ spT p) (some p) h.2
    have h2 := pref_len q p s
    have h3 := (spT_len h.1).1
    simp only [lnF, List.length_cons]
    rw [List.length_append] at h1
    omega
theorem rows_short : ∀ N K d, szL K < N → N ≤ 250001 → d + dL K ≤ 8 → allL vT K = true → ∀ r ∈ rowsL d K, r.length ≤ 60000000 := by
  intro N
  induction N with
  | zero => intro K d h; omega
  | succ N ih =>
    intro K d
    induction K with
    | nil => intro _ _ _ _ r hr; simp [rowsL] at hr
    | cons x r ihr =>
      intro h hN hd hall y hy
      obtain ⟨T, hd', K', a⟩ := x
      simp only [szL, szN] at h
      simp only [dL, dN] at hd
      simp only [allL, allN, Bool.and_eq_true] at hall
      simp only [rowsL, rowsN, List.cons_append, List.mem_cons, List.mem_append] at hy
      rcases hy with rfl | hy | hy
      · have h1 := lnF_len T (ind d) none hall.1.1
        rw [ind_len] at h1
        simp only [lineS, List.length_append]
        split
        · simp; omega
        · simp; omega
      · exact ih K' (d + 1) (by omega) (by omega) (by omega) hall.1.2 y hy
      · exact ihr (by omega) hN (by omega) hall.2 y hy
theorem q17 (K : List Ln) (v : AV) (hs : szL K ≤ 250000) (hd : dL K ≤ 7) (hall : allL vT K = true) (hK : TV [] 0 0 K v) : callL T11 17 [v] [] = some (.str (srcF K), []) := by
  have h40 := q40 (szL K + 1) K v 0 (Nat.lt_succ_self _) (by omega) (by omega) hall hK
  have hsh := rows_short (szL K + 1) K 0 (Nat.lt_succ_self _) (by omega) (by omega) hall
  have hrl := rowsL_len 0 K
  have hcK := (mea_sz K).1
  rw [show (((0 : Nat) : Int)) = 0 from rfl] at h40
  obtain ⟨⟨es, he, -⟩⟩ := hK.at
  obtain ⟨R, hR⟩ : ∃ R, rowsL 0 K = R := ⟨_, rfl⟩
  have hsrc : srcF K = srcR R := by rw [srcF, hR]
  rw [hR] at h40 hsh hrl
  rw [hsrc]
  apply callL_body (vf := c17) rfl rfl
  simp [c17, he.view, he.nl, h40]
  refine wp_loop (fun n t => ∃ i : Nat, n = R.length - i ∧ i ≤ R.length ∧ t.get 3 = .str (srcR (R.take i)) ∧ t.get 4 = vv none true AV.str R ∧ t.get 5 = AV.int .i64 (i : Nat) ∧ t.mem = [] ∧ (srcR (R.take i)).length ≤ 60000001 * i) ?_ R.length _ ?_
  rotate_left
  · exact ⟨0, by simp [srcR]⟩
  rintro n t ⟨i, hn, hi, e3, e4, e5, em, hb⟩
  by_cases hlt : i < R.length
  rotate_left
  · have hli : ¬ (i : Int) < R.length := by omega
    have hie : i = R.length := by omega
    rw [hie, List.take_length] at e3
    simp [e3, e4, e5, em, hli]
  have hli : (i : Int) < R.length := by omega
  have w1 : W64 ((i : Int) + 1) ((i + 1 : Nat) : Int) := .mkI rfl (by omega) (by omega)
  have htk := srcR_take hlt
  have hm := hsh (gi R (i : Int)) (by rw [gi_nat hlt]; exact List.getElem_mem _)
  obtain ⟨r, hr⟩ : ∃ r, gi R (i : Int) = r := ⟨_, rfl⟩
  rw [hr] at htk hm
  have hb2 : (srcR (R.take (i + 1))).length ≤ 60000001 * (i + 1) := by rw [htk]; simp; omega
  simp [e3, e4, e5, em, hli, hr, w1.eq, ← htk, -Int.natCast_add]
  exact ⟨by omega, by omega, R.length - (i + 1), by omega, i + 1, rfl, by omega, rfl, rfl, hb2⟩
theorem srcR_len' (R : List (List UInt8)) : ∀ (i : Nat), (srcR (R.take i)).length ≤ (srcR R).length := by
  intro i
  have : srcR R = srcR (R.take i) ++ srcR (R.drop i) := by
    conv => lhs; rw [← List.take_append_drop i R]
    simp only [srcR, List.flatMap_append]
  rw [this]; simp
theorem q13 (K : List Ln) (v : AV) (hs : szL K ≤ 250000) (hall : allL tkOK K = true) (hK : TV [] 0 0 K v) : callL T11 13 [v] [] = some (AV.int .i64 (codeP K), []) := by
  have h39 := q39 K v hs hall hK
  obtain ⟨⟨es, he, -⟩⟩ := hK.at
  apply callL_body (vf := c13) rfl rfl
  by_cases hc : codeF K = 0
  rotate_left
  · have hcp : codeP K = codeF K := by unfold codeP; rw [if_neg hc]
    simp [c13, he.view, he.nl, h39, hc, hcp]
  obtain ⟨f1, f2, f3⟩ := code0 hc
  rw [hc] at h39
  have h40 := q40 (szL K + 1) K v 0 (Nat.lt_succ_self _) (by omega) (by omega) (form_vT K f1) hK
  have hsh := rows_short (szL K + 1) K 0 (Nat.lt_succ_self _) (by omega) (by omega) (form_vT K f1)
  have hrl := rowsL_len 0 K
  have hcK := (mea_sz K).1
  rw [show (((0 : Nat) : Int)) = 0 from rfl] at h40
  have hcp : codeP K = if longR (rowsL 0 K) || decide (65536 < (srcF K).length) then 7 else 0 := by unfold codeP; rw [if_pos hc]
  obtain ⟨R, hR⟩ : ∃ R, rowsL 0 K = R := ⟨_, rfl⟩
  have hsrc : srcF K = srcR R := by rw [srcF, hR]
  rw [hR] at h40 hsh hrl hcp
  rw [hsrc] at hcp
  simp [c13, he.view, he.nl, h39, h40]
  refine wp_loop (fun n t => ∃ i : Nat, n = R.length - i ∧ i ≤ R.length ∧ t.get 4 = AV.int .i64 ((srcR (R.take i)).length : Nat) ∧ t.get 5 = vv none true AV.str R ∧ t.get 6 = AV.int .i64 (i : Nat) ∧ t.mem = [] ∧ (srcR (R.take i)).length ≤ 65536 ∧ longR (R.take i) = false) ?_ R.length _ ?_
  rotate_left
  · exact ⟨0, by simp [srcR, longR]⟩
  rintro n t ⟨i, hn, hi, e4, e5, e6, em, hb, hL⟩
  by_cases hlt : i < R.length
  rotate_left
  · have hli : ¬ (i : Int) < R.length := by omega
    have hie : i = R.length := by omega
    rw [hie, List.take_length] at hb hL
    have hc0 : codeP K = 0 := by rw [hcp, hL]; simp; omega
    simp [e4, e5, e6, em, hli, hc0]
  have hli : (i : Int) < R.length := by omega
  have w1 : W64 ((i : Int) + 1) ((i + 1 : Nat) : Int) := .mkI rfl (by omega) (by omega)
  have htk := srcR_take hlt
  have hlk := longR_take hlt
  have hpl := srcR_len' R (i + 1)
  have hm := hsh (gi R (i : Int)) (by rw [gi_nat hlt]; exact List.getElem_mem _)
  have hsp : R = R.take i ++ gi R (i : Int) :: R.drop (i + 1) := by rw [gi_nat hlt]; simp
  obtain ⟨r, hr⟩ : ∃ r, gi R (i : Int) = r := ⟨_, rfl⟩
  rw [hr] at htk hlk hm hsp
  have hlen : (srcR (R.take (i + 1))).length = (srcR (R.take i)).length + r.length + 1 := by rw [htk]; simp; omega
  obtain ⟨L, hL2⟩ : ∃ L, (srcR (R.take i)).length = L := ⟨_, rfl⟩
  rw [hL2] at hlen hb e4
  have w2 : W64 ((L : Int) + r.length) ((L + r.length : Nat) : Int) := .mkI (by omega) (by omega) (by omega)
  have w3 : W64 (((L + r.length : Nat) : Int) + 1) ((L + r.length + 1 : Nat) : Int) := .mkI rfl (by omega) (by omega)
  by_cases hbig : 1000 < r.length
  · have hbi : (1000 : Int) < r.length := by omega
    have hlg : longR R = true := by rw [hsp, longR_app]; simp [longR, hbig]
    have hc7 : codeP K = 7 := by rw [hcp]; simp [hlg]
    simp [e4, e5, e6, em, hli, hr, hbi, w2.eq, w3.eq, hc7, -Int.natCast_add]
  have hbi : ¬ (1000 : Int) < r.length := by omega
  by_cases hb2 : 65536 < L + r.length + 1
  · have hb2i : (65536 : Int) < ((L + r.length + 1 : Nat) : Int) := by omega
    have hc7 : codeP K = 7 := by rw [hcp]; rw [if_pos]; simp; omega
    simp [e4, e5, e6, em, hli, hr, hbi, w2.eq, w3.eq, hb2i, hc7, -Int.natCast_add]
  · have hb2i : ¬ (65536 : Int) < ((L + r.length + 1 : Nat) : Int) := by omega
    simp [e4, e5, e6, em, hli, hr, hbi, w1.eq, w2.eq, w3.eq, hb2i, -Int.natCast_add]
    refine ⟨R.length - (i + 1), by omega, i + 1, rfl, by omega, by rw [hlen], rfl, by rw [hlen]; omega, ?_⟩
    rw [hlk, hL]; simp; omega
end Go.Vm.Ch11
