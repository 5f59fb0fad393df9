/- Writing: stores, what a closure takes along. -/
import Derived.Test.YtdodnhbegabbpaaV12
namespace Go.Vm

section
variable {P : Program} {ρ : Operand → Value} {G0 : Gh} {w0 : World} {G : Gh} {w : World} {s : St} {tv : Nat → Value} {d : Nat} {o : Oper}

theorem takeT_obj (s : St) (t : Nat) (x : Ix) : (s.takeT t).2.obj x = s.obj x := by
  unfold St.takeT
  split
  · exact obj_set s _ _ x
  · rfl
theorem takeO_obj (s : St) (y : VO) (x : Ix) : (s.takeO y).2.obj x = s.obj x := by
  cases y with
  | t n => exact takeT_obj s n x
  | k v => rfl

theorem oneCell_of {a : AV} {v : Value} (h : Rep G w a v) (ho : a.one = true) : v.oneCell' = true := by
  cases h <;> first | rfl | (simp [AV.one] at ho)

theorem one_good {a : AV} (h : a.one = true) : a.good = true := by
  cases a <;> simp_all [AV.one, AV.good, AV.nl]

theorem one_cells {a : AV} (h : a.cells.all AV.one = true) : a.good = true := by
  cases a <;> first
    | rfl
    | (simp only [AV.cells, List.all_cons, List.all_nil, Bool.and_true] at h; exact one_good h)

theorem objAt_inv {x : Ix} {b : Nat} {cs : List AV} (h : ObjAt G w x b (.cells false cs)) : G.role b = (.obj x, some 0) ∧ ∃ arr T, w.heap[b]? = some (.cells arr T (0, 0)) ∧ cs.length ≤ arr.size ∧
    ∀ (j : Nat) (h1 : j < cs.length) (h2 : j < arr.size), Rep G w cs[j] arr[j] ∧ OwnAt G w (.cell x j) cs[j] arr[j] := h

/-- A written object's cells. -/
theorem objAt_put {x : Ix} {b off : Nat} {cs new : List AV} {arr : Array Value} {news : List Value} {T : TypeId} {w' : World} {old : Obj}
    (hr : G.role b = (.obj x, some 0)) (hl : cs.length ≤ arr.size) (h : ∀ (j : Nat) (h1 : j < cs.length) (h2 : j < arr.size), Rep G w cs[j] arr[j] ∧ OwnAt G w (.cell x j) cs[j] arr[j])
    (hw : Wrote b (.cells (arr.toList.take off ++ news ++ arr.toList.drop (off + news.length)).toArray T (0, 0)) w w') (hnl : new.length = news.length) (hfit : off + new.length ≤ cs.length)
    (hnew : ∀ (j : Nat) (h1 : j < new.length) (h2 : j < news.length), Rep G w new[j] news[j] ∧ OwnAt G w (.cell x (off + j)) new[j] news[j]) (_ho : w.heap[b]? = some old) :
    ObjAt G w' x b (.cells false (putCells cs off new)) := by
  have hle : Le G w G w' := hw.le (not_stable_obj hr)
  have hkeep : ∀ {j a v}, OwnAt G w (.cell x j) a v → OwnAt G w' (.cell x j) a v := by
    intro j a v ho
    refine ho.keep (by rw [hw.size]; exact Nat.le_refl _) fun b' c => ⟨rfl, fun k h1 h2 => ?_⟩
    have hne : b' ≠ b := by
      rintro rfl
      have := ho.role c
      rw [hr] at this
      simp at this
    exact ⟨by rw [cell?_of_heap (hw.ne b' hne)]; exact h1, by rw [frozen?_of_heap (hw.ne b' hne)]; exact h2⟩
  refine ⟨hr, _, T, hw.at_, by simp [putCells_length hfit]; omega, fun j j1 j2 => ?_⟩
  rw [putCells_length hfit] at j1
  have g1 : (putCells cs off new)[j]? = _ := putCells_get hfit j
  have g2 : (arr.toList.take off ++ news ++ arr.toList.drop (off + news.length))[j]? = if off ≤ j ∧ j < off + news.length then news[j - off]? else arr.toList[j]? := by
    by_cases h1 : j < off
    · rw [if_neg (by omega), List.append_assoc, List.getElem?_append_left (by simp; omega), List.getElem?_take, if_pos h1]
    · by_cases h2 : j < off + news.length
      · rw [if_pos (by omega), List.append_assoc, List.getElem?_append_right (by simp; omega), List.getElem?_append_left (by simp; omega)]
        simp only [List.length_take, Array.length_toList]
        congr 1
        omega
      · rw [if_neg (by omega), List.getElem?_append_right (by simp; omega), List.getElem?_drop]
        congr 1
        simp
        omega
  by_cases hj : off ≤ j ∧ j < off + new.length
  · rw [if_pos hj] at g1
    rw [if_pos (by omega)] at g2
    have k1 : j - off < new.length := by omega
    have k2 : j - off < news.length := by omega
    rw [List.getElem?_eq_getElem k1] at g1
    rw [List.getElem?_eq_getElem k2] at g2
    obtain ⟨_, e1⟩ := List.getElem?_eq_some_iff.1 g1
    obtain ⟨_, e2⟩ := List.getElem?_eq_some_iff.1 g2
    have hh := hnew (j - off) k1 k2
    rw [show off + (j - off) = j by omega] at hh
    simp only [List.getElem_toArray]
    rw [e1, e2]
    exact ⟨hh.1.mono hle, hkeep hh.2⟩
  · rw [if_neg hj] at g1
    rw [if_neg (by omega)] at g2
    have k2 : j < arr.size := by omega
    rw [List.getElem?_eq_getElem j1] at g1
    have g3 : arr.toList[j]? = some arr.toList[j] := List.getElem?_eq_getElem (by simpa using k2)
    rw [g3] at g2
    obtain ⟨_, e1⟩ := List.getElem?_eq_some_iff.1 g1
    obtain ⟨_, e2⟩ := List.getElem?_eq_some_iff.1 g2
    have hh := h j j1 k2
    simp only [List.getElem_toArray]
    rw [e1, e2]
    simp only [Array.getElem_toList]
    exact ⟨hh.1.mono hle, hkeep hh.2⟩

theorem setRow_wrote (w : World) {b : Nat} {old cs : Array Value} {T : TypeId} (h : w.heap[b]? = some (.cells old T (0, 0))) : Wrote b (.cells cs T (0, 0)) w (w.setRow b cs) :=
  ⟨rfl, rfl, rfl, setRow_size _ _ _, setRow_heap w b old cs T _ h, fun b' hb' => setRow_other w b b' cs hb'⟩

theorem putCells_one (cs : List AV) (off : Nat) (a : AV) (h : off < cs.length) : putCells cs off [a] = cs.set off a := by
  apply List.ext_getElem?
  intro k
  rw [putCells_get (by simp; omega)]
  by_cases hk : k = off
  · subst hk; simp [h]
  · rw [List.getElem?_set_ne (by omega), if_neg (by simp; omega)]

theorem cells_single {a : AV} {v : Value} (h : Rep G w a v) (hn : ∀ vs, a = .agg vs → False) (hu : a ≠ .undef) : v.cells = #[v] := by
  cases h <;> first | rfl | (exact absurd rfl hu) | (exact (hn _ rfl).elim)

theorem does_store {t : TypeId} {x y : Operand} {x' y' : VO} {sz : Nat} {a : AV} {s' : St} (hI : Inv G0 w0 G w s tv) (ho : o.op = .store t x y) (hxx : trO x = some x') (hyy : trO y = some y') (hsz : szOf P t = some sz)
    (hT : ∀ t, ρ (.tmp t) = tv t) (he : OkEv G w s.ev ρ) (hx : exec d (.store sz x' y') s = some (a, s')) : Does P ρ o G0 w0 w tv d a s' := by
  have hrx := he _ _ hxx
  simp only [exec] at hx
  split at hx
  · rename_i ix off hv
    rw [hv] at hrx
    obtain ⟨b, hb, e1⟩ := hrx.ptr_inv
    split at hx
    · rename_i cs hcs
      split at hx
      · rename_i hc
        obtain ⟨hc1, hc2, hc3⟩ := hc
        unfold objCells at hcs
        split at hcs
        · rename_i fz cs' hobj
          simp at hcs
          obtain ⟨rfl, rfl⟩ := hcs
          obtain ⟨G1, i1, r1, o1, m1, m2, l1⟩ := hI.takeO hyy hT he
          have hgood := good_inv (one_cells hc3)
          have hrep := r1.nl hgood.1
          have hobj1 : (s.takeO y').2.obj ix = some (.cells false cs') := by rw [takeO_obj]; exact hobj
          have hb1 : G1.at ix = some b := by rw [Gh.at_eq m1 m2]; exact hb
          have hcl := RepL.cells hrep hgood.2
          have hvs : (ρ y).cells.size = sz := by have := hcl.1; simp at this; omega
          have hsr : (sizeOf t).run P w = .ok sz w := sizeOf_run hsz
          have hone : ∀ v ∈ (ρ y).cells.toList, v.oneCell' = true := by
            intro v hv
            obtain ⟨k, hk, rfl⟩ := List.getElem_of_mem hv
            have hk' : k < (s.takeO y').1.cells.length := by have := hcl.1; omega
            have := hcl.2 k _ _ (List.getElem?_eq_getElem hk') (List.getElem?_eq_getElem hk)
            exact oneCell_of this (List.all_eq_true.1 hc3 _ (List.getElem_mem hk'))
          -- where the value lands
          have main : ∀ (new : List AV), new.length = (ρ y).cells.toList.length →
              (∃ G2, Inv G0 w0 G2 w (s.takeO y').2 tv ∧ G2.at ix = some b ∧ ∀ (j : Nat) (h1 : j < new.length) (h2 : j < (ρ y).cells.toList.length), Rep G2 w new[j] (ρ y).cells.toList[j] ∧ OwnAt G2 w (.cell ix (off + j)) new[j] (ρ y).cells.toList[j]) →
              s' = (s.takeO y').2.setObj ix (.cells false (putCells cs' off new)) → a = .undef → Does P ρ o G0 w0 w tv d a s' := by
            rintro new hnl ⟨G2, i2, hb2, hnew⟩ rfl rfl
            obtain ⟨b', hb', hlt, hat⟩ := i2.obj _ _ hobj1
            rw [hb2] at hb'
            simp only [Option.some.injEq] at hb'
            subst hb'
            obtain ⟨hrole, arr, T, hh, hl, hcell⟩ := objAt_inv hat
            have hfit : off + new.length ≤ cs'.length := by rw [hnl]; simp [hvs]; omega
            have hrun := run_storeCells_at (P := P) b off T (ρ y).cells.toList 0 arr w hh (by simp [hvs]; omega) hone
            have hw := setRow_wrote w (cs := (arr.toList.take (off + 0) ++ (ρ y).cells.toList ++ arr.toList.drop (off + 0 + (ρ y).cells.toList.length)).toArray) hh
            simp only [Nat.add_zero] at hrun hw
            refine ⟨undef, _, G2, .inr ⟨?_, rfl⟩, i2.wrote hobj1 hb2 hrole hw (fun _ => objAt_put hrole hl hcell hw hnl hfit hnew hh), .of (.undef _), OwnAt.of_notOwn trivial⟩
            simp only [execOp, ho, Instr.storeAt, e1, Instr.sureAddr, Sem.run_bind, Sem.run_pure, Result.andThen_ok, storeVar, hsr]
            rw [if_neg (by simp [hvs])]
            rw [hrun]
            rfl
          split at hx
          · rename_i vs hvs'
            simp only [Option.some.injEq, Prod.mk.injEq] at hx
            obtain ⟨rfl, rfl⟩ := hx
            rw [hvs'] at hcl
            refine main (vs.map AV.view) (by simpa [AV.cells] using hcl.1) ⟨G1, i1, hb1, fun j j1 j2 => ?_⟩ rfl rfl
            simp only [List.getElem_map]
            simp only [List.length_map] at j1
            exact ⟨(hcl.2 j _ _ (List.getElem?_eq_getElem j1) (List.getElem?_eq_getElem j2)).view, OwnAt.view⟩
          · rename_i hna
            simp only [Option.some.injEq, Prod.mk.injEq] at hx
            obtain ⟨rfl, rfl⟩ := hx
            have hcells : (s.takeO y').1.cells = [(s.takeO y').1] := by
              generalize (s.takeO y').1 = q at hna ⊢
              cases q <;> first | rfl | (exact absurd rfl (hna _))
            have hvone : (ρ y).cells.toList.length = 1 := by rw [← hcl.1, hcells]; rfl
            have hv1 : (ρ y).cells = #[ρ y] := cells_single hrep hna hgood.2
            obtain ⟨G2, i2, r2, o2, m3, m4, l2, _⟩ := i1.land r1 o1 (.cell ix off)
            refine main [(s.takeO y').1] (by simp [hvone]) ⟨G2, i2, by rw [Gh.at_eq m3 m4]; exact hb1, fun j j1 j2 => ?_⟩ (by rw [putCells_one _ _ _ (by rw [hcells] at hc1; simp at hc1; omega)]) rfl
            have : j = 0 := by simp at j1; omega
            subst this
            simp only [hv1, List.getElem_cons_zero, Nat.add_zero]
            exact ⟨r2.nl hgood.1, o2⟩
        · simp at hcs
      · simp at hx
    · simp at hx
  · simp at hx

end
end Go.Vm
