/- Every order that the model may draw comes to what the text's order comes to. -/
import Derived.Test.YtdodnhbegabbpaaV26
namespace Go.Vm

def maskOf (acc : List Nat) (es : List Edge) : Nat := es.foldl (fun s e => if Region.binds .any e then s ||| (2 ^ e.on ||| acc.getD e.on 0) else s) 0

def masksOf : List Oper → List Nat → List Nat
  | [], acc => acc
  | o :: rest, acc => masksOf rest (acc ++ [maskOf acc o.after.toList])

def edgesOk : Nat → List Oper → Bool
  | _, [] => true
  | i, o :: rest => (o.after.toList.all fun e => !Region.binds .any e || decide (e.on < i)) && edgesOk (i + 1) rest

def pairOk (ms : List Nat) (is : List VI) (i j : Nat) : Bool :=
  (ms.getD i 0).testBit j || match is[j]?, is[i]? with
    | some x, some y => okPair x y
    | _, _ => false

/-- May the operations of a region that draws be taken in the text's order? -/
def drawOk (ops : Array Oper) (is : List VI) : Bool :=
  edgesOk 0 ops.toList && (List.range is.length).all fun i => (List.range i).all fun j => pairOk (masksOf ops.toList []) is i j

theorem maskOf_bit {acc : List Nat} {j : Nat} : ∀ (es : List Edge) (s : Nat), (es.foldl (fun s e => if Region.binds .any e then s ||| (2 ^ e.on ||| acc.getD e.on 0) else s) s).testBit j = true →
    s.testBit j = true ∨ ∃ e ∈ es, Region.binds .any e = true ∧ (e.on = j ∨ (acc.getD e.on 0).testBit j = true)
  | [], s, h => .inl h
  | e :: es, s, h => by
    simp only [List.foldl_cons] at h
    rcases maskOf_bit es _ h with h | ⟨e', he', hb, hh⟩
    · split at h
      · rename_i hb
        rw [Nat.testBit_or, Nat.testBit_or, Nat.testBit_two_pow] at h
        simp only [Bool.or_eq_true, decide_eq_true_eq] at h
        rcases h with h | h | h
        · exact .inl h
        · exact .inr ⟨e, by simp, hb, .inl h⟩
        · exact .inr ⟨e, by simp, hb, .inr h⟩
      · exact .inl h
    · exact .inr ⟨e', by simp [he'], hb, hh⟩

theorem masksOf_acc : ∀ (os : List Oper) (acc : List Nat), ∃ tl, masksOf os acc = acc ++ tl
  | [], acc => ⟨[], by simp [masksOf]⟩
  | o :: os, acc => by
    obtain ⟨tl, h⟩ := masksOf_acc os (acc ++ [maskOf acc o.after.toList])
    exact ⟨maskOf acc o.after.toList :: tl, by simp [masksOf, h]⟩

theorem masksOf_get : ∀ (os : List Oper) (acc : List Nat) (k : Nat) (o : Oper), os[k]? = some o → (masksOf os acc)[acc.length + k]? = some (maskOf ((masksOf os acc).take (acc.length + k)) o.after.toList)
  | [], acc, k, o, h => by simp at h
  | o' :: os, acc, 0, o, h => by
    simp at h; subst h
    obtain ⟨tl, e⟩ := masksOf_acc os (acc ++ [maskOf acc o'.after.toList])
    simp only [masksOf, e, Nat.add_zero]
    simp
  | o' :: os, acc, k + 1, o, h => by
    have := masksOf_get os (acc ++ [maskOf acc o'.after.toList]) k o (by simpa using h)
    simp only [List.length_append, List.length_cons, List.length_nil] at this
    simp only [masksOf]
    rw [show acc.length + (k + 1) = acc.length + (0 + 1) + k by omega]
    exact this

theorem masks_bit {ops : Array Oper} {i j : Nat} {o : Oper} (ho : ops[i]? = some o) (h : ((masksOf ops.toList []).getD i 0).testBit j = true) :
    ∃ e ∈ o.after, Region.binds .any e = true ∧ (e.on = j ∨ (e.on < i ∧ ((masksOf ops.toList []).getD e.on 0).testBit j = true)) := by
  have hg := masksOf_get ops.toList [] i o (by simpa using ho)
  simp only [List.length_nil, Nat.zero_add] at hg
  rw [List.getD, hg] at h
  simp only [Option.getD_some] at h
  rcases maskOf_bit o.after.toList 0 h with h | ⟨e, he, hb, hh⟩
  · simp at h
  · refine ⟨e, by simpa using he, hb, ?_⟩
    rcases hh with hh | hh
    · exact .inl hh
    · by_cases hlt : e.on < i
      · refine .inr ⟨hlt, ?_⟩
        simp only [List.getD, List.getElem?_take, if_pos hlt] at hh
        exact hh
      · simp only [List.getD, List.getElem?_take, if_neg hlt, Option.getD_none] at hh
        simp at hh

theorem edges_lt : ∀ (os : List Oper) (n : Nat), edgesOk n os = true → ∀ (k : Nat) (o : Oper), os[k]? = some o → ∀ e ∈ o.after, Region.binds .any e = true → e.on < n + k
  | [], n, _, k, o, ho => by simp at ho
  | o' :: os, n, h, 0, o, ho => by
    simp at ho; subst ho
    simp only [edgesOk, Bool.and_eq_true, List.all_eq_true] at h
    intro e he hb
    have := h.1 e (by simpa using he)
    rw [hb] at this
    simpa using this
  | o' :: os, n, h, k + 1, o, ho => by
    simp only [edgesOk, Bool.and_eq_true] at h
    intro e he hb
    have := edges_lt os (n + 1) h.2 k o (by simpa using ho) e he hb
    omega

section
variable {P : Program} {C : CallF} {G0 : Gh} {w0 : World} {n : Nat} {Q : Exit → Act → World → Prop}

/-- What has been listed has all that it hangs on. -/
def Closed (ops : Array Oper) (listed : Array Bool) : Prop := ∀ i o, listed.getD i false = true → ops[i]? = some o → ∀ e ∈ o.after, Region.binds .any e = true → listed.getD e.on false = true

theorem closed_masks {ops : Array Oper} {listed : Array Bool} (hc : Closed ops listed) : ∀ (i j : Nat) (o : Oper), ops[i]? = some o → listed.getD i false = true → ((masksOf ops.toList []).getD i 0).testBit j = true → listed.getD j false = true := by
  intro i
  induction i using Nat.strongRecOn with
  | _ i ih =>
    intro j o ho hl hb
    obtain ⟨e, he, hbd, hh⟩ := masks_bit ho hb
    have hle := hc i o hl ho e he hbd
    rcases hh with rfl | ⟨hlt, hh⟩
    · exact hle
    · have hsz : i < ops.size := (Array.getElem?_eq_some_iff.1 ho).1
      obtain ⟨o2, ho2⟩ : ∃ o2, ops[e.on]? = some o2 := ⟨ops[e.on]'(by omega), by simp⟩
      exact ih e.on hlt j o2 ho2 hle hh

def rem (n : Nat) (listed : Array Bool) : List Nat := (List.range n).filter fun i => !listed.getD i true

theorem rem_split {n : Nat} {listed : Array Bool} {i : Nat} (hi : i ∈ rem n listed) (hsz : listed.size = n) : ∃ l1 l2, rem n listed = l1 ++ i :: l2 ∧ rem n (listed.setIfInBounds i true) = l1 ++ l2 ∧ ∀ j ∈ l1, j < i ∧ listed.getD j true = false := by
  have hin : i < n ∧ listed.getD i true = false := by
    simp only [rem, List.mem_filter, List.mem_range, Bool.not_eq_true'] at hi
    exact hi
  have hr : List.range n = List.range i ++ i :: (List.range (n - i - 1)).map (· + (i + 1)) := by
    apply List.ext_getElem?
    intro k
    by_cases h1 : k < i
    · rw [List.getElem?_append_left (by simpa using h1)]
      simp [h1, show k < n by omega]
    · rw [List.getElem?_append_right (by simp; omega), List.length_range]
      by_cases h2 : k = i
      · subst h2; simp [hin.1]
      · obtain ⟨m, hm⟩ : ∃ m, k - i = m + 1 := ⟨k - i - 1, by omega⟩
        rw [hm, List.getElem?_cons_succ]
        by_cases h3 : k < n
        · simp [h3, show m < n - i - 1 by omega]; omega
        · rw [List.getElem?_eq_none (by simp; omega), List.getElem?_eq_none (by simp; omega)]
  refine ⟨(List.range i).filter fun j => !listed.getD j true, ((List.range (n - i - 1)).map (· + (i + 1))).filter fun j => !listed.getD j true, ?_, ?_, ?_⟩
  · unfold rem
    rw [hr, List.filter_append, List.filter_cons, if_pos (by simp [hin.2])]
  · unfold rem
    rw [hr, List.filter_append, List.filter_cons, if_neg (by simp [Array.getD_eq_getD_getElem?, hsz, hin.1])]
    congr 1
    · apply List.filter_congr
      intro j hj
      rw [List.mem_range] at hj
      simp only [Array.getD_eq_getD_getElem?]
      rw [Array.getElem?_setIfInBounds_ne (by omega)]
    · apply List.filter_congr
      intro j hj
      obtain ⟨m, _, rfl⟩ := List.mem_map.1 hj
      simp only [Array.getD_eq_getD_getElem?]
      rw [Array.getElem?_setIfInBounds_ne (by omega)]
  · intro j hj
    simp only [List.mem_filter, List.mem_range, Bool.not_eq_true'] at hj
    exact hj

theorem draw_any (hC : CallOK P C) (hF : FrameOK C) {heap takes eff : Nat → Bool} {ops : Array Oper} {is : List VI} (ht : trIs P heap takes eff n ops ops.toList = some is) (hok : drawOk ops is = true) {s' : St}
    (hQ : ∀ a' w', StOK G0 w0 n s' a' w' → Q .normal a' w') : ∀ (fuel : Nat) (listed : Array Bool) (s : St) (a : Act) (w : World), Closed ops listed → listed.size = ops.size → (rem ops.size listed).length ≤ fuel →
    runOps C ((rem ops.size listed).filterMap (is[·]?)) s = some s' → StOK G0 w0 n s a w → wpAny P .any ops Q fuel listed a w := by
  obtain ⟨hlen, hget⟩ := trIs_get ht
  have hlen' : is.length = ops.size := by rw [hlen]; simp
  simp only [drawOk, Bool.and_eq_true, List.all_eq_true] at hok
  obtain ⟨hed, hpairs⟩ := hok
  have hlt : ∀ i o, ops[i]? = some o → ∀ e ∈ o.after, Region.binds .any e = true → e.on < i := fun i o ho e he hb => by
    have := edges_lt ops.toList 0 hed i o (by simpa using ho) e he hb
    omega
  -- nothing is ready only if nothing is left
  have hnil : ∀ (listed : Array Bool), listed.size = ops.size → Region.ready .any ops listed = [] → rem ops.size listed = [] := by
    intro listed hsz hr
    refine List.eq_nil_iff_forall_not_mem.2 fun i => ?_
    induction i using Nat.strongRecOn with
    | _ i ih =>
      intro hi
      have hin : i < ops.size ∧ listed.getD i true = false := by
        simp only [rem, List.mem_filter, List.mem_range, Bool.not_eq_true'] at hi
        exact hi
      have : i ∈ Region.ready .any ops listed := by
        simp only [Region.ready, List.mem_filter, List.mem_range, Bool.and_eq_true, Bool.not_eq_true']
        refine ⟨hin.1, hin.2, ?_⟩
        have ho : ops[i]? = some ops[i] := by simp [hin.1]
        rw [ho]
        simp only [Option.map_some, Option.getD_some, Array.all_eq_true_iff_forall_mem, Bool.or_eq_true, Bool.not_eq_true']
        intro e he
        by_cases hb : Region.binds .any e = true
        · right
          have hl := hlt i _ ho e he hb
          have hn := ih e.on hl
          simp only [rem, List.mem_filter, List.mem_range, Bool.not_eq_true', not_and, Bool.not_eq_false] at hn
          have h2 := hn (by omega)
          simp only [Array.getD_eq_getD_getElem?] at h2 ⊢
          rw [Array.getElem?_eq_getElem (by omega)] at h2 ⊢
          exact h2
        · left; simpa using hb
      rw [hr] at this
      simp at this
  intro fuel
  induction fuel with
  | zero =>
    intro listed s a w hc hsz hle hrun hI
    have hrem : rem ops.size listed = [] := List.length_eq_zero_iff.1 (by omega)
    refine ⟨?_, ?_⟩
    · refine List.eq_nil_iff_forall_not_mem.2 fun i hi => ?_
      have : i ∈ rem ops.size listed := by
        simp only [Region.ready, List.mem_filter, Bool.and_eq_true] at hi
        simp only [rem, List.mem_filter]
        exact ⟨hi.1, hi.2.1⟩
      rw [hrem] at this
      simp at this
    · rw [hrem] at hrun
      simp [runOps] at hrun
      subst hrun
      exact hQ a w hI
  | succ fuel ih =>
    intro listed s a w hc hsz hle hrun hI
    refine ⟨fun hr => ?_, fun i hi => ?_⟩
    · rw [hnil listed hsz hr] at hrun
      simp [runOps] at hrun
      subst hrun
      exact hQ a w hI
    · have hi' := hi
      simp only [Region.ready, List.mem_filter, List.mem_range, Bool.and_eq_true, Bool.not_eq_true'] at hi'
      obtain ⟨hin, hil, hafter⟩ := hi'
      have ho : ops[i]? = some ops[i] := by simp [hin]
      rw [ho] at hafter
      simp only [Option.map_some, Option.getD_some, Array.all_eq_true_iff_forall_mem, Bool.or_eq_true, Bool.not_eq_true'] at hafter
      have hedge : ∀ e ∈ ops[i].after, Region.binds .any e = true → listed.getD e.on false = true := fun e he hb => by
        rcases hafter e he with h | h
        · rw [hb] at h; simp at h
        · exact h
      have hirem : i ∈ rem ops.size listed := by
        simp only [rem, List.mem_filter, List.mem_range, Bool.not_eq_true']
        exact ⟨hin, hil⟩
      obtain ⟨l1, l2, e1, e2, e3⟩ := rem_split hirem hsz
      have hii : is[i]? = some (is[i]'(by omega)) := List.getElem?_eq_getElem _
      have hb : ∀ j ∈ l1.filterMap (is[·]?), okPair j (is[i]'(by omega)) = true := by
        intro x hx
        obtain ⟨j, hj, hjx⟩ := List.mem_filterMap.1 hx
        obtain ⟨hji, hjl⟩ := e3 j hj
        have hp := hpairs i (List.mem_range.2 (by omega)) j (List.mem_range.2 hji)
        simp only [pairOk, Bool.or_eq_true] at hp
        rcases hp with hp | hp
        · exfalso
          obtain ⟨e, he, hbd, hh⟩ := masks_bit ho hp
          have hle := hedge e he hbd
          have hjf : listed.getD j false = false := by
            simp only [Array.getD_eq_getD_getElem?] at hjl ⊢
            rw [Array.getElem?_eq_getElem (by omega)] at hjl ⊢
            exact hjl
          rcases hh with rfl | ⟨hlt', hh⟩
          · rw [hle] at hjf; simp at hjf
          · have := closed_masks hc e.on j ops[e.on] (by simp [show e.on < ops.size by omega]) hle hh
            rw [this] at hjf; simp at hjf
        · rw [hjx, hii] at hp
          exact hp
      rw [e1, List.filterMap_append, List.filterMap_cons, hii] at hrun
      have hbub := bubble (i := is[i]'(by omega)) _ _ s s' hb hrun
      rw [runOps_cons] at hbub
      split at hbub
      · rename_i s1 h1
        have htr := hget i ops[i] (is[i]'(by omega)) (by simp [hin]) hii
        refine one_sound hC hF hI ho htr h1 fun a' w' hI' => ih _ s1 a' w' ?_ (by simpa using hsz) ?_ ?_ hI'
        · intro k o hk hok e he hbd
          by_cases hki : k = i
          · subst hki
            rw [ho] at hok
            simp only [Option.some.injEq] at hok
            subst hok
            have := hedge e he hbd
            simp only [Array.getD_eq_getD_getElem?] at this ⊢
            by_cases hek : k = e.on
            · rw [hek]
              rw [Array.getElem?_setIfInBounds_self_of_lt (by omega)]
              rfl
            · rw [Array.getElem?_setIfInBounds_ne hek]; exact this
          · have hk' : listed.getD k false = true := by
              simp only [Array.getD_eq_getD_getElem?] at hk ⊢
              rwa [Array.getElem?_setIfInBounds_ne (Ne.symm hki)] at hk
            have := hc k o hk' hok e he hbd
            simp only [Array.getD_eq_getD_getElem?] at this ⊢
            by_cases hek : i = e.on
            · rw [← hek, Array.getElem?_setIfInBounds_self_of_lt (by omega)]
              rfl
            · rw [Array.getElem?_setIfInBounds_ne hek]; exact this
        · rw [e2]
          rw [e1] at hle
          simp only [List.length_append, List.length_cons] at hle ⊢
          omega
        · rw [e2, List.filterMap_append]; exact hbub
      · simp at hbub

theorem draw_ok (hm : P.follows .mixedOrders = true) (hC : CallOK P C) (hF : FrameOK C) (n : Nat) (heap takes eff : Nat → Bool) : DrawOK P C n heap takes eff drawOk := by
  intro ops is id G0 w0 s s' a w Q ht hok hrun hI hQ
  have hlen : is.length = ops.size := by rw [(trIs_get ht).1]; simp
  refine wp_region_any hm (draw_any hC hF ht hok hQ ops.size _ s a _ ?_ (by simp) ?_ ?_ ?_)
  · intro i o hi
    simp only [Array.getD_eq_getD_getElem?, Array.getElem?_replicate] at hi
    split at hi <;> simp at hi
  · unfold rem
    refine Nat.le_trans (List.length_filter_le _ _) (by simp)
  · have : rem ops.size (Array.replicate ops.size false) = List.range ops.size := by
      unfold rem
      refine List.filter_eq_self.2 fun i hi => ?_
      rw [List.mem_range] at hi
      simp [Array.getD_eq_getD_getElem?, hi]
    rw [this, ← hlen, filterMap_range]
    exact hrun
  · obtain ⟨h0, h1, G, hinv⟩ := hI
    refine ⟨h0, h1, G, hinv.grow ⟨rfl, rfl, rfl, Nat.le_refl _, fun b _ => ⟨rfl, rfl⟩, rfl, rfl⟩⟩

end
end Go.Vm
