/- Cells: the document's list of names with texts, plain. -/
import Derived.Test.YtaggkccjgnkloaaGreatCelA

set_option linter.unusedVariables false
set_option linter.unusedSimpArgs false
set_option maxRecDepth 100000
namespace Go.Sx
open Go.Proofs
abbrev PL := List (ByteArray × ByteArray)
def kbP (p : ByteArray × ByteArray) : List UInt8 := p.1.data.toList
def lkP : PL → ByteArray → Option ByteArray
  | [], _ => none
  | p :: P, s => if p.1 = s then some p.2 else lkP P s
def Rise (P : PL) : Prop := (P.map kbP).Pairwise (· < ·)
def prs (es : List (Value × Value)) : PL := (srtK es).map fun nm => (nm, tOf es nm)
theorem kb_inj {s t : ByteArray} (h : s.data.toList = t.data.toList) : s = t := ByteArray.ext (Array.toList_inj.1 h)
theorem lt_irr {a : List UInt8} : ¬ a < a := List.lt_irrefl a
theorem lt_of {a b : List UInt8} (h : a ≤ b) (hn : a ≠ b) : a < b := by
  rcases List.le_iff_lt_or_eq.1 h with h | h
  · exact h
  · exact absurd h hn
theorem prs_len {es : List (Value × Value)} : (prs es).length = es.length := by unfold prs; rw [List.length_map, srtK_len]
theorem prs_rise {es : List (Value × Value)} (h : (es.map keyB).Nodup) : Rise (prs es) := by
  unfold Rise prs
  rw [List.map_map]
  have h1 := srt_pw (es := es)
  have h2 := srt_nd h
  rw [List.pairwise_map] at h1 ⊢
  refine (h1.and h2).imp ?_
  rintro a b ⟨ha, hb⟩
  exact lt_of ha fun e => hb (kb_inj e)
theorem lkP_none0 {P : PL} {s : ByteArray} (h : ∀ p ∈ P, p.1 ≠ s) : lkP P s = none := by
  induction P with
  | nil => rfl
  | cons p P ih =>
    unfold lkP
    rw [if_neg (h p (List.mem_cons_self ..))]
    exact ih fun q hq => h q (List.mem_cons_of_mem _ hq)
theorem lkP_map {f : ByteArray → ByteArray} {s : ByteArray} : ∀ {l : List ByteArray}, lkP (l.map fun nm => (nm, f nm)) s = if s.data.toList ∈ l.map (fun s : ByteArray => s.data.toList) then some (f s) else none
  | [] => rfl
  | t :: l => by
    show (if t = s then some (f t) else lkP (l.map fun nm => (nm, f nm)) s) = _
    rw [lkP_map]
    by_cases c : t = s
    · subst c; rw [if_pos rfl, if_pos (by rw [List.map_cons]; exact List.mem_cons_self ..)]
    · rw [if_neg c]
      have : (s.data.toList ∈ (t :: l).map (fun s : ByteArray => s.data.toList)) = (s.data.toList ∈ l.map (fun s : ByteArray => s.data.toList)) := by
        rw [List.map_cons, List.mem_cons]; exact propext ⟨fun h => h.resolve_left fun e => c (kb_inj e).symm, .inr⟩
      simp only [this]
theorem lk_prs {es : List (Value × Value)} {s : ByteArray} : lkP (prs es) s = if s.data.toList ∈ es.map keyB then some (tOf es s) else none := by
  unfold prs
  rw [lkP_map, srtL]
  have : (s.data.toList ∈ (es.map keyB).mergeSort fun x y => decide (x ≤ y)) = (s.data.toList ∈ es.map keyB) := propext (List.mergeSort_perm _ _).mem_iff
  simp only [this]
theorem rise_ext : ∀ {P Q : PL}, Rise P → Rise Q → (∀ s, lkP P s = lkP Q s) → P = Q
  | [], [], _, _, _ => rfl
  | [], q :: Q, _, _, h => by
    have := h q.1
    unfold lkP at this; rw [if_pos rfl] at this; cases this
  | p :: P, [], _, _, h => by
    have := h p.1
    unfold lkP at this; rw [if_pos rfl] at this; cases this
  | p :: P, q :: Q, hP, hQ, h => by
    have hP1 := List.pairwise_cons.1 hP
    have hQ1 := List.pairwise_cons.1 hQ
    have nP : ∀ s, ¬ kbP p < s.data.toList → lkP P s = none := fun s hs => lkP_none0 fun r hr e => hs (by rw [← e]; exact hP1.1 _ (List.mem_map_of_mem hr))
    have nQ : ∀ s, ¬ kbP q < s.data.toList → lkP Q s = none := fun s hs => lkP_none0 fun r hr e => hs (by rw [← e]; exact hQ1.1 _ (List.mem_map_of_mem hr))
    have e1 : p.1 = q.1 := by
      refine Classical.byContradiction fun hn => ?_
      have hp := h p.1
      have hq := h q.1
      unfold lkP at hp hq
      rw [if_pos rfl, if_neg (fun e => hn e.symm)] at hp
      rw [if_neg hn, if_pos rfl] at hq
      by_cases c : kbP q < p.1.data.toList
      · rw [nP q.1 (fun c2 => lt_irr (List.lt_trans c2 c))] at hq
        cases hq
      · rw [nQ p.1 c] at hp
        cases hp
    have e2 : p.2 = q.2 := by
      have hp := h p.1
      unfold lkP at hp
      rw [if_pos rfl, if_pos e1.symm] at hp
      exact Option.some.inj hp
    have e3 : p = q := Prod.ext e1 e2
    subst e3
    congr 1
    refine rise_ext hP1.2 hQ1.2 fun s => ?_
    have hs := h s
    unfold lkP at hs
    by_cases c : p.1 = s
    · rw [nP s (by rw [← c]; exact lt_irr), nQ s (by rw [← c]; exact lt_irr)]
    · rw [if_neg c, if_neg c] at hs
      exact hs
def ltN (s t : ByteArray) : Bool := decide (s.data.toList < t.data.toList)
def putP : PL → ByteArray → ByteArray → PL
  | [], s, t => [(s, t)]
  | p :: P, s, t => if ltN p.1 s then p :: putP P s t else if p.1 = s then (s, t) :: P else (s, t) :: p :: P
def dropP (P : PL) (s : ByteArray) : PL := P.filter fun p => !decide (p.1 = s)
theorem lkP_put {s t u : ByteArray} : ∀ {P : PL}, lkP (putP P s t) u = if u = s then some t else lkP P u
  | [] => by
    show (if s = u then some t else none) = _
    by_cases c : u = s
    · rw [if_pos c, if_pos c.symm]
    · rw [if_neg c, if_neg (fun e => c e.symm)]; rfl
  | p :: P => by
    unfold putP
    split
    · rename_i h
      have hne : p.1 ≠ s := fun e => by
        rw [e] at h
        exact lt_irr (of_decide_eq_true h)
      show (if p.1 = u then some p.2 else lkP (putP P s t) u) = _
      rw [lkP_put]
      show _ = if u = s then some t else if p.1 = u then some p.2 else lkP P u
      by_cases c : p.1 = u
      · rw [if_pos c, if_neg (fun e => hne (by rw [c, e])), if_pos c]
      · rw [if_neg c, if_neg c]
    · split
      · rename_i h
        show (if s = u then some t else lkP P u) = if u = s then some t else if p.1 = u then some p.2 else lkP P u
        by_cases c : u = s
        · rw [if_pos c, if_pos c.symm]
        · rw [if_neg c, if_neg (fun e => c e.symm), if_neg (fun e => c (by rw [← e, h]))]
      · show (if s = u then some t else lkP (p :: P) u) = if u = s then some t else lkP (p :: P) u
        by_cases c : u = s
        · rw [if_pos c, if_pos c.symm]
        · rw [if_neg c, if_neg (fun e => c e.symm)]
theorem put_mem {s t : ByteArray} : ∀ {P : PL} {q}, q ∈ putP P s t → q.1 = s ∨ q ∈ P
  | [], q, h => .inl (by rw [List.mem_singleton.1 h])
  | p :: P, q, h => by
    unfold putP at h
    split at h
    · rcases List.mem_cons.1 h with h | h
      · exact .inr (by rw [h]; exact List.mem_cons_self ..)
      · exact (put_mem h).imp_right (List.mem_cons_of_mem _)
    · split at h
      · rcases List.mem_cons.1 h with h | h
        · exact .inl (by rw [h])
        · exact .inr (List.mem_cons_of_mem _ h)
      · rcases List.mem_cons.1 h with h | h
        · exact .inl (by rw [h])
        · exact .inr h
theorem put_rise {s t : ByteArray} : ∀ {P : PL}, Rise P → Rise (putP P s t)
  | [], _ => List.pairwise_singleton ..
  | p :: P, h => by
    have h1 := List.pairwise_cons.1 h
    unfold putP
    split
    · rename_i c
      refine List.pairwise_cons.2 ⟨fun k hk => ?_, put_rise h1.2⟩
      obtain ⟨q, hq, rfl⟩ := List.mem_map.1 hk
      rcases put_mem hq with e | e
      · show kbP p < q.1.data.toList
        rw [e]; exact of_decide_eq_true c
      · exact h1.1 _ (List.mem_map_of_mem e)
    · rename_i c
      have hle : ¬ p.1.data.toList < s.data.toList := fun e => c (decide_eq_true e)
      split
      · rename_i e
        refine List.pairwise_cons.2 ⟨fun k hk => ?_, h1.2⟩
        show s.data.toList < k
        rw [← e]; exact h1.1 k hk
      · rename_i e
        have hlt : s.data.toList < p.1.data.toList := lt_of (List.not_lt.1 hle) fun e2 => e (kb_inj e2.symm)
        refine List.pairwise_cons.2 ⟨fun k hk => ?_, h⟩
        show s.data.toList < k
        rcases List.mem_cons.1 hk with rfl | hk
        · exact hlt
        · exact List.lt_trans hlt (h1.1 k hk)
theorem lkP_drop {s u : ByteArray} : ∀ {P : PL}, lkP (dropP P s) u = if u = s then none else lkP P u
  | [] => by show none = _; split <;> rfl
  | p :: P => by
    show lkP (List.filter _ (p :: P)) u = if u = s then none else if p.1 = u then some p.2 else lkP P u
    by_cases c : p.1 = s
    · rw [List.filter_cons_of_neg (by simp [c])]
      show lkP (dropP P s) u = _
      rw [lkP_drop]
      by_cases d : u = s
      · rw [if_pos d, if_pos d]
      · rw [if_neg d, if_neg d, if_neg (fun e => d (by rw [← e, c]))]
    · rw [List.filter_cons_of_pos (by simp [c])]
      show (if p.1 = u then some p.2 else lkP (dropP P s) u) = _
      rw [lkP_drop]
      by_cases d : p.1 = u
      · rw [if_pos d, if_pos d, if_neg (fun e => c (by rw [d, e]))]
      · rw [if_neg d, if_neg d]
theorem drop_rise {P : PL} {s : ByteArray} (h : Rise P) : Rise (dropP P s) := List.Pairwise.sublist (List.filter_sublist.map _) h
theorem keyIsE {e : Value × Value} {s : ByteArray} : keyIs e.1 s = true ↔ e.1 = .string s := by
  unfold keyIs
  constructor
  · intro h
    split at h
    · rename_i t ht; rw [of_decide_eq_true h] at ht; exact ht
    · cases h
  · intro h
    rw [h]; exact decide_eq_true rfl
theorem lu_up {s u : ByteArray} {v : Value} : ∀ {es : List (Value × Value)}, luS (upS es s v) u = if u = s then some v else luS es u
  | [] => by
    show (if keyIs (.string s) u = true then some v else none) = _
    by_cases c : u = s
    · rw [if_pos c, if_pos (by rw [c]; exact (keyIsE (e := (.string s, v))).2 rfl)]
    · rw [if_neg c, if_neg (fun h => c (by have := (keyIsE (e := (.string s, v))).1 h; cases this; rfl))]; rfl
  | e :: es => by
    unfold upS
    by_cases c : keyIs e.1 s = true
    · rw [if_pos c]
      have he := keyIsE.1 c
      show (if keyIs (.string s) u = true then some v else luS es u) = if u = s then some v else if keyIs e.1 u = true then some e.2 else luS es u
      by_cases d : u = s
      · rw [if_pos d, if_pos (by rw [d]; exact (keyIsE (e := (.string s, v))).2 rfl)]
      · have h2 : ¬ keyIs (.string s) u = true := fun h => d (by have := (keyIsE (e := (.string s, v))).1 h; cases this; rfl)
        rw [if_neg d, if_neg h2, he, if_neg h2]
    · rw [if_neg c]
      show (if keyIs e.1 u = true then some e.2 else luS (upS es s v) u) = if u = s then some v else if keyIs e.1 u = true then some e.2 else luS es u
      rw [lu_up]
      by_cases d : u = s
      · subst d; rw [if_neg c, if_pos rfl, if_pos rfl]
      · rw [if_neg d, if_neg d]
theorem lu_no_key {es : List (Value × Value)} {s : ByteArray} (h : s.data.toList ∉ es.map keyB) : luS es s = none := by
  cases hl : luS es s with
  | none => rfl
  | some v => exact absurd (lu_key hl) h
theorem lu_dl {s u : ByteArray} : ∀ {es : List (Value × Value)}, (es.map keyB).Nodup → luS (dlS es s) u = if u = s then none else luS es u
  | [], _ => by show none = _; split <;> rfl
  | e :: es, h => by
    have hn := List.nodup_cons.1 h
    unfold dlS
    by_cases c : keyIs e.1 s = true
    · rw [if_pos c]
      have he := keyIsE.1 c
      have hk : keyB e = s.data.toList := by unfold keyB; rw [he]
      show _ = if u = s then none else if keyIs e.1 u = true then some e.2 else luS es u
      by_cases d : u = s
      · rw [if_pos d, d]
        exact lu_no_key (by rw [← hk]; exact hn.1)
      · rw [if_neg d, if_neg (fun h2 => d (by have := keyIsE.1 h2; rw [he] at this; cases this; rfl))]
    · rw [if_neg c]
      show (if keyIs e.1 u = true then some e.2 else luS (dlS es s) u) = if u = s then none else if keyIs e.1 u = true then some e.2 else luS es u
      rw [lu_dl hn.2]
      by_cases d : u = s
      · subst d; rw [if_neg c, if_pos rfl, if_pos rfl]
      · rw [if_neg d, if_neg d]
theorem key_iff {es : List (Value × Value)} (hk : keysS es = true) {s : ByteArray} : s.data.toList ∈ es.map keyB ↔ (luS es s).isSome = true := by
  constructor
  · intro h; obtain ⟨e, _, he⟩ := lu_some hk h; rw [he]; rfl
  · intro h
    cases hl : luS es s with
    | none => rw [hl] at h; cases h
    | some v => exact lu_key hl
theorem lk_prs' {es : List (Value × Value)} (hk : keysS es = true) {s : ByteArray} : lkP (prs es) s = (luS es s).map fun _ => tOf es s := by
  rw [lk_prs]
  by_cases c : s.data.toList ∈ es.map keyB
  · rw [if_pos c]
    have := (key_iff hk).1 c
    cases hl : luS es s with
    | none => rw [hl] at this; cases this
    | some v => rfl
  · rw [if_neg c, lu_no_key c]; rfl
theorem prs_up {es : List (Value × Value)} {s t : ByteArray} (h : Es es) (h2 : Es (upS es s (.agg ⟨[.string t]⟩))) : prs (upS es s (.agg ⟨[.string t]⟩)) = putP (prs es) s t := by
  refine rise_ext (prs_rise h2.nd) (put_rise (prs_rise h.nd)) fun u => ?_
  rw [lkP_put, lk_prs' h2.keys, lk_prs' h.keys]
  have e := lu_up (es := es) (s := s) (u := u) (v := .agg ⟨[.string t]⟩)
  by_cases c : u = s
  · rw [if_pos c] at e ⊢
    rw [e]
    show some (tOf _ u) = some t
    unfold tOf; rw [e]
  · rw [if_neg c] at e ⊢
    have e2 : tOf (upS es s (.agg ⟨[.string t]⟩)) u = tOf es u := by unfold tOf; rw [e]
    rw [e, e2]
theorem prs_dl {es : List (Value × Value)} {s : ByteArray} (h : Es es) : prs (dlS es s) = dropP (prs es) s := by
  refine rise_ext (prs_rise (h.drop s).nd) (drop_rise (prs_rise h.nd)) fun u => ?_
  rw [lkP_drop, lk_prs' (h.drop s).keys, lk_prs' h.keys]
  have e := lu_dl (s := s) (u := u) h.nd
  by_cases c : u = s
  · rw [if_pos c] at e ⊢
    rw [e]; rfl
  · rw [if_neg c] at e ⊢
    have e2 : tOf (dlS es s) u = tOf es u := by unfold tOf; rw [e]
    rw [e, e2]
theorem prs_get {es : List (Value × Value)} {j : Nat} (h : j < es.length) : (prs es).getD j (.empty, .empty) = (nmAt es j, tOf es (nmAt es j)) := by
  unfold prs
  rw [List.getD_eq_getElem?_getD, List.getElem?_map, nm_get h]; rfl
def pcell (p : ByteArray × ByteArray) : List Value := [.string p.1, .string p.2]
def prw (P : PL) : List Value := (P.map pcell).flatten
theorem prw_all {P : PL} : ∀ s ∈ P.map pcell, s.length = 2 := fun s hs => by
  obtain ⟨p, _, rfl⟩ := List.mem_map.1 hs; rfl
theorem prw_len {P : PL} : (prw P).length = P.length * 2 := by unfold prw; rw [flat_len prw_all, List.length_map]
theorem prw_at {P : PL} {j : Nat} (hj : j < P.length) : ((prw P).drop (j * 2)).take 2 = pcell (P.getD j (.empty, .empty)) := by
  unfold prw
  rw [flat_take prw_all (by simpa using hj), List.getD_eq_getElem?_getD, List.getElem?_map, List.getD_eq_getElem?_getD, List.getElem?_eq_getElem hj]; rfl
theorem prw_app (P Q : PL) : prw (P ++ Q) = prw P ++ prw Q := by simp [prw]
theorem prw_get {P : PL} {j r : Nat} (hj : j < P.length) (hr : r < 2) : (prw P)[j * 2 + r]? = (pcell (P.getD j (.empty, .empty)))[r]? := by
  rw [← prw_at hj, List.getElem?_take, if_pos hr, List.getElem?_drop]
theorem prw_get0 {P : PL} {j : Nat} (hj : j < P.length) : (prw P)[j * 2]? = some (.string (P.getD j (.empty, .empty)).1) := prw_get (r := 0) hj (by decide)
theorem prw_get1 {P : PL} {j : Nat} (hj : j < P.length) : (prw P)[j * 2 + 1]? = some (.string (P.getD j (.empty, .empty)).2) := prw_get (r := 1) hj (by decide)
theorem prw_drop {P : PL} {j : Nat} (hj : j ≤ P.length) : (prw P).drop (j * 2) = prw (P.drop j) := by
  have h := prw_app (P.take j) (P.drop j)
  rw [List.take_append_drop] at h
  have hl : (prw (P.take j)).length = j * 2 := by rw [prw_len, List.length_take]; omega
  rw [h, List.drop_append_of_le_length (by omega), List.drop_of_length_le (by omega), List.nil_append]
def cntP : PL → ByteArray → Nat
  | [], _ => 0
  | p :: P, s => if ltN p.1 s then cntP P s + 1 else 0
theorem cnt_le {s : ByteArray} : ∀ {P : PL}, cntP P s ≤ P.length
  | [] => Nat.le_refl _
  | p :: P => by
    unfold cntP
    split
    · have := cnt_le (s := s) (P := P); rw [List.length_cons]; omega
    · omega
theorem cnt_lt {s : ByteArray} : ∀ {P : PL} {j : Nat}, j < cntP P s → ltN (P.getD j (.empty, .empty)).1 s = true
  | [], _, h => absurd h (Nat.not_lt_zero _)
  | p :: P, j, h => by
    unfold cntP at h
    split at h
    · rename_i c
      match j with
      | 0 => exact c
      | j + 1 => exact cnt_lt (P := P) (by omega)
    · omega
theorem cnt_ge {s : ByteArray} : ∀ {P : PL}, cntP P s < P.length → ltN (P.getD (cntP P s) (.empty, .empty)).1 s = false
  | [], h => absurd h (Nat.not_lt_zero _)
  | p :: P, h => by
    unfold cntP at h ⊢
    split
    · rename_i c
      rw [if_pos c] at h
      exact cnt_ge (P := P) (by rw [List.length_cons] at h; omega)
    · rename_i c
      exact Bool.eq_false_iff.2 c
theorem put_cnt {s t : ByteArray} : ∀ {P : PL}, putP P s t = P.take (cntP P s) ++ (s, t) :: P.drop (cntP P s + if cntP P s < P.length ∧ (P.getD (cntP P s) (.empty, .empty)).1 = s then 1 else 0)
  | [] => rfl
  | p :: P => by
    unfold putP cntP
    split
    · rename_i c
      rw [put_cnt (P := P)]
      have e : (cntP P s + 1 < (p :: P).length ∧ ((p :: P).getD (cntP P s + 1) (.empty, .empty)).1 = s) = (cntP P s < P.length ∧ (P.getD (cntP P s) (.empty, .empty)).1 = s) := by
        rw [List.length_cons, Nat.add_lt_add_iff_right]; rfl
      simp only [e]
      rw [show ∀ k, cntP P s + 1 + k = (cntP P s + k) + 1 from fun k => by omega]
      rfl
    · rename_i c
      split
      · rename_i e
        rw [if_pos ⟨Nat.succ_pos _, e⟩]; rfl
      · rename_i e
        rw [if_neg (fun h => e h.2)]; rfl
end Go.Sx

/- Packing: the document's writer, numbers and texts. -/
set_option linter.unusedVariables false
set_option linter.unusedSimpArgs false
set_option maxRecDepth 100000
namespace Go.Sx
attribute [local go_sem ↓] bind_mk intsB_mk strsB_mk svB_mk fnVC ob_some vc_skip vc_exit vc_ret vc_seq vc_block kSeq_normal kSeq_exit kSeq_ret kBlock_normal kBlock_exit kBlock_ret vc_reg vc_regD vc_cond condK_true condK_false vc_loop kLoop_exit kLoop_ret kRoll_normal kRoll_exit kRoll_ret vcOps_nil vcOps_cons gd_bool gd_undef put_some put_none vcT_fin vcT_pure vcT_act vcT_acts vcT_stop stab_none stab_some stabM_nil stabM_cons stabO_ld stabO_ldn stabO_slP stabO_b2s fldOf_ai fldOf_agg fldOf_ait fldOf_aggt intsOf_nil intsOf_cons strsOf_nil strsOf_cons c_omap ob_if lk_nil lk_cons ev_t ev_k z_mov z_pick z_bin z_binB z_binP z_un z_r2s z_conv z_s2b z_b2s z_mkM z_luM z_upM z_lenM lenMk_mp lenMk_nil plsOf_v z_delM asM_so plV_v plV_agg mpOf_mp mpOf_nil mpUp_mp asM_mp luV_ok luV_v z_allocT aggOf_mk z_boxT z_alloc z_bld z_bldI z_rowI z_rowS z_ld z_ldn z_st z_stn asN_ptr asN_fn z_nilck z_fld z_fadr z_idxA z_idxP z_idxS z_idxV z_slS z_slL z_slP z_mk z_lenS z_lenL z_app appC_ints appC_pl appC_sv appC_strs isS_strs loose_ints loose_pl loose_sv z_slM z_callv callvK_fn callvK_f callvK_yl vc_rangeF rfEnd_eq rfGo_none rfGo_ret rfGo_exit yGo_mk yEnd_n yEnd_r yEnd_e yRdy_mk yMid_n putPs_nil putPs_cons leaf_v leaf_ptr leaf_sl leaf_yl leaf_mp z_appS z_appST z_appZ z_cpyS z_mkfn reps_int reps_str z_rowV z_slnil nilK_zero z_cpy z_call asT_tup z_extT z_box boxOf_ai boxOf_agg boxOf_int boxOf_str boxOf_bool boxOf_ptr boxOf_sl sbin_int sbin_str sbinB_mk sbinP_nn sbinP_pn sbinP_np i_add i_sub i_mul i_quo i_rem i_and i_or i_xor i_andNot i_shl i_shr i_eql i_neq i_lss i_leq i_gtr i_geq st_add st_eql st_neq st_lss st_leq st_gtr st_geq bo_eql bo_neq pt_eql pt_neq un_neg un_xor un_not asI_mk asB_mk asS_mk asP_mk asSl_mk asBy_mk bnd_none bnd_some get_mk hput_mk hdel_mk kill_eq wrOf_eq rowOf_eq rsvs_0 rsvs_1 rsvs_2 rsvs_3 rsv_t rsv_c1 rsv_cn nt_v nt_ptr nt_sl nt_agg nt_ai get_ints get_strs get_pl get_sv getN_ints getN_sv set_ints set_strs set_sv setN_ints setN_sv part_ints part_strs part_sv cat_ints cat_strs cat_sv over_ints over_strs over_sv ones_ints ones_strs evs_nil evs_cons condK_eqt condK_eqf det_callP V_ns V_nn V_gs V_gn obC_mk fresh_ev freshT_ev freshR_ev setN_plagg setN_intsv setN_svai setN_svagg over_intsv set_pl setN_pl setN_plai getN_pl getN_strs part_pl cat_pl over_pl over_plints z_mm
attribute [local go_sem] initTm ne_eq not_true_eq_false not_false_eq_true true_and and_true List.length_cons List.length_nil Int.toNat_natCast Nat.add_zero Nat.zero_add Nat.mul_one List.getElem?_cons_zero List.drop_zero List.take_length List.take_succ_cons List.take_zero List.take_nil List.drop_succ_cons Option.map_some Nat.le_refl implies_true List.getElem?_cons_succ decide_true decide_false Bool.not_true Bool.not_false beq_self_eq_true Nat.succ_ne_self Nat.one_ne_zero Nat.zero_ne_one vk_mk hk_mk nk_mk tok_eq plsOf_map intsOf_map bodyOf_pl bodyOf_ints bodyOf_strs bodyOf_sv part_aggv part_agg part_ai part_int part_str part_bool part_sl part_ptr part_nil numsOf_map u_int u_str u_bool u_pnil u_sl u_ptr u_oci u_ocs evq_nil evq_cons fillS_nil fillS_cons u_ocb ones_pl cells_sv cells_ints cells_strs cells_pl smms_nil smms_cons smm_min smm_max plsOf_nil List.nil_append List.all_cons List.all_nil Bool.and_self Bool.true_and Bool.and_true zws_len zw_len zi_len List.set_cons_zero List.set_cons_succ List.flatMap_cons List.flatMap_nil List.append_nil
attribute [local go_sem_proc] Nat.reduceEqDiff Nat.reduceAdd Nat.reduceMul Nat.reduceLT Nat.reduceLeDiff Nat.reduceSub Int.reduceToNat Int.reduceLE Int.reduceLT reduceCtorEq Int.reduceEq Int.reduceGT Int.reduceGE Int.reduceNeg
attribute [local go_sem_proc ↓] reduceIte
section
open Go.Proofs
variable {H : Hp} {n : Nat} {x : Nat → Option SO}
theorem ishr_u2 {y s : Nat} (hs : s ≤ 64) : ishr .u64 (y : Int) (s : Nat) = ((y / 2 ^ s : Nat) : Int) := by
  unfold ishr
  have hm : min ((s : Nat) : Int).toNat IntKind.u64.bits = s := by show min ((s : Nat) : Int).toNat 64 = s; omega
  rw [hm, Int.fdiv_eq_ediv_of_nonneg _ (Int.le_of_lt (Int.pow_pos (by decide)))]
  push_cast
  rfl
theorem rnumberW {y k : Nat} (hk : k ≤ 8) (hy : y < 9223372036854775808) :
    fnVC CT mrnumber1 [.sl 0 0 0 1, .v (.int .u64 y), .v (.int .i64 k)] ⟨[], x⟩ 1 fun v H' n' => Sub 1 ⟨[(0, .sl 1 0 k 1)], ⟨[(1, some ⟨true, .ints .u8 (be y k)⟩)], x⟩, 2⟩ ⟨[(0, v)], H', n'⟩ := by
  unfold mrnumber1
  have w2 : IntKind.i64.wrap ((k : Int) - 1) = (k : Int) - 1 := wrap_i64 (by omega) (by omega)
  simp -implicitDefEqProofs only [↓fnVC, initTm]
  simp -implicitDefEqProofs only [go_sem, w2]
  refine loop_fam (fun (c : Nat) => c ≤ k) (fun c => ⟨[(0, .sl 1 0 ((be y k).take (k - c)).length 1), (1, .v (.int .u64 y)), (7, .v (.int .i64 ((c : Int) - 1)))], ⟨[(1, some ⟨true, .ints .u8 ((be y k).take (k - c))⟩)], x⟩, 2⟩) (fun c => c) k (Nat.le_refl _) ?_ ?_
  · refine sub_mk [(1, 0)] rfl rfl rfl ?_
    simp only [tmSub, hpSub, objSub, eqTm, eqHp, rn, lk, SV.ren, SV.renC, SV.renB, SV.renA, ren_ints, ren_strs, ren_pl, ren_svs, SV.v.injEq, Value.int.injEq, Body.ints.injEq, SV.ptr.injEq, SV.sl.injEq, Value.string.injEq, Value.bool.injEq, List.map_cons, List.map_nil, forall_const, Nat.reduceLT, Nat.lt_add_one, imp_self, true_and, and_true, and_self, ob_some, get_mk, lk_cons, ↓reduceIte, Nat.reduceEqDiff, ne_eq, not_true_eq_false, not_false_eq_true, Nat.one_ne_zero, Nat.zero_ne_one, Nat.succ_ne_self, Nat.reduceAdd, Bool.false_eq_true, false_implies, implies_true, reduceCtorEq, w2, Nat.sub_self, List.take_zero, List.length_nil]
    rfl
  · intro c hc
    simp -implicitDefEqProofs only [go_sem]
    refine condK_bb (fun d => ?_) (fun d => ?_)
    · have d1 : 1 ≤ c := by have := of_decide_eq_true d; omega
      have w3 : IntKind.i64.wrap (8 * ((c : Int) - 1)) = ((8 * (c - 1) : Nat) : Int) := by rw [wrap_i64 (by omega) (by omega)]; omega
      have s2 : ishr .u64 (y : Int) ((8 * (c - 1) : Nat) : Int) = ((y / 256 ^ (c - 1) : Nat) : Int) := by rw [ishr_u2 (by omega), pow256]
      have w4 : IntKind.u8.wrap ((y / 256 ^ (c - 1) : Nat) : Int) = ((y / 256 ^ (c - 1) % 256 : Nat) : Int) := by rw [wrap_u8]; omega
      have w5 : IntKind.i64.wrap ((c : Int) - 1 - 1) = ((c - 1 : Nat) : Int) - 1 := by rw [wrap_i64 (by omega) (by omega)]; omega
      have ht : (be y k).take (k - (c - 1)) = ((be y k).take (k - c)) ++ [((y / 256 ^ (c - 1) % 256 : Nat) : Int)] := by
        rw [show k - (c - 1) = (k - c) + 1 by omega, List.take_add_one, be_get (by omega), show k - 1 - (k - c) = c - 1 by omega]; rfl
      have hlen : ((be y k).take (k - c)).length ≤ 8 := by rw [List.length_take]; omega
      generalize (be y k).take (k - c) = cur at hlen ht
      simp -implicitDefEqProofs only [go_sem, d, w3, s2, w4, w5]
      refine ⟨by omega, by omega, by omega, ?_⟩
      refine kLoop_mk (c - 1) (by omega) (by omega) ?_
      refine sub_mk [(1, 3)] rfl rfl rfl ?_
      simp only [tmSub, hpSub, objSub, eqTm, eqHp, rn, lk, SV.ren, SV.renC, SV.renB, SV.renA, ren_ints, ren_strs, ren_pl, ren_svs, SV.v.injEq, Value.int.injEq, Body.ints.injEq, SV.ptr.injEq, SV.sl.injEq, Value.string.injEq, Value.bool.injEq, List.map_cons, List.map_nil, forall_const, Nat.reduceLT, Nat.lt_add_one, imp_self, true_and, and_true, and_self, ob_some, get_mk, lk_cons, ↓reduceIte, Nat.reduceEqDiff, ne_eq, not_true_eq_false, not_false_eq_true, Nat.one_ne_zero, Nat.zero_ne_one, Nat.succ_ne_self, Nat.reduceAdd, Bool.false_eq_true, false_implies, implies_true, reduceCtorEq, w5, ht, List.length_append, List.length_singleton]
    · have d1 : c = 0 := by have := of_decide_eq_false d; omega
      subst d1
      have ht : (be y k).take (k - 0) = be y k := List.take_of_length_le (by rw [be_len]; exact Nat.le_refl _)
      have hl : (be y k).length = k := be_len
      simp -implicitDefEqProofs only [go_sem, d, ht, hl]
      refine sub_mk [] rfl rfl rfl ?_
      simp only [tmSub, hpSub, objSub, eqTm, eqHp, rn, lk, SV.ren, SV.renC, SV.renB, SV.renA, ren_ints, ren_strs, ren_pl, ren_svs, SV.v.injEq, Value.int.injEq, Body.ints.injEq, SV.ptr.injEq, SV.sl.injEq, Value.string.injEq, Value.bool.injEq, List.map_cons, List.map_nil, forall_const, Nat.reduceLT, Nat.lt_add_one, imp_self, true_and, and_true, and_self, ob_some, get_mk, lk_cons, ↓reduceIte, Nat.reduceEqDiff, ne_eq, not_true_eq_false, not_false_eq_true, Nat.one_ne_zero, Nat.zero_ne_one, Nat.succ_ne_self, Nat.reduceAdd, Bool.false_eq_true, false_implies, implies_true, reduceCtorEq]
theorem rnum1S {y k : Nat} (hk0 : 0 < k) (hk : k ≤ 8) (hy : y < 9223372036854775808) : SpecAt Tryz.prog nrNumber1 [.v (.int .u64 y), .v (.int .i64 k)] H n (.v (.string (tx (be y k)))) H n := lift_pure (okT.spec trNumber1 (by
  unfold mrNumber1
  simp -implicitDefEqProofs only [↓fnVC, initTm]
  simp -implicitDefEqProofs only [go_sem]
  refine at_call trnumber1 (okT.spec trnumber1 (rnumberW (x := H.x) hk hy)) ?_
  have hl : (be y k).length = k := be_len
  have ht : List.take k (be y k) = be y k := List.take_of_length_le (by omega)
  simp -implicitDefEqProofs only [go_sem, ht]
  exact ⟨by omega, sub_val rfl (by decide) (by decide) rfl⟩)) rfl
theorem rwNumW {y k : Nat} {bs : List Int} {bad : Bool} (hk0 : 0 < k) (hk : k ≤ 8) (hy : y < 9223372036854775808) (hf : k < 8 → y < 256 ^ k) (hb : bs.length ≤ 1099511627776) :
    fnVC CT mrWNumber [.ptr 1 0, .v (.int .i64 y), .v (.int .i64 k)] ⟨[(1, some (wrO 2 bs.length bad)), (2, some ⟨true, .ints .u8 bs⟩)], x⟩ 3 fun v H' n' => Sub 3 ⟨[(0, .tup [])], ⟨[(1, some (wrO 3 (bs ++ be y k).length bad)), (2, none), (3, some ⟨true, .ints .u8 (bs ++ be y k)⟩)], x⟩, 4⟩ ⟨[(0, v)], H', n'⟩ := by
  unfold mrWNumber wrO
  have g1 : decide ((y : Int) < 0) = false := decide_eq_false (by omega)
  have w1 : IntKind.i64.wrap (8 * (k : Int)) = ((8 * k : Nat) : Int) := by rw [wrap_i64 (by omega) (by omega)]; omega
  have w2 : IntKind.u64.wrap (y : Int) = (y : Int) := wrap_u64r (by omega) (by omega)
  have hl : (be y k).length = k := be_len
  have hbt : bts (tx (be y k)) = be y k := btx be_bytes
  have hsz : (tx (be y k)).size = k := by rw [tx_sz, hl]
  simp -implicitDefEqProofs only [↓fnVC, initTm]
  simp -implicitDefEqProofs only [go_sem, g1]
  refine condK_bb (fun c => ?_) (fun c => ?_)
  · have hk8 : k < 8 := by have := of_decide_eq_true c; omega
    have s1 := ishl_one hk8
    have h1 : decide ((y : Int) ≥ ((256 ^ k : Nat) : Int)) = false := decide_eq_false (by have := hf hk8; omega)
    simp -implicitDefEqProofs only [go_sem, c, w1, s1, h1, w2]
    refine ⟨by omega, ?_⟩
    refine at_call trNumber1 (rnum1S hk0 hk (by omega)) ?_
    simp -implicitDefEqProofs only [go_sem, hbt, hsz]
    refine ⟨by omega, sub_mk [] rfl rfl rfl ?_⟩
    simp only [tmSub, hpSub, objSub, eqTm, eqHp, rn, lk, SV.ren, SV.renC, SV.renB, SV.renA, ren_ints, ren_strs, ren_pl, ren_svs, SV.v.injEq, Value.int.injEq, Body.ints.injEq, SV.ptr.injEq, SV.sl.injEq, Value.string.injEq, Value.bool.injEq, List.map_cons, List.map_nil, forall_const, Nat.reduceLT, Nat.lt_add_one, imp_self, true_and, and_true, and_self, ob_some, get_mk, lk_cons, ↓reduceIte, Nat.reduceEqDiff, ne_eq, not_true_eq_false, not_false_eq_true, Nat.one_ne_zero, Nat.zero_ne_one, Nat.succ_ne_self, Nat.reduceAdd, Bool.false_eq_true, false_implies, implies_true, reduceCtorEq, List.length_append, hl]
  · simp -implicitDefEqProofs only [go_sem, c, w1, w2]
    refine at_call trNumber1 (rnum1S hk0 hk (by omega)) ?_
    simp -implicitDefEqProofs only [go_sem, hbt, hsz]
    refine ⟨by omega, sub_mk [] rfl rfl rfl ?_⟩
    simp only [tmSub, hpSub, objSub, eqTm, eqHp, rn, lk, SV.ren, SV.renC, SV.renB, SV.renA, ren_ints, ren_strs, ren_pl, ren_svs, SV.v.injEq, Value.int.injEq, Body.ints.injEq, SV.ptr.injEq, SV.sl.injEq, Value.string.injEq, Value.bool.injEq, List.map_cons, List.map_nil, forall_const, Nat.reduceLT, Nat.lt_add_one, imp_self, true_and, and_true, and_self, ob_some, get_mk, lk_cons, ↓reduceIte, Nat.reduceEqDiff, ne_eq, not_true_eq_false, not_false_eq_true, Nat.one_ne_zero, Nat.zero_ne_one, Nat.succ_ne_self, Nat.reduceAdd, Bool.false_eq_true, false_implies, implies_true, reduceCtorEq, List.length_append, hl]
theorem rwNum0W {y k : Nat} {bad : Bool} (hk0 : 0 < k) (hk : k ≤ 8) (hy : y < 9223372036854775808) (hf : k < 8 → y < 256 ^ k) :
    fnVC CT mrWNumber [.ptr 1 0, .v (.int .i64 y), .v (.int .i64 k)] ⟨[(1, some ⟨true, .sv [.sl 0 0 0 1, .v (.bool bad)]⟩)], x⟩ 2 fun v H' n' => Sub 2 ⟨[(0, .tup [])], ⟨[(1, some (wrO 2 (be y k).length bad)), (2, some ⟨true, .ints .u8 (be y k)⟩)], x⟩, 3⟩ ⟨[(0, v)], H', n'⟩ := by
  unfold mrWNumber wrO
  have g1 : decide ((y : Int) < 0) = false := decide_eq_false (by omega)
  have w1 : IntKind.i64.wrap (8 * (k : Int)) = ((8 * k : Nat) : Int) := by rw [wrap_i64 (by omega) (by omega)]; omega
  have w2 : IntKind.u64.wrap (y : Int) = (y : Int) := wrap_u64r (by omega) (by omega)
  have hl : (be y k).length = k := be_len
  have hbt : bts (tx (be y k)) = be y k := btx be_bytes
  have hsz : (tx (be y k)).size = k := by rw [tx_sz, hl]
  simp -implicitDefEqProofs only [↓fnVC, initTm]
  simp -implicitDefEqProofs only [go_sem, g1]
  refine condK_bb (fun c => ?_) (fun c => ?_)
  · have hk8 : k < 8 := by have := of_decide_eq_true c; omega
    have s1 := ishl_one hk8
    have h1 : decide ((y : Int) ≥ ((256 ^ k : Nat) : Int)) = false := decide_eq_false (by have := hf hk8; omega)
    simp -implicitDefEqProofs only [go_sem, c, w1, s1, h1, w2]
    refine ⟨by omega, ?_⟩
    refine at_call trNumber1 (rnum1S hk0 hk (by omega)) ?_
    simp -implicitDefEqProofs only [go_sem, hbt, hsz]
    refine ⟨by omega, sub_mk [] rfl rfl rfl ?_⟩
    simp only [tmSub, hpSub, objSub, eqTm, eqHp, rn, lk, SV.ren, SV.renC, SV.renB, SV.renA, ren_ints, ren_strs, ren_pl, ren_svs, SV.v.injEq, Value.int.injEq, Body.ints.injEq, SV.ptr.injEq, SV.sl.injEq, Value.string.injEq, Value.bool.injEq, List.map_cons, List.map_nil, forall_const, Nat.reduceLT, Nat.lt_add_one, imp_self, true_and, and_true, and_self, ob_some, get_mk, lk_cons, ↓reduceIte, Nat.reduceEqDiff, ne_eq, not_true_eq_false, not_false_eq_true, Nat.one_ne_zero, Nat.zero_ne_one, Nat.succ_ne_self, Nat.reduceAdd, Bool.false_eq_true, false_implies, implies_true, reduceCtorEq, hl]
  · simp -implicitDefEqProofs only [go_sem, c, w1, w2]
    refine at_call trNumber1 (rnum1S hk0 hk (by omega)) ?_
    simp -implicitDefEqProofs only [go_sem, hbt, hsz]
    refine ⟨by omega, sub_mk [] rfl rfl rfl ?_⟩
    simp only [tmSub, hpSub, objSub, eqTm, eqHp, rn, lk, SV.ren, SV.renC, SV.renB, SV.renA, ren_ints, ren_strs, ren_pl, ren_svs, SV.v.injEq, Value.int.injEq, Body.ints.injEq, SV.ptr.injEq, SV.sl.injEq, Value.string.injEq, Value.bool.injEq, List.map_cons, List.map_nil, forall_const, Nat.reduceLT, Nat.lt_add_one, imp_self, true_and, and_true, and_self, ob_some, get_mk, lk_cons, ↓reduceIte, Nat.reduceEqDiff, ne_eq, not_true_eq_false, not_false_eq_true, Nat.one_ne_zero, Nat.zero_ne_one, Nat.succ_ne_self, Nat.reduceAdd, Bool.false_eq_true, false_implies, implies_true, reduceCtorEq, hl]
theorem rwNumS {i r y k : Nat} {bs : List Int} {bad : Bool} (hg : H.get i = some (wrO r bs.length bad)) (hr : H.get r = some ⟨true, .ints .u8 bs⟩) (hi : 0 < i ∧ i < 1000) (hr1 : 0 < r ∧ r < 1000) (hne : i ≠ r) (hn : n + 1 ≤ 1000)
    (hk0 : 0 < k) (hk : k ≤ 8) (hy : y < 9223372036854775808) (hf : k < 8 → y < 256 ^ k) (hb : bs.length ≤ 1099511627776) :
    SpecAt Tryz.prog nrWNumber [.ptr i 0, .v (.int .i64 y), .v (.int .i64 k)] H n (.tup []) ⟨(i, some (wrO n (bs ++ be y k).length bad)) :: (r, none) :: (n, some ⟨true, .ints .u8 (bs ++ be y k)⟩) :: H.l, H.x⟩ (n + 1) := by
  have := lift (n := n) (okT.spec trWNumber (rwNumW (x := H.x) hk0 hk hy hf hb)) [(1, i), (2, r)] rfl rfl rfl (by omega) rfl rfl
    ⟨sub_wr rfl hi.1 hi.2 hg rfl, sub_wr rfl hr1.1 hr1.2 hr rfl, trivial⟩ (by simp [apartB, apart1, rn, lk, hne, Ne.symm hne]) (by simp [wrNZ, rn, lk]; omega) (by omega)
  exact this
theorem rwNum0S {i y k : Nat} {bad : Bool} (hg : H.get i = some ⟨true, .sv [.sl 0 0 0 1, .v (.bool bad)]⟩) (hi : 0 < i ∧ i < 1000) (hn : n + 1 ≤ 1000)
    (hk0 : 0 < k) (hk : k ≤ 8) (hy : y < 9223372036854775808) (hf : k < 8 → y < 256 ^ k) :
    SpecAt Tryz.prog nrWNumber [.ptr i 0, .v (.int .i64 y), .v (.int .i64 k)] H n (.tup []) ⟨(i, some (wrO n (be y k).length bad)) :: (n, some ⟨true, .ints .u8 (be y k)⟩) :: H.l, H.x⟩ (n + 1) := by
  have := lift (n := n) (okT.spec trWNumber (rwNum0W (x := H.x) hk0 hk hy hf)) [(1, i)] rfl rfl rfl (by omega) rfl rfl
    ⟨sub_wr rfl hi.1 hi.2 hg rfl, trivial⟩ (by simp [apartB, apart1, rn, lk]) (by simp [wrNZ, rn, lk]; omega) (by omega)
  exact this
theorem rwTextS {i r : Nat} {s : ByteArray} {bs : List Int} (hs : s.size < 65536) (hb : bs.length ≤ 1000000000) (hg : H.get i = some (wrO r bs.length false)) (hr : H.get r = some ⟨true, .ints .u8 bs⟩) (hi : 0 < i ∧ i < 1000) (hr1 : 0 < r ∧ r < 1000) (hne : i ≠ r) (hn : n + 1 ≤ 1000) :
    SpecAt Tryz.prog nrWText [.ptr i 0, .v (.string s)] H n (.tup []) ⟨(i, some (wrO n (bs ++ (be s.size 2 ++ bts s)).length false)) :: (r, none) :: (n, some ⟨true, .ints .u8 (bs ++ (be s.size 2 ++ bts s))⟩) :: H.l, H.x⟩ (n + 1) := wKS trWText (fun _ => rfl) rfl (by
  intro x
  have g1 : decide ((s.size : Int) > 65535) = false := decide_eq_false (by omega)
  unfold mrWText
  simp -implicitDefEqProofs only [↓fnVC, initTm]
  unfold wrO
  simp -implicitDefEqProofs only [go_sem, g1]
  refine at_call trWNumber (rwNumS (i := 1) (r := 2) (k := 2) (y := s.size) (bs := bs) (bad := false) (by rfl) (by rfl) (by decide) (by decide) (by decide) (by decide) (by decide) (by decide) (by omega) (fun _ => hs) (by omega)) ?_
  unfold wrO
  simp -implicitDefEqProofs only [go_sem]
  refine ⟨by rw [List.length_append, be_len]; omega, ?_⟩
  refine sub_mk [(3, 4)] rfl rfl rfl ?_
  simp only [tmSub, hpSub, objSub, eqTm, eqHp, rn, lk, SV.ren, SV.renC, SV.renB, SV.renA, ren_ints, ren_strs, ren_pl, ren_svs, SV.v.injEq, Value.int.injEq, Body.ints.injEq, SV.ptr.injEq, SV.sl.injEq, Value.string.injEq, Value.bool.injEq, List.map_cons, List.map_nil, forall_const, Nat.reduceLT, Nat.lt_add_one, imp_self, true_and, and_true, and_self, ob_some, get_mk, lk_cons, ↓reduceIte, Nat.reduceEqDiff, ne_eq, not_true_eq_false, not_false_eq_true, Nat.one_ne_zero, Nat.zero_ne_one, Nat.succ_ne_self, Nat.reduceAdd, Bool.false_eq_true, false_implies, implies_true, reduceCtorEq]
  rw [← List.append_assoc, List.length_append (bs := bts s), bts_len]
  repeat' (first | rfl | apply And.intro)) hg hr hi hr1 hne hn
end
section
/- Cells: the document's calls. -/
set_option linter.unusedVariables false
set_option linter.unusedSimpArgs false
set_option maxRecDepth 100000
open Go.Proofs
variable {H : Hp} {n : Nat} {x : Nat → Option SO} {i D M W : Nat} {d d' : Fd} {C C' : Ce}
abbrev pE : ByteArray × ByteArray := (.empty, .empty)
theorem seq_eq {a b : ByteArray} (h : seq a b = true) : a = b := Classical.byContradiction fun n => by rw [seq_ne n] at h; cases h
theorem seq_nq {a b : ByteArray} (h : seq a b = false) : a ≠ b := fun e => by rw [e, seq_self] at h; cases h
theorem slt_ltN {s t : ByteArray} : slt s t = ltN s t := by
  unfold slt ltN
  rw [bytesLess_eq]
  have h1 : s.toList = s.data.toList := Go.Lib.toList_data s
  have h2 : t.toList = t.data.toList := Go.Lib.toList_data t
  rw [h1, h2]
theorem lkP_at {s : ByteArray} : ∀ {P : PL} {j : Nat}, (∀ i, i < j → (P.getD i pE).1 ≠ s) → j < P.length → (P.getD j pE).1 = s → lkP P s = some (P.getD j pE).2
  | [], _, _, h, _ => absurd h (Nat.not_lt_zero _)
  | p :: P, 0, _, _, e => if_pos e
  | p :: P, j + 1, h, hl, e => by
    show (if p.1 = s then _ else lkP P s) = _
    rw [if_neg (show p.1 ≠ s from h 0 (by omega))]
    exact lkP_at (P := P) (fun i hi => h (i + 1) (by omega)) (by rw [List.length_cons] at hl; omega) e
theorem lkP_no {P : PL} {s : ByteArray} (h : ∀ i, i < P.length → (P.getD i pE).1 ≠ s) : lkP P s = none := lkP_none0 fun p hp => by
  obtain ⟨i, hi, e⟩ := List.getElem_of_mem hp
  have := h i hi
  rw [List.getD_eq_getElem?_getD, List.getElem?_eq_getElem hi] at this
  rw [← e]; exact this
def lkV (o : Option ByteArray) : SV := .tup [.v (.string (o.getD ⟨#[]⟩)), .v (.bool o.isSome)]
theorem getV_prs {es : List (Value × Value)} {s : ByteArray} (h : Es es) : getV es s = lkV (lkP (prs es) s) := by
  rw [lk_prs' h.keys]
  unfold getV lkV
  cases hl : luS es s with
  | none =>
    have : tOf es s = ⟨#[]⟩ := by unfold tOf; rw [hl]
    rw [this]; rfl
  | some v => rfl
def rcL (C : Ce) (m w D M W : Nat) : Body := .sv [.ptr D 0, .v (.int .i64 C.base), .v (.int .i64 C.half), .sl M 0 m 2, .sl W 0 w 2, .v (.int .i64 C.num), .v (.int .i64 C.last), .v (.bool C.dead)]
def rcellB (C : Ce) (D M W : Nat) : Body := rcL C C.now.length C.was.length D M W
def rowP (es : List (Value × Value)) : Body := .pl (prw (prs es))
theorem rgetW {m w : Nat} {P : PL} {s : ByteArray} (hm : m = P.length) (hP : m ≤ 64) :
    fnVC CT mrCGet [.ptr 1 0, .v (.string s)] ⟨[(1, some ⟨false, rcL C m w 2 3 4⟩), (3, some ⟨false, .pl (prw P)⟩)], x⟩ 5 fun v H' n' => Sub 5 ⟨[(0, lkV (lkP P s))], ⟨[], x⟩, 5⟩ ⟨[(0, v)], H', n'⟩ := by
  unfold mrCGet rcL
  simp -implicitDefEqProofs only [↓fnVC, initTm]
  simp -implicitDefEqProofs only [go_sem]
  refine loop_fam (fun (j : Nat) => j ≤ m ∧ ∀ i, i < j → (P.getD i pE).1 ≠ s) (fun j => ⟨[(0, .ptr 1 0), (1, .v (.string s)), (6, .v (.int .i64 j))], ⟨[(1, some ⟨false, rcL C m w 2 3 4⟩), (3, some ⟨false, .pl (prw P)⟩)], x⟩, 5⟩) (fun j => m - j) 0 ⟨Nat.zero_le _, fun i h => absurd h (Nat.not_lt_zero _)⟩ ?_ ?_
  · refine sub_mk [] rfl rfl rfl ?_
    simp only [tmSub, hpSub, objSub, eqTm, eqHp, rn, lk, SV.ren, SV.renC, SV.renB, SV.renA, ren_ints, ren_strs, ren_pl, ren_svs, SV.v.injEq, Value.int.injEq, Body.ints.injEq, SV.ptr.injEq, SV.sl.injEq, Value.string.injEq, Value.bool.injEq, List.map_cons, List.map_nil, forall_const, Nat.reduceLT, Nat.lt_add_one, imp_self, true_and, and_true, and_self, ob_some, get_mk, lk_cons, ↓reduceIte, Nat.reduceEqDiff, ne_eq, not_true_eq_false, not_false_eq_true, Nat.one_ne_zero, Nat.zero_ne_one, Nat.succ_ne_self, Nat.reduceAdd, Bool.false_eq_true, false_implies, implies_true, reduceCtorEq, rcL]
    repeat' (first | rfl | apply And.intro)
  · rintro j ⟨hj, hne⟩
    unfold rcL
    simp -implicitDefEqProofs only [go_sem]
    refine condK_bb (fun c => ?_) (fun c => ?_)
    · have c1 : j < m := by have := of_decide_eq_true c; omega
      have g0 := prw_get0 (P := P) (j := j) (by omega)
      have g1 := prw_get1 (P := P) (j := j) (by omega)
      have w2 : IntKind.i64.wrap ((j : Int) + 1) = ((j + 1 : Nat) : Int) := by rw [wrap_i64 (by omega) (by omega)]; omega
      simp -implicitDefEqProofs only [go_sem, c, g0]
      refine ⟨⟨by omega, by omega⟩, ?_⟩
      refine condK_bb (fun e => ?_) (fun e => ?_)
      · have hk := lkP_at hne (by omega) (seq_eq e)
        rw [hk]
        simp -implicitDefEqProofs only [go_sem, c, g1]
        refine ⟨⟨by omega, by omega⟩, ?_⟩
        unfold lkV
        refine sub_mk [] rfl rfl rfl ?_
        simp only [tmSub, hpSub, objSub, eqTm, eqHp, rn, lk, SV.ren, SV.renC, SV.renB, SV.renA, ren_ints, ren_strs, ren_pl, ren_svs, SV.v.injEq, Value.int.injEq, Body.ints.injEq, SV.ptr.injEq, SV.sl.injEq, Value.string.injEq, Value.bool.injEq, List.map_cons, List.map_nil, forall_const, Nat.reduceLT, Nat.lt_add_one, imp_self, true_and, and_true, and_self, ob_some, get_mk, lk_cons, ↓reduceIte, Nat.reduceEqDiff, ne_eq, not_true_eq_false, not_false_eq_true, Nat.one_ne_zero, Nat.zero_ne_one, Nat.succ_ne_self, Nat.reduceAdd, Bool.false_eq_true, false_implies, implies_true, reduceCtorEq]
        rfl
      · simp -implicitDefEqProofs only [go_sem, w2]
        refine kLoop_mk (j + 1) ⟨by omega, fun i hi => ?_⟩ (by omega) ?_
        · by_cases h : i = j
          · subst h; exact seq_nq e
          · exact hne i (by omega)
        · refine sub_mk [] rfl rfl rfl ?_
          simp only [tmSub, hpSub, objSub, eqTm, eqHp, rn, lk, SV.ren, SV.renC, SV.renB, SV.renA, ren_ints, ren_strs, ren_pl, ren_svs, SV.v.injEq, Value.int.injEq, Body.ints.injEq, SV.ptr.injEq, SV.sl.injEq, Value.string.injEq, Value.bool.injEq, List.map_cons, List.map_nil, forall_const, Nat.reduceLT, Nat.lt_add_one, imp_self, true_and, and_true, and_self, ob_some, get_mk, lk_cons, ↓reduceIte, Nat.reduceEqDiff, ne_eq, not_true_eq_false, not_false_eq_true, Nat.one_ne_zero, Nat.zero_ne_one, Nat.succ_ne_self, Nat.reduceAdd, Bool.false_eq_true, false_implies, implies_true, reduceCtorEq, rcL]
          repeat' (first | rfl | apply And.intro)
    · have c1 : j = m := by have := of_decide_eq_false c; omega
      rw [lkP_no (fun i hi => hne i (by omega))]
      simp -implicitDefEqProofs only [go_sem, c]
      unfold lkV
      refine sub_mk [] rfl rfl rfl ?_
      simp only [tmSub, hpSub, objSub, eqTm, eqHp, rn, lk, SV.ren, SV.renC, SV.renB, SV.renA, ren_ints, ren_strs, ren_pl, ren_svs, SV.v.injEq, Value.int.injEq, Body.ints.injEq, SV.ptr.injEq, SV.sl.injEq, Value.string.injEq, Value.bool.injEq, List.map_cons, List.map_nil, forall_const, Nat.reduceLT, Nat.lt_add_one, imp_self, true_and, and_true, and_self, ob_some, get_mk, lk_cons, ↓reduceIte, Nat.reduceEqDiff, ne_eq, not_true_eq_false, not_false_eq_true, Nat.one_ne_zero, Nat.zero_ne_one, Nat.succ_ne_self, Nat.reduceAdd, Bool.false_eq_true, false_implies, implies_true, reduceCtorEq]
      rfl
theorem prw_one {P : PL} : ∀ v ∈ prw P, v.oneCell' = true := by
  intro v hv
  unfold prw at hv
  obtain ⟨l, hl, hv⟩ := List.mem_flatten.1 hv
  obtain ⟨p, _, rfl⟩ := List.mem_map.1 hl
  simp only [pcell, List.mem_cons, List.not_mem_nil, or_false] at hv
  rcases hv with rfl | rfl <;> rfl
theorem prw_all1 {P : PL} : ((prw P).all fun x => x.oneCell') = true := List.all_eq_true.2 prw_one
theorem prw_tk {P : PL} {j : Nat} (hj : j ≤ P.length) : List.take (j * 2) (prw (P.take j)) = prw (P.take j) := List.take_of_length_le (by rw [prw_len, List.length_take]; omega)
theorem prw_dk {P : PL} {j : Nat} (hj : j ≤ P.length) : List.take ((P.length - j) * 2) (List.drop (j * 2) (prw P)) = prw (P.drop j) := by
  rw [prw_drop hj]; exact List.take_of_length_le (by rw [prw_len, List.length_drop]; exact Nat.le_refl _)
theorem prw_cons {P : PL} {s t : ByteArray} : prw ((s, t) :: P) = [Value.string s, Value.string t] ++ prw P := rfl
theorem rputW {P : PL} {s t : ByteArray} (hP : P.length ≤ 64) : fnVC CT mrput [.sl 1 0 P.length 2, .agg [.v (.string s), .v (.string t)]] ⟨[(1, some ⟨false, .pl (prw P)⟩)], x⟩ 2 fun v H' n' => Sub 2 ⟨[(0, .sl 2 0 (putP P s t).length 2)], ⟨[(2, some ⟨true, .pl (prw (putP P s t))⟩)], x⟩, 3⟩ ⟨[(0, v)], H', n'⟩ := by
  unfold mrput
  have hcl := cnt_le (P := P) (s := s)
  have hput := put_cnt (P := P) (s := s) (t := t)
  simp -implicitDefEqProofs only [↓fnVC, initTm]
  simp -implicitDefEqProofs only [go_sem]
  refine loop_fam (fun (j : Nat) => j ≤ cntP P s) (fun j => ⟨[(0, .sl 1 0 P.length 2), (3, .ptr 2 0), (5, .sl 3 0 j 2), (6, .v (.int .i64 j))], ⟨[(1, some ⟨false, .pl (prw P)⟩), (2, some ⟨true, .sv [.v (.string s), .v (.string t)]⟩), (3, some ⟨true, .pl (prw (P.take j))⟩)], x⟩, 4⟩) (fun j => cntP P s - j) 0 (Nat.zero_le _) ?_ ?_
  · refine sub_mk [(3, 0)] rfl rfl rfl ?_
    simp only [tmSub, hpSub, objSub, eqTm, eqHp, rn, lk, SV.ren, SV.renC, SV.renB, SV.renA, ren_ints, ren_strs, ren_pl, ren_svs, SV.v.injEq, Value.int.injEq, Body.ints.injEq, SV.ptr.injEq, SV.sl.injEq, Value.string.injEq, Value.bool.injEq, List.map_cons, List.map_nil, forall_const, Nat.reduceLT, Nat.lt_add_one, imp_self, true_and, and_true, and_self, ob_some, get_mk, lk_cons, ↓reduceIte, Nat.reduceEqDiff, ne_eq, not_true_eq_false, not_false_eq_true, Nat.one_ne_zero, Nat.zero_ne_one, Nat.succ_ne_self, Nat.reduceAdd, Bool.false_eq_true, false_implies, implies_true, reduceCtorEq]
    repeat' (first | rfl | apply And.intro)
  · intro j hj
    simp -implicitDefEqProofs only [go_sem]
    have w2 : IntKind.i64.wrap ((j : Int) + 1) = ((j + 1 : Nat) : Int) := by rw [wrap_i64 (by omega) (by omega)]; omega
    by_cases c1 : j < cntP P s
    · have a1 : decide ((j : Int) < (P.length : Int)) = true := decide_eq_true (by omega)
      have g0 := prw_get0 (P := P) (j := j) (by omega)
      have gr := prw_at (P := P) (j := j) (by omega)
      have a2 : slt (P.getD j (.empty, .empty)).1 s = true := by rw [slt_ltN]; exact cnt_lt c1
      simp -implicitDefEqProofs only [go_sem, a1, g0]
      refine ⟨by omega, ?_⟩
      simp -implicitDefEqProofs only [go_sem, a2, gr]
      have k1 := prw_tk (P := P) (j := j) (by omega)
      have hp1 : (P.take (j + 1)) = P.take j ++ [P.getD j (.empty, .empty)] := by
        rw [List.take_add_one, List.getElem?_eq_getElem (by omega), List.getD_eq_getElem?_getD, List.getElem?_eq_getElem (by omega)]; rfl
      refine ⟨by omega, by rw [prw_len]; omega, rfl, by omega, by omega, by rw [prw_len, List.length_take]; omega, Nat.le_refl _, rfl, ?_⟩
      simp -implicitDefEqProofs only [go_sem, w2]
      refine kLoop_mk (j + 1) (by omega) (by omega) ?_
      refine sub_mk [(3, 5)] rfl rfl rfl ?_
      simp only [tmSub, hpSub, objSub, eqTm, eqHp, rn, lk, SV.ren, SV.renC, SV.renB, SV.renA, ren_ints, ren_strs, ren_pl, ren_svs, SV.v.injEq, Value.int.injEq, Body.ints.injEq, SV.ptr.injEq, SV.sl.injEq, Value.string.injEq, Value.bool.injEq, List.map_cons, List.map_nil, forall_const, Nat.reduceLT, Nat.lt_add_one, imp_self, true_and, and_true, and_self, ob_some, get_mk, lk_cons, ↓reduceIte, Nat.reduceEqDiff, ne_eq, not_true_eq_false, not_false_eq_true, Nat.one_ne_zero, Nat.zero_ne_one, Nat.succ_ne_self, Nat.reduceAdd, Bool.false_eq_true, false_implies, implies_true, reduceCtorEq]
      rw [hp1, prw_app, k1]
      exact ⟨w2, rfl⟩
    · have e1 : j = cntP P s := by omega
      by_cases c2 : j < P.length
      · have a1 : decide ((j : Int) < (P.length : Int)) = true := decide_eq_true (by omega)
        have g0 := prw_get0 (P := P) (j := j) (by omega)
        have a2 : slt (P.getD j (.empty, .empty)).1 s = false := by rw [slt_ltN, e1]; exact cnt_ge (by omega)
        simp -implicitDefEqProofs only [go_sem, a1, g0]
        refine ⟨by omega, ?_⟩
        simp -implicitDefEqProofs only [go_sem, a2]
        have k1 := prw_tk (P := P) (j := j) (by omega)
        refine ⟨by omega, by omega, by rw [prw_len, List.length_take]; omega, ?_⟩
        simp -implicitDefEqProofs only [go_sem, a1, g0, k1]
        refine ⟨by omega, ?_⟩
        refine condK_bb (fun e => ?_) (fun e => ?_)
        · have e2 := seq_eq e
          have k2 := prw_dk (P := P) (j := j + 1) (by omega)
          rw [if_pos ⟨by omega, by rw [← e1]; exact e2⟩, ← e1] at hput
          have hpl : (putP P s t).length = j + 1 + (P.length - (j + 1)) := by rw [hput, List.length_append, List.length_cons, List.length_take, List.length_drop]; omega
          simp -implicitDefEqProofs only [go_sem, w2, k2]
          refine ⟨⟨by omega, by omega, by omega⟩, by omega, by omega, by rw [List.length_append, prw_len, List.length_take]; simp only [List.length_cons, List.length_nil]; omega, by rw [prw_len]; omega, prw_all1, ?_⟩
          refine sub_mk [(2, 6)] rfl rfl rfl ?_
          simp only [tmSub, hpSub, objSub, eqTm, eqHp, rn, lk, SV.ren, SV.renC, SV.renB, SV.renA, ren_ints, ren_strs, ren_pl, ren_svs, SV.v.injEq, Value.int.injEq, Body.ints.injEq, SV.ptr.injEq, SV.sl.injEq, Value.string.injEq, Value.bool.injEq, List.map_cons, List.map_nil, forall_const, Nat.reduceLT, Nat.lt_add_one, imp_self, true_and, and_true, and_self, ob_some, get_mk, lk_cons, ↓reduceIte, Nat.reduceEqDiff, ne_eq, not_true_eq_false, not_false_eq_true, Nat.one_ne_zero, Nat.zero_ne_one, Nat.succ_ne_self, Nat.reduceAdd, Bool.false_eq_true, false_implies, implies_true, reduceCtorEq]
          rw [hpl, hput, prw_app, prw_cons, List.take_of_length_le (by rw [List.length_append, prw_len, List.length_take]; simp only [List.length_cons, List.length_nil]; omega), List.append_assoc]
          exact ⟨rfl, rfl⟩
        · have e2 := seq_nq e
          have k2 := prw_dk (P := P) (j := j) (by omega)
          rw [if_neg (fun h => e2 (by rw [e1]; exact h.2)), Nat.add_zero, ← e1] at hput
          have hpl : (putP P s t).length = j + 1 + (P.length - j) := by rw [hput, List.length_append, List.length_cons, List.length_take, List.length_drop]; omega
          simp -implicitDefEqProofs only [go_sem, k2]
          refine ⟨⟨by omega, by omega, by omega⟩, by omega, by omega, by rw [List.length_append, prw_len, List.length_take]; simp only [List.length_cons, List.length_nil]; omega, by rw [prw_len]; omega, prw_all1, ?_⟩
          refine sub_mk [(2, 6)] rfl rfl rfl ?_
          simp only [tmSub, hpSub, objSub, eqTm, eqHp, rn, lk, SV.ren, SV.renC, SV.renB, SV.renA, ren_ints, ren_strs, ren_pl, ren_svs, SV.v.injEq, Value.int.injEq, Body.ints.injEq, SV.ptr.injEq, SV.sl.injEq, Value.string.injEq, Value.bool.injEq, List.map_cons, List.map_nil, forall_const, Nat.reduceLT, Nat.lt_add_one, imp_self, true_and, and_true, and_self, ob_some, get_mk, lk_cons, ↓reduceIte, Nat.reduceEqDiff, ne_eq, not_true_eq_false, not_false_eq_true, Nat.one_ne_zero, Nat.zero_ne_one, Nat.succ_ne_self, Nat.reduceAdd, Bool.false_eq_true, false_implies, implies_true, reduceCtorEq]
          rw [hpl, hput, prw_app, prw_cons, List.take_of_length_le (by rw [List.length_append, prw_len, List.length_take]; simp only [List.length_cons, List.length_nil]; omega), List.append_assoc]
          exact ⟨rfl, rfl⟩
      · have a1 : decide ((j : Int) < (P.length : Int)) = false := decide_eq_false (by omega)
        have k1 := prw_tk (P := P) (j := j) (by omega)
        have k2 := prw_dk (P := P) (j := j) (by omega)
        rw [if_neg (fun h => by omega), Nat.add_zero, ← e1] at hput
        have hpl : (putP P s t).length = j + 1 + (P.length - j) := by rw [hput, List.length_append, List.length_cons, List.length_take, List.length_drop]; omega
        simp -implicitDefEqProofs only [go_sem, a1, k1, k2]
        refine ⟨by omega, by omega, by rw [prw_len, List.length_take]; omega, by omega, by omega, by omega, by rw [List.length_append, prw_len, List.length_take]; simp only [List.length_cons, List.length_nil]; omega, by rw [prw_len]; omega, prw_all1, ?_⟩
        refine sub_mk [(2, 6)] rfl rfl rfl ?_
        simp only [tmSub, hpSub, objSub, eqTm, eqHp, rn, lk, SV.ren, SV.renC, SV.renB, SV.renA, ren_ints, ren_strs, ren_pl, ren_svs, SV.v.injEq, Value.int.injEq, Body.ints.injEq, SV.ptr.injEq, SV.sl.injEq, Value.string.injEq, Value.bool.injEq, List.map_cons, List.map_nil, forall_const, Nat.reduceLT, Nat.lt_add_one, imp_self, true_and, and_true, and_self, ob_some, get_mk, lk_cons, ↓reduceIte, Nat.reduceEqDiff, ne_eq, not_true_eq_false, not_false_eq_true, Nat.one_ne_zero, Nat.zero_ne_one, Nat.succ_ne_self, Nat.reduceAdd, Bool.false_eq_true, false_implies, implies_true, reduceCtorEq]
        rw [hpl, hput, prw_app, prw_cons, List.take_of_length_le (by rw [List.length_append, prw_len, List.length_take]; simp only [List.length_cons, List.length_nil]; omega), List.append_assoc]
        exact ⟨rfl, rfl⟩
end
section
/- Cells: the document's Put, Drop, Undo, Bytes. -/
set_option linter.unusedVariables false
set_option linter.unusedSimpArgs false
set_option maxRecDepth 100000
open Go.Proofs
variable {H : Hp} {n : Nat} {x : Nat → Option SO} {i D M W : Nat} {d d' : Fd} {C C' : Ce}
theorem rputS {P : PL} {s t : ByteArray} {u : Bool} (hg : H.get M = some ⟨u, .pl (prw P)⟩) (hM : 0 < M) (hP : P.length ≤ 64) (hn : n + 1 ≤ 1000) {m : Nat} (hm : m = P.length) {Q : PL} (hQ : putP P s t = Q) :
    SpecAt Tryz.prog nrput [.sl M 0 m 2, .agg [.v (.string s), .v (.string t)]] H n (.sl n 0 Q.length 2) ⟨(n, some ⟨true, .pl (prw Q)⟩) :: H.l, H.x⟩ (n + 1) := by
  subst hm; subst hQ
  have := lift (n := n) (okT.spec trput (rputW (x := H.x) (s := s) (t := t) hP)) [(1, M)] rfl rfl rfl (by omega) rfl rfl
    ⟨sub_ro rfl hM hg rfl, trivial⟩ (by simp [apartB, apart1, rn, lk]) (by simp [wrNZ, rn, lk]) (by omega)
  exact this
structure RcAt (H : Hp) (C : Ce) (i D M W : Nat) : Prop where
  cell : H.get i = some ⟨true, rcellB C D M W⟩
  now : ∃ u, H.get M = some ⟨u, rowP C.now⟩
  was : ∃ u, H.get W = some ⟨u, rowP C.was⟩
  nz : (0 < i ∧ 0 < D ∧ 0 < M ∧ 0 < W) ∧ i < 1000 ∧ i ≠ M ∧ i ≠ W
theorem ids4 {lc : List (Nat × Option SO)} {i D M W n : Nat} (hD : idOK n D = true) (hW : idOK n W = true) (h1 : (lk lc 1).isSome = true := by rfl) (h3 : (lk lc 3).isSome = true := by rfl) : ∀ k, 0 < k → k < 5 → (lk lc k).isSome = true ∨ idOK n (rn [(1, i), (2, D), (3, M), (4, W)] k) = true := by
  intro k h0 h5
  have hc : k = 1 ∨ k = 2 ∨ k = 3 ∨ k = 4 := by omega
  rcases hc with rfl | rfl | rfl | rfl
  · exact .inl h1
  · exact .inr hD
  · exact .inl h3
  · exact .inr hW
theorem rgetS {s : ByteArray} {u : Bool} {m w : Nat} {P : PL} (hi : H.get i = some ⟨u, rcL C m w D M W⟩) {u2 : Bool} (hM : H.get M = some ⟨u2, .pl (prw P)⟩) (h0 : 0 < i ∧ 0 < M) (hm : m = P.length) (hP : m ≤ 64) (hid : idOK n D = true ∧ idOK n W = true) {o : Option ByteArray} (ho : lkP P s = o) :
    SpecAt Tryz.prog nrCGet [.ptr i 0, .v (.string s)] H n (lkV o) H n := by
  subst ho
  have := liftD (n := n) (okT.spec trCGet (rgetW (x := H.x) (C := C) (w := w) (s := s) hm hP)) [(1, i), (2, D), (3, M), (4, W)] rfl (ids4 hid.1 hid.2) rfl (by omega) rfl rfl
    ⟨sub_ro rfl h0.1 hi rfl, sub_ro rfl h0.2 hM rfl, trivial⟩ (by simp [apartB, apart1, rn, lk]) (by simp [wrNZ, rn, lk]) (by omega)
  exact this
theorem rgetC {s : ByteArray} (h : RcAt H C i D M W) (hid : idOK n D = true ∧ idOK n W = true) (hE : Es C.now) : SpecAt Tryz.prog nrCGet [.ptr i 0, .v (.string s)] H n (getV C.now s) H n := by
  obtain ⟨h1, ⟨u, h2⟩, h3, ⟨p1, p2, p3, p4⟩, p5⟩ := h
  rw [getV_prs hE]
  exact rgetS h1 h2 ⟨p1, p3⟩ prs_len.symm hE.len hid rfl
def rcH (C : Ce) (x : Nat → Option SO) : Hp := ⟨[(1, some ⟨true, rcellB C 2 3 4⟩), (3, some ⟨false, rowP C.now⟩), (4, some ⟨false, rowP C.was⟩)], x⟩
def rcP (i D M W : Nat) : List (Nat × Nat) := [(1, i), (2, D), (3, M), (4, W)]
theorem RcAt.sub (h : RcAt H C i D M W) : hpSub (rcP i D M W) H (rcH C x).l := by
  obtain ⟨h1, ⟨u2, h2⟩, ⟨u3, h3⟩, ⟨p1, p2, p3, p4⟩, p5, p6⟩ := h
  exact ⟨sub_wr rfl p1 p5 h1 rfl, sub_ro rfl p3 h2 rfl, sub_ro rfl p4 h3 rfl, trivial⟩
theorem RcAt.ap (h : RcAt H C i D M W) : apartB (rcP i D M W) (rcH C x).l (rcH C x).l = true := by
  obtain ⟨h1, h2, h3, h4, p5, p6, p7⟩ := h
  simp [rcH, rcP, apartB, apart1, rn, lk, p6, p7, Ne.symm p6, Ne.symm p7]
theorem RcAt.wn (h : RcAt H C i D M W) : wrNZ (rcP i D M W) (rcH C x).l = true := by
  obtain ⟨h1, h2, h3, h4, p5, p6, p7⟩ := h
  have := h4.1
  simp [rcH, rcP, wrNZ, rn, lk]; omega
theorem rPutEW {s t : ByteArray} (hE : Es C.now) {e : Int} (he0 : putE C.now s t = e) (hne : e ≠ 0) :
    fnVC CT mrCPut [.ptr 1 0, .v (.string s), .v (.string t)] (rcH C x) 5 fun v H' n' => Sub 5 ⟨[(0, .v (.int .i64 e))], ⟨[(1, some ⟨true, rcellB C 2 3 4⟩)], x⟩, 5⟩ ⟨[(0, v)], H', n'⟩ := by
  have hlen := hE.len
  subst he0
  unfold mrCPut
  rw [show rcH C x = ⟨[(1, some ⟨true, rcellB C 2 3 4⟩), (3, some ⟨false, rowP C.now⟩), (4, some ⟨false, rowP C.was⟩)], x⟩ from rfl]
  simp -implicitDefEqProofs only [↓fnVC, initTm]
  simp -implicitDefEqProofs only [go_sem]
  refine at_call trCGet (rgetC (C := C) (D := 2) (M := 3) (W := 4) ⟨by rfl, ⟨_, by rfl⟩, ⟨_, by rfl⟩, by decide⟩ (by decide) hE) ?_
  unfold getV
  simp -implicitDefEqProofs only [go_sem]
  by_cases c1 : s.size = 0
  · have a1 : seq s ⟨#[]⟩ = true := seq_emp c1
    simp -implicitDefEqProofs only [go_sem, a1]
    rw [putE_1 (.inl c1)]
    refine sub_mk [] rfl rfl rfl ?_
    simp only [tmSub, hpSub, objSub, eqTm, eqHp, rn, lk, SV.ren, SV.renC, SV.renB, SV.renA, ren_ints, ren_strs, ren_pl, ren_svs, SV.v.injEq, Value.int.injEq, Body.ints.injEq, SV.ptr.injEq, SV.sl.injEq, Value.string.injEq, Value.bool.injEq, List.map_cons, List.map_nil, forall_const, Nat.reduceLT, Nat.lt_add_one, imp_self, true_and, and_true, and_self, ob_some, get_mk, lk_cons, ↓reduceIte, Nat.reduceEqDiff, ne_eq, not_true_eq_false, not_false_eq_true, Nat.one_ne_zero, Nat.zero_ne_one, Nat.succ_ne_self, Nat.reduceAdd, Bool.false_eq_true, false_implies, implies_true, reduceCtorEq, rcellB, rcL, rowP]
    repeat' (first | rfl | apply And.intro)
  have a1 : seq s ⟨#[]⟩ = false := seq_nemp c1
  by_cases c2 : 32 < s.size
  · have a2 : decide ((s.size : Int) > 32) = true := decide_eq_true (by omega)
    simp -implicitDefEqProofs only [go_sem, a1, a2]
    rw [putE_1 (.inr c2)]
    refine sub_mk [] rfl rfl rfl ?_
    simp only [tmSub, hpSub, objSub, eqTm, eqHp, rn, lk, SV.ren, SV.renC, SV.renB, SV.renA, ren_ints, ren_strs, ren_pl, ren_svs, SV.v.injEq, Value.int.injEq, Body.ints.injEq, SV.ptr.injEq, SV.sl.injEq, Value.string.injEq, Value.bool.injEq, List.map_cons, List.map_nil, forall_const, Nat.reduceLT, Nat.lt_add_one, imp_self, true_and, and_true, and_self, ob_some, get_mk, lk_cons, ↓reduceIte, Nat.reduceEqDiff, ne_eq, not_true_eq_false, not_false_eq_true, Nat.one_ne_zero, Nat.zero_ne_one, Nat.succ_ne_self, Nat.reduceAdd, Bool.false_eq_true, false_implies, implies_true, reduceCtorEq, rcellB, rcL, rowP]
    repeat' (first | rfl | apply And.intro)
  have a2 : decide ((s.size : Int) > 32) = false := decide_eq_false (by omega)
  simp -implicitDefEqProofs only [go_sem, a1, a2]
  by_cases c3 : 65535 < t.size
  · have a3 : decide ((t.size : Int) > 65535) = true := decide_eq_true (by omega)
    have he : putE C.now s t = 4 := by unfold putE; rw [if_neg (by omega), if_pos c3]
    simp -implicitDefEqProofs only [go_sem, a3]
    rw [he]
    refine sub_mk [] rfl rfl rfl ?_
    simp only [tmSub, hpSub, objSub, eqTm, eqHp, rn, lk, SV.ren, SV.renC, SV.renB, SV.renA, ren_ints, ren_strs, ren_pl, ren_svs, SV.v.injEq, Value.int.injEq, Body.ints.injEq, SV.ptr.injEq, SV.sl.injEq, Value.string.injEq, Value.bool.injEq, List.map_cons, List.map_nil, forall_const, Nat.reduceLT, Nat.lt_add_one, imp_self, true_and, and_true, and_self, ob_some, get_mk, lk_cons, ↓reduceIte, Nat.reduceEqDiff, ne_eq, not_true_eq_false, not_false_eq_true, Nat.one_ne_zero, Nat.zero_ne_one, Nat.succ_ne_self, Nat.reduceAdd, Bool.false_eq_true, false_implies, implies_true, reduceCtorEq, rcellB, rcL, rowP]
    repeat' (first | rfl | apply And.intro)
  have a3 : decide ((t.size : Int) > 65535) = false := decide_eq_false (by omega)
  unfold rcellB rcL
  simp -implicitDefEqProofs only [go_sem, a3]
  by_cases c4 : (luS C.now s).isSome = false ∧ 64 ≤ C.now.length
  · have a4 : decide ((C.now.length : Int) ≥ 64) = true := decide_eq_true (by omega)
    have he : putE C.now s t = 6 := by unfold putE; rw [if_neg (by omega), if_neg c3, if_pos c4]
    have a5 := c4.1
    simp -implicitDefEqProofs only [go_sem, a4, a5]
    rw [he]
    refine sub_mk [] rfl rfl rfl ?_
    simp only [tmSub, hpSub, objSub, eqTm, eqHp, rn, lk, SV.ren, SV.renC, SV.renB, SV.renA, ren_ints, ren_strs, ren_pl, ren_svs, SV.v.injEq, Value.int.injEq, Body.ints.injEq, SV.ptr.injEq, SV.sl.injEq, Value.string.injEq, Value.bool.injEq, List.map_cons, List.map_nil, forall_const, Nat.reduceLT, Nat.lt_add_one, imp_self, true_and, and_true, and_self, ob_some, get_mk, lk_cons, ↓reduceIte, Nat.reduceEqDiff, ne_eq, not_true_eq_false, not_false_eq_true, Nat.one_ne_zero, Nat.zero_ne_one, Nat.succ_ne_self, Nat.reduceAdd, Bool.false_eq_true, false_implies, implies_true, reduceCtorEq, rcellB, rcL, rowP]
    repeat' (first | rfl | apply And.intro)
  have he : putE C.now s t = 0 := by unfold putE; rw [if_neg (by omega), if_neg c3, if_neg c4]
  exact absurd he hne
theorem rPutW {s t : ByteArray} (hE : Es C.now) (he : putE C.now s t = 0) :
    fnVC CT mrCPut [.ptr 1 0, .v (.string s), .v (.string t)] (rcH C x) 5 fun v H' n' => Sub 5 ⟨[(0, .v (.int .i64 0))], ⟨[(1, some ⟨true, rcellB { C with now := putEs C.now s t } 2 5 4⟩), (5, some ⟨true, rowP (putEs C.now s t)⟩)], x⟩, 6⟩ ⟨[(0, v)], H', n'⟩ := by
  have hlen := hE.len
  obtain ⟨c1, c2, c3, c4⟩ : s.size ≠ 0 ∧ ¬ 32 < s.size ∧ ¬ 65535 < t.size ∧ ¬ ((luS C.now s).isSome = false ∧ 64 ≤ C.now.length) := by
    unfold putE at he
    split at he
    · cases he
    split at he
    · cases he
    split at he
    · cases he
    · rename_i q1 q2 q3
      exact ⟨by omega, by omega, q2, q3⟩
  have a1 : seq s ⟨#[]⟩ = false := seq_nemp c1
  have a2 : decide ((s.size : Int) > 32) = false := decide_eq_false (by omega)
  have a3 : decide ((t.size : Int) > 65535) = false := decide_eq_false (by omega)
  unfold mrCPut
  rw [show rcH C x = ⟨[(1, some ⟨true, rcellB C 2 3 4⟩), (3, some ⟨false, rowP C.now⟩), (4, some ⟨false, rowP C.was⟩)], x⟩ from rfl]
  simp -implicitDefEqProofs only [↓fnVC, initTm]
  simp -implicitDefEqProofs only [go_sem]
  refine at_call trCGet (rgetC (C := C) (D := 2) (M := 3) (W := 4) ⟨by rfl, ⟨_, by rfl⟩, ⟨_, by rfl⟩, by decide⟩ (by decide) hE) ?_
  unfold getV rcellB rcL
  simp -implicitDefEqProofs only [go_sem, a1, a2, a3]
  have hes : putEs C.now s t = upS C.now s (.agg ⟨[.string t]⟩) := if_pos he
  have hE2 := hE.put s t
  have hpr : putP (prs C.now) s t = prs (putEs C.now s t) := by rw [hes] at hE2 ⊢; exact (prs_up hE hE2).symm
  have hpl : (prs (putEs C.now s t)).length = (putEs C.now s t).length := prs_len
  cases a5 : (luS C.now s).isSome with
  | true =>
    simp -implicitDefEqProofs only [go_sem, a5]
    refine at_call trput (rputS (M := 3) (u := false) (P := prs C.now) (by rfl) (by decide) (by rw [prs_len]; exact hlen) (by decide) prs_len.symm hpr) ?_
    simp -implicitDefEqProofs only [go_sem, hpl]
    refine sub_mk [] rfl rfl rfl ?_
    simp only [tmSub, hpSub, objSub, eqTm, eqHp, rn, lk, SV.ren, SV.renC, SV.renB, SV.renA, ren_ints, ren_strs, ren_pl, ren_svs, SV.v.injEq, Value.int.injEq, Body.ints.injEq, SV.ptr.injEq, SV.sl.injEq, Value.string.injEq, Value.bool.injEq, List.map_cons, List.map_nil, forall_const, Nat.reduceLT, Nat.lt_add_one, imp_self, true_and, and_true, and_self, ob_some, get_mk, lk_cons, ↓reduceIte, Nat.reduceEqDiff, ne_eq, not_true_eq_false, not_false_eq_true, Nat.one_ne_zero, Nat.zero_ne_one, Nat.succ_ne_self, Nat.reduceAdd, Bool.false_eq_true, false_implies, implies_true, reduceCtorEq, rcellB, rcL, rowP]
    repeat' (first | rfl | apply And.intro)
  | false =>
    have a4 : decide ((C.now.length : Int) ≥ 64) = false := decide_eq_false (fun h => c4 ⟨a5, by omega⟩)
    simp -implicitDefEqProofs only [go_sem, a4, a5]
    refine at_call trput (rputS (M := 3) (u := false) (P := prs C.now) (by rfl) (by decide) (by rw [prs_len]; exact hlen) (by decide) prs_len.symm hpr) ?_
    simp -implicitDefEqProofs only [go_sem, hpl]
    refine sub_mk [] rfl rfl rfl ?_
    simp only [tmSub, hpSub, objSub, eqTm, eqHp, rn, lk, SV.ren, SV.renC, SV.renB, SV.renA, ren_ints, ren_strs, ren_pl, ren_svs, SV.v.injEq, Value.int.injEq, Body.ints.injEq, SV.ptr.injEq, SV.sl.injEq, Value.string.injEq, Value.bool.injEq, List.map_cons, List.map_nil, forall_const, Nat.reduceLT, Nat.lt_add_one, imp_self, true_and, and_true, and_self, ob_some, get_mk, lk_cons, ↓reduceIte, Nat.reduceEqDiff, ne_eq, not_true_eq_false, not_false_eq_true, Nat.one_ne_zero, Nat.zero_ne_one, Nat.succ_ne_self, Nat.reduceAdd, Bool.false_eq_true, false_implies, implies_true, reduceCtorEq, rcellB, rcL, rowP]
    repeat' (first | rfl | apply And.intro)
theorem rPutE {s t : ByteArray} (h : RcAt H C i D M W) (hid : idOK n D = true ∧ idOK n W = true) (hE : Es C.now) {e : Int} (he : putE C.now s t = e) (hne : e ≠ 0) :
    SpecAt Tryz.prog nrCPut [.ptr i 0, .v (.string s), .v (.string t)] H n (.v (.int .i64 e)) ⟨(i, some ⟨true, rcellB C D M W⟩) :: H.l, H.x⟩ n := by
  have := liftD (n := n) (okT.spec trCPut (rPutEW (x := H.x) hE he hne)) (rcP i D M W) rfl (ids4 hid.1 hid.2) rfl (by omega) rfl rfl (h.sub (x := H.x)) (h.ap (x := H.x)) (h.wn (x := H.x)) (by omega)
  exact this
theorem rPutS {s t : ByteArray} (h : RcAt H C i D M W) (hid : idOK n D = true ∧ idOK n W = true) (hE : Es C.now) (he : putE C.now s t = 0) (hn : n + 1 ≤ 1000) {es : List (Value × Value)} (hes : putEs C.now s t = es) :
    SpecAt Tryz.prog nrCPut [.ptr i 0, .v (.string s), .v (.string t)] H n (.v (.int .i64 0)) ⟨(i, some ⟨true, rcellB { C with now := es } D n W⟩) :: (n, some ⟨true, rowP es⟩) :: H.l, H.x⟩ (n + 1) := by
  subst hes
  have := liftD (n := n) (okT.spec trCPut (rPutW (x := H.x) hE he)) (rcP i D M W) rfl (ids4 hid.1 hid.2) rfl (by omega) rfl rfl (h.sub (x := H.x)) (h.ap (x := H.x)) (h.wn (x := H.x)) (by omega)
  exact this
theorem lkP_drop_len {s : ByteArray} : ∀ {P : PL}, decide ((dropP P s).length < P.length) = (lkP P s).isSome
  | [] => rfl
  | p :: P => by
    unfold dropP lkP
    by_cases c : p.1 = s
    · rw [if_pos c, List.filter_cons_of_neg (by simp [c])]
      have := List.length_filter_le (fun p : ByteArray × ByteArray => !decide (p.1 = s)) P
      exact decide_eq_true (by rw [List.length_cons]; omega)
    · rw [if_neg c, List.filter_cons_of_pos (by simp [c]), ← lkP_drop_len (P := P)]
      simp only [List.length_cons, Nat.add_lt_add_iff_right]
      rfl
theorem dropP_snoc {P : PL} {s : ByteArray} {j : Nat} (hj : j < P.length) : dropP (P.take (j + 1)) s = dropP (P.take j) s ++ if (P.getD j pE).1 = s then [] else [P.getD j pE] := by
  rw [List.take_add_one, List.getElem?_eq_getElem hj, List.getD_eq_getElem?_getD, List.getElem?_eq_getElem hj]
  unfold dropP
  rw [List.filter_append]
  congr 1
  show List.filter _ [P[j]] = if P[j].1 = s then [] else [P[j]]
  by_cases c : P[j].1 = s
  · rw [if_pos c, List.filter_cons_of_neg (by simp [c])]; rfl
  · rw [if_neg c, List.filter_cons_of_pos (by simp [c])]; rfl
theorem rDropW {s : ByteArray} {P : PL} {m w : Nat} (hm : m = P.length) (hP : m ≤ 64) :
    fnVC CT mrCDrop [.ptr 1 0, .v (.string s)] ⟨[(1, some ⟨true, rcL C m w 2 3 4⟩), (3, some ⟨false, .pl (prw P)⟩), (4, some ⟨false, rowP C.was⟩)], x⟩ 5 fun v H' n' => Sub 5 ⟨[(0, .v (.bool (lkP P s).isSome))], ⟨[(1, some ⟨true, rcL C (dropP P s).length w 2 5 4⟩), (5, some ⟨true, .pl (prw (dropP P s))⟩)], x⟩, 6⟩ ⟨[(0, v)], H', n'⟩ := by
  unfold mrCDrop rcL
  simp -implicitDefEqProofs only [↓fnVC, initTm]
  simp -implicitDefEqProofs only [go_sem]
  refine loop_fam (fun (j : Nat) => j ≤ m) (fun j => ⟨[(0, .ptr 1 0), (1, .v (.string s)), (5, .sl 5 0 (dropP (P.take j) s).length 2), (6, .v (.int .i64 j))], ⟨[(1, some ⟨true, rcL C m w 2 3 4⟩), (3, some ⟨false, .pl (prw P)⟩), (4, some ⟨false, rowP C.was⟩), (5, some ⟨true, .pl (prw (dropP (P.take j) s))⟩)], x⟩, 6⟩) (fun j => m - j) 0 (Nat.zero_le _) ?_ ?_
  · refine sub_mk [(5, 0)] rfl rfl rfl ?_
    simp only [tmSub, hpSub, objSub, eqTm, eqHp, rn, lk, SV.ren, SV.renC, SV.renB, SV.renA, ren_ints, ren_strs, ren_pl, ren_svs, SV.v.injEq, Value.int.injEq, Body.ints.injEq, SV.ptr.injEq, SV.sl.injEq, Value.string.injEq, Value.bool.injEq, List.map_cons, List.map_nil, forall_const, Nat.reduceLT, Nat.lt_add_one, imp_self, true_and, and_true, and_self, ob_some, get_mk, lk_cons, ↓reduceIte, Nat.reduceEqDiff, ne_eq, not_true_eq_false, not_false_eq_true, Nat.one_ne_zero, Nat.zero_ne_one, Nat.succ_ne_self, Nat.reduceAdd, Bool.false_eq_true, false_implies, implies_true, reduceCtorEq, rcL, rowP]
    repeat' (first | rfl | apply And.intro)
  · intro j hj
    have hsn := fun (h : j < P.length) => dropP_snoc (P := P) (s := s) h
    have hfl : (dropP (P.take j) s).length ≤ j := by
      have := List.length_filter_le (fun p : ByteArray × ByteArray => !decide (p.1 = s)) (P.take j)
      unfold dropP
      rw [List.length_take] at this
      omega
    unfold rcL
    simp -implicitDefEqProofs only [go_sem]
    refine condK_bb (fun c => ?_) (fun c => ?_)
    · have c1 : j < m := by have := of_decide_eq_true c; omega
      have g0 := prw_get0 (P := P) (j := j) (by omega)
      have gr := prw_at (P := P) (j := j) (by omega)
      have w2 : IntKind.i64.wrap ((j : Int) + 1) = ((j + 1 : Nat) : Int) := by rw [wrap_i64 (by omega) (by omega)]; omega
      replace hsn := hsn (by omega)
      simp -implicitDefEqProofs only [go_sem, c, g0]
      refine ⟨⟨by omega, by omega⟩, ?_⟩
      refine condK_bb (fun e => ?_) (fun e => ?_)
      · have e2 : (P.getD j (.empty, .empty)).1 ≠ s := by
          refine seq_nq ?_
          rw [Bool.not_eq_true'] at e; exact e
        rw [if_neg e2] at hsn
        have k1 : List.take ((dropP (P.take j) s).length * 2) (prw (dropP (P.take j) s)) = prw (dropP (P.take j) s) := List.take_of_length_le (by rw [prw_len]; exact Nat.le_refl _)
        simp -implicitDefEqProofs only [go_sem, gr, k1, w2]
        refine ⟨⟨by omega, by omega⟩, by rw [prw_len]; omega, rfl, by omega, by omega, by rw [prw_len]; omega, Nat.le_refl _, rfl, ?_⟩
        refine kLoop_mk (j + 1) (by omega) (by omega) ?_
        refine sub_mk [(5, 7)] rfl rfl rfl ?_
        simp only [tmSub, hpSub, objSub, eqTm, eqHp, rn, lk, SV.ren, SV.renC, SV.renB, SV.renA, ren_ints, ren_strs, ren_pl, ren_svs, SV.v.injEq, Value.int.injEq, Body.ints.injEq, SV.ptr.injEq, SV.sl.injEq, Value.string.injEq, Value.bool.injEq, List.map_cons, List.map_nil, forall_const, Nat.reduceLT, Nat.lt_add_one, imp_self, true_and, and_true, and_self, ob_some, get_mk, lk_cons, ↓reduceIte, Nat.reduceEqDiff, ne_eq, not_true_eq_false, not_false_eq_true, Nat.one_ne_zero, Nat.zero_ne_one, Nat.succ_ne_self, Nat.reduceAdd, Bool.false_eq_true, false_implies, implies_true, reduceCtorEq, hsn, rcL, rowP]
        refine ⟨by rw [List.length_append]; rfl, ?_⟩
        rw [prw_app]
        first | rfl | exact ⟨rfl, rfl⟩
      · have e2 : (P.getD j (.empty, .empty)).1 = s := by
          refine seq_eq ?_
          rw [Bool.not_eq_false'] at e; exact e
        rw [if_pos e2, List.append_nil] at hsn
        simp -implicitDefEqProofs only [go_sem, w2]
        refine kLoop_mk (j + 1) (by omega) (by omega) ?_
        refine sub_mk [] rfl rfl rfl ?_
        simp only [tmSub, hpSub, objSub, eqTm, eqHp, rn, lk, SV.ren, SV.renC, SV.renB, SV.renA, ren_ints, ren_strs, ren_pl, ren_svs, SV.v.injEq, Value.int.injEq, Body.ints.injEq, SV.ptr.injEq, SV.sl.injEq, Value.string.injEq, Value.bool.injEq, List.map_cons, List.map_nil, forall_const, Nat.reduceLT, Nat.lt_add_one, imp_self, true_and, and_true, and_self, ob_some, get_mk, lk_cons, ↓reduceIte, Nat.reduceEqDiff, ne_eq, not_true_eq_false, not_false_eq_true, Nat.one_ne_zero, Nat.zero_ne_one, Nat.succ_ne_self, Nat.reduceAdd, Bool.false_eq_true, false_implies, implies_true, reduceCtorEq, hsn, rcL]
        repeat' (first | rfl | apply And.intro)
    · have c1 : j = m := by have := of_decide_eq_false c; omega
      have e : P.take j = P := List.take_of_length_le (by omega)
      rw [e]
      have hl := lkP_drop_len (s := s) (P := P)
      have hd : decide (((dropP P s).length : Int) < (m : Int)) = (lkP P s).isSome := by
        rw [← hl, hm]; simp only [Int.ofNat_lt]
      simp -implicitDefEqProofs only [go_sem, c, hd]
      refine sub_mk [] rfl rfl rfl ?_
      simp only [tmSub, hpSub, objSub, eqTm, eqHp, rn, lk, SV.ren, SV.renC, SV.renB, SV.renA, ren_ints, ren_strs, ren_pl, ren_svs, SV.v.injEq, Value.int.injEq, Body.ints.injEq, SV.ptr.injEq, SV.sl.injEq, Value.string.injEq, Value.bool.injEq, List.map_cons, List.map_nil, forall_const, Nat.reduceLT, Nat.lt_add_one, imp_self, true_and, and_true, and_self, ob_some, get_mk, lk_cons, ↓reduceIte, Nat.reduceEqDiff, ne_eq, not_true_eq_false, not_false_eq_true, Nat.one_ne_zero, Nat.zero_ne_one, Nat.succ_ne_self, Nat.reduceAdd, Bool.false_eq_true, false_implies, implies_true, reduceCtorEq, rcL]
      repeat' (first | rfl | apply And.intro)
theorem rDropS {s : ByteArray} (h : RcAt H C i D M W) (hid : idOK n D = true ∧ idOK n W = true) (hE : Es C.now) (hn : n + 1 ≤ 1000) :
    SpecAt Tryz.prog nrCDrop [.ptr i 0, .v (.string s)] H n (.v (.bool (luS C.now s).isSome)) ⟨(i, some ⟨true, rcellB { C with now := dlS C.now s } D n W⟩) :: (n, some ⟨true, rowP (dlS C.now s)⟩) :: H.l, H.x⟩ (n + 1) := by
  have := liftD (n := n) (okT.spec trCDrop (rDropW (x := H.x) (C := C) (w := C.was.length) (P := prs C.now) (s := s) prs_len.symm hE.len)) (rcP i D M W) rfl (ids4 hid.1 hid.2) rfl (by omega) rfl rfl (h.sub (x := H.x)) (h.ap (x := H.x)) (h.wn (x := H.x)) (by omega)
  have e : (lkP (prs C.now) s).isSome = (luS C.now s).isSome := by rw [lk_prs' hE.keys]; cases luS C.now s <;> rfl
  rw [e, ← prs_dl hE, prs_len] at this
  exact this
theorem rUndoW : fnVC CT mrCUndo [.ptr 1 0] (rcH C x) 5 fun v H' n' => Sub 5 ⟨[(0, .tup [])], ⟨[(1, some ⟨true, rcellB { C with now := C.was } 2 4 4⟩)], x⟩, 5⟩ ⟨[(0, v)], H', n'⟩ := by
  unfold mrCUndo rcH rcellB rcL
  simp -implicitDefEqProofs only [↓fnVC, initTm]
  simp -implicitDefEqProofs only [go_sem]
  refine sub_mk [] rfl rfl rfl ?_
  simp only [tmSub, hpSub, objSub, eqTm, eqHp, rn, lk, SV.ren, SV.renC, SV.renB, SV.renA, ren_ints, ren_strs, ren_pl, ren_svs, SV.v.injEq, Value.int.injEq, Body.ints.injEq, SV.ptr.injEq, SV.sl.injEq, Value.string.injEq, Value.bool.injEq, List.map_cons, List.map_nil, forall_const, Nat.reduceLT, Nat.lt_add_one, imp_self, true_and, and_true, and_self, ob_some, get_mk, lk_cons, ↓reduceIte, Nat.reduceEqDiff, ne_eq, not_true_eq_false, not_false_eq_true, Nat.one_ne_zero, Nat.zero_ne_one, Nat.succ_ne_self, Nat.reduceAdd, Bool.false_eq_true, false_implies, implies_true, reduceCtorEq]
  repeat' (first | rfl | apply And.intro)
theorem rUndoS (h : RcAt H C i D M W) (hid : idOK n D = true ∧ idOK n W = true) : SpecAt Tryz.prog nrCUndo [.ptr i 0] H n (.tup []) ⟨(i, some ⟨true, rcellB { C with now := C.was } D W W⟩) :: H.l, H.x⟩ n := by
  have := liftD (n := n) (okT.spec trCUndo (rUndoW (x := H.x) (C := C))) (rcP i D M W) rfl (ids4 hid.1 hid.2) rfl (by omega) rfl rfl (h.sub (x := H.x)) (h.ap (x := H.x)) (h.wn (x := H.x)) (by omega)
  exact this
theorem rBytesW {es : List (Value × Value)} (h : Es es) : fnVC CT mrcBytes [.sl 1 0 es.length 2] ⟨[(1, some ⟨false, rowP es⟩)], x⟩ 2 fun v H' n' => Sub 2 ⟨[(0, .v (.string (encB es)))], ⟨[], x⟩, 2⟩ ⟨[(0, v)], H', n'⟩ := by
  have hlen := h.len
  have hpl := prs_len (es := es)
  unfold mrcBytes rowP
  simp -implicitDefEqProofs only [↓fnVC, initTm]
  simp -implicitDefEqProofs only [go_sem]
  refine at_call trWNumber (rwNum0S (i := 2) (k := 2) (y := es.length) (bad := false) (by rfl) (by decide) (by decide) (by decide) (by decide) (by omega) (fun _ => by omega)) ?_
  simp -implicitDefEqProofs only [go_sem]
  refine loop_fam (fun (j : Nat) => j ≤ es.length) (fun j => ⟨[(0, .sl 1 0 es.length 2), (3, .ptr 2 0), (4, .v (.int .i64 j))], ⟨[(1, some ⟨false, .pl (prw (prs es))⟩), (2, some (wrO 3 (encL es j).length false)), (3, some ⟨true, .ints .u8 (encL es j)⟩)], x⟩, 4⟩) (fun j => es.length - j) 0 (Nat.zero_le _) ?_ ?_
  · unfold wrO
    refine sub_mk [] rfl rfl rfl ?_
    simp only [tmSub, hpSub, objSub, eqTm, eqHp, rn, lk, SV.ren, SV.renC, SV.renB, SV.renA, ren_ints, ren_strs, ren_pl, ren_svs, SV.v.injEq, Value.int.injEq, Body.ints.injEq, SV.ptr.injEq, SV.sl.injEq, Value.string.injEq, Value.bool.injEq, List.map_cons, List.map_nil, forall_const, Nat.reduceLT, Nat.lt_add_one, imp_self, true_and, and_true, and_self, ob_some, get_mk, lk_cons, ↓reduceIte, Nat.reduceEqDiff, ne_eq, not_true_eq_false, not_false_eq_true, Nat.one_ne_zero, Nat.zero_ne_one, Nat.succ_ne_self, Nat.reduceAdd, Bool.false_eq_true, false_implies, implies_true, reduceCtorEq]
    repeat' (first | rfl | apply And.intro)
  · intro j hj
    simp -implicitDefEqProofs only [go_sem]
    refine condK_bb (fun c => ?_) (fun c => ?_)
    · have c1 : j < es.length := by have := of_decide_eq_true c; omega
      have hb := encL_len h hj
      obtain ⟨h1, h2, h3⟩ := h.at_ (nmAt_mem c1)
      have w2 : IntKind.i64.wrap ((j : Int) + 1) = ((j + 1 : Nat) : Int) := by rw [wrap_i64 (by omega) (by omega)]; omega
      have hg := prs_get c1
      have g0 := prw_get0 (P := prs es) (j := j) (by omega)
      have g1 := prw_get1 (P := prs es) (j := j) (by omega)
      rw [hg] at g0 g1
      simp -implicitDefEqProofs only [go_sem, c, g0]
      refine ⟨⟨by omega, by omega⟩, ?_⟩
      refine at_call trWText (rwTextS (i := 2) (r := 3) (s := nmAt es j) (bs := encL es j) (by omega) (by omega) (by rfl) (by rfl) (by decide) (by decide) (by decide) (by decide)) ?_
      simp -implicitDefEqProofs only [go_sem, g1]
      refine ⟨⟨by omega, by omega⟩, ?_⟩
      refine at_call trWText (rwTextS (i := 2) (r := 4) (s := tOf es (nmAt es j)) (bs := encL es j ++ (be (nmAt es j).size 2 ++ bts (nmAt es j))) (by omega) (by simp only [List.length_append, be_len, bts_len]; omega) (by rfl) (by rfl) (by decide) (by decide) (by decide) (by decide)) ?_
      simp -implicitDefEqProofs only [go_sem, w2]
      refine kLoop_mk (j + 1) (by omega) (by omega) ?_
      unfold wrO
      refine sub_mk [(3, 5)] rfl rfl rfl ?_
      simp only [tmSub, hpSub, objSub, eqTm, eqHp, rn, lk, SV.ren, SV.renC, SV.renB, SV.renA, ren_ints, ren_strs, ren_pl, ren_svs, SV.v.injEq, Value.int.injEq, Body.ints.injEq, SV.ptr.injEq, SV.sl.injEq, Value.string.injEq, Value.bool.injEq, List.map_cons, List.map_nil, forall_const, Nat.reduceLT, Nat.lt_add_one, imp_self, true_and, and_true, and_self, ob_some, get_mk, lk_cons, ↓reduceIte, Nat.reduceEqDiff, ne_eq, not_true_eq_false, not_false_eq_true, Nat.one_ne_zero, Nat.zero_ne_one, Nat.succ_ne_self, Nat.reduceAdd, Bool.false_eq_true, false_implies, implies_true, reduceCtorEq]
      repeat' (first | rfl | apply And.intro)
    · have c1 : j = es.length := by have := of_decide_eq_false c; omega
      subst c1
      have ht : List.take (encL es es.length).length (encL es es.length) = encL es es.length := List.take_length
      unfold wrO
      simp -implicitDefEqProofs only [go_sem, c, ht]
      refine sub_mk [] rfl rfl rfl ?_
      simp only [tmSub, hpSub, objSub, eqTm, eqHp, rn, lk, SV.ren, SV.renC, SV.renB, SV.renA, ren_ints, ren_strs, ren_pl, ren_svs, SV.v.injEq, Value.int.injEq, Body.ints.injEq, SV.ptr.injEq, SV.sl.injEq, Value.string.injEq, Value.bool.injEq, List.map_cons, List.map_nil, forall_const, Nat.reduceLT, Nat.lt_add_one, imp_self, true_and, and_true, and_self, ob_some, get_mk, lk_cons, ↓reduceIte, Nat.reduceEqDiff, ne_eq, not_true_eq_false, not_false_eq_true, Nat.one_ne_zero, Nat.zero_ne_one, Nat.succ_ne_self, Nat.reduceAdd, Bool.false_eq_true, false_implies, implies_true, reduceCtorEq]
      rfl
theorem rBytesS {es : List (Value × Value)} {u : Bool} (hg : H.get i = some ⟨u, rowP es⟩) (hi : 0 < i) (h : Es es) : SpecAt Tryz.prog nrcBytes [.sl i 0 es.length 2] H n (.v (.string (encB es))) H n := by
  have := lift_ro (n := n) (okT.spec trcBytes (rBytesW (x := H.x) h)) [(1, i)] rfl rfl rfl (by omega) rfl rfl
    ⟨sub_ro rfl hi hg rfl, trivial⟩ (by simp [apartB, apart1, rn, lk]) (by simp [wrNZ, rn, lk]) rfl
  exact this
end
section
/- Cells: the document's Commit. -/
set_option linter.unusedVariables false
set_option linter.unusedSimpArgs false
set_option maxRecDepth 100000
open Go.Proofs
variable {H : Hp} {n : Nat} {x : Nat → Option SO} {i D M W a b c : Nat} {d d' : Fd} {C C' : Ce}
def wrB (d : Fd) (k : Int) (s : ByteArray) (b : Bool) : Int × Fd := if b then thn (wrT d k s) baT else wrT d k s
def rwH (C : Ce) (m w : Nat) (d : Fd) (x : Nat → Option SO) : Hp := ⟨[(1, some ⟨true, rcL C m w 2 5 6⟩), (2, some ⟨true, refB d 3 4⟩), (3, some ⟨true, strB d.safe⟩), (4, some ⟨true, .pl (qrow d.pend)⟩)], x⟩
theorem rcwriteW {w0 m0 : Nat} {k : Int} {s : ByteArray} {bb : Bool} {m t : Nat} (hP : Pl d m t) (ht : t + 1 < 1000000) :
    fnVC CT mrcwrite [.ptr 1 0, .v (.int .i64 k), .v (.string s), .v (.bool bb)] (rwH C m0 w0 d x) 7 fun v H' n' => Sub 7 ⟨[(0, .v (.int .i64 (wrB d k s bb).1))], ⟨[(1, some ⟨true, rcL C m0 w0 2 5 6⟩), (2, some ⟨true, refB (wrB d k s bb).2 7 8⟩), (3, none), (4, none), (7, some ⟨true, strB (wrB d k s bb).2.safe⟩), (8, some ⟨true, .pl (qrow (wrB d k s bb).2.pend)⟩)], x⟩, 9⟩ ⟨[(0, v)], H', n'⟩ := by
  unfold mrcwrite rwH rcL
  simp -implicitDefEqProofs only [↓fnVC, initTm]
  simp -implicitDefEqProofs only [go_sem]
  obtain ⟨⟨e1, d1⟩, hq1⟩ : ∃ q, wrT d k s = q := ⟨_, rfl⟩
  have hP1 : Pl d1 m (t + 1) := by have := wrT_pl (k := k) (s := s) hP (by omega); rw [hq1] at this; exact this
  refine at_call trFWrite (rwrTS (i := 2) (a := 3) (b := 4) ⟨by rfl, by rfl, by rfl, by decide⟩ hP (by omega) (by decide) hq1) ?_
  by_cases x1 : e1 = 0
  · have b1 : decide (e1 = 0) = true := decide_eq_true x1
    cases bb with
    | true =>
      simp -implicitDefEqProofs only [go_sem, b1]
      obtain ⟨⟨e2, d2⟩, hq2⟩ : ∃ q, baT d1 = q := ⟨_, rfl⟩
      refine at_call trFBarrier (rbaTS (i := 2) (a := 7) (b := 8) ⟨by rfl, by rfl, by rfl, by decide⟩ hP1 (by omega) (by decide) hq2) ?_
      have e : wrB d k s true = (e2, d2) := by unfold wrB; rw [if_pos rfl, thn_ok (by rw [hq1]; exact x1), hq1]; exact hq2
      rw [e]
      simp -implicitDefEqProofs only [go_sem]
      refine sub_mk [(7, 9), (8, 10)] rfl rfl rfl ?_
      simp only [tmSub, hpSub, objSub, eqTm, eqHp, rn, lk, SV.ren, SV.renC, SV.renB, SV.renA, ren_ints, ren_strs, ren_pl, ren_svs, SV.v.injEq, Value.int.injEq, Body.ints.injEq, SV.ptr.injEq, SV.sl.injEq, Value.string.injEq, Value.bool.injEq, List.map_cons, List.map_nil, forall_const, Nat.reduceLT, Nat.lt_add_one, imp_self, true_and, and_true, and_self, ob_some, get_mk, lk_cons, ↓reduceIte, Nat.reduceEqDiff, ne_eq, not_true_eq_false, not_false_eq_true, Nat.one_ne_zero, Nat.zero_ne_one, Nat.succ_ne_self, Nat.reduceAdd, Bool.false_eq_true, false_implies, implies_true, reduceCtorEq, refB, strB]
      repeat' (first | rfl | apply And.intro)
    | false =>
      have e : wrB d k s false = (e1, d1) := by unfold wrB; rw [if_neg Bool.false_ne_true]; exact hq1
      rw [e]
      simp -implicitDefEqProofs only [go_sem, b1]
      refine sub_mk [] rfl rfl rfl ?_
      simp only [tmSub, hpSub, objSub, eqTm, eqHp, rn, lk, SV.ren, SV.renC, SV.renB, SV.renA, ren_ints, ren_strs, ren_pl, ren_svs, SV.v.injEq, Value.int.injEq, Body.ints.injEq, SV.ptr.injEq, SV.sl.injEq, Value.string.injEq, Value.bool.injEq, List.map_cons, List.map_nil, forall_const, Nat.reduceLT, Nat.lt_add_one, imp_self, true_and, and_true, and_self, ob_some, get_mk, lk_cons, ↓reduceIte, Nat.reduceEqDiff, ne_eq, not_true_eq_false, not_false_eq_true, Nat.one_ne_zero, Nat.zero_ne_one, Nat.succ_ne_self, Nat.reduceAdd, Bool.false_eq_true, false_implies, implies_true, reduceCtorEq, refB, strB]
      repeat' (first | rfl | apply And.intro)
  · have b1 : decide (e1 = 0) = false := decide_eq_false x1
    have e : wrB d k s bb = (e1, d1) := by
      unfold wrB
      split
      · rw [thn_no (by rw [hq1]; exact x1)]; exact hq1
      · exact hq1
    rw [e]
    simp -implicitDefEqProofs only [go_sem, b1]
    refine sub_mk [] rfl rfl rfl ?_
    simp only [tmSub, hpSub, objSub, eqTm, eqHp, rn, lk, SV.ren, SV.renC, SV.renB, SV.renA, ren_ints, ren_strs, ren_pl, ren_svs, SV.v.injEq, Value.int.injEq, Body.ints.injEq, SV.ptr.injEq, SV.sl.injEq, Value.string.injEq, Value.bool.injEq, List.map_cons, List.map_nil, forall_const, Nat.reduceLT, Nat.lt_add_one, imp_self, true_and, and_true, and_self, ob_some, get_mk, lk_cons, ↓reduceIte, Nat.reduceEqDiff, ne_eq, not_true_eq_false, not_false_eq_true, Nat.one_ne_zero, Nat.zero_ne_one, Nat.succ_ne_self, Nat.reduceAdd, Bool.false_eq_true, false_implies, implies_true, reduceCtorEq, refB, strB]
    repeat' (first | rfl | apply And.intro)
theorem ids6 {lc : List (Nat × Option SO)} {i D a b M W n : Nat} (hM : idOK n M = true) (hW : idOK n W = true) (h1 : (lk lc 1).isSome = true := by rfl) (h2 : (lk lc 2).isSome = true := by rfl) (h3 : (lk lc 3).isSome = true := by rfl) (h4 : (lk lc 4).isSome = true := by rfl) : ∀ k, 0 < k → k < 7 → (lk lc k).isSome = true ∨ idOK n (rn [(1, i), (2, D), (3, a), (4, b), (5, M), (6, W)] k) = true := by
  intro k h0 h5
  have hc : k = 1 ∨ k = 2 ∨ k = 3 ∨ k = 4 ∨ k = 5 ∨ k = 6 := by omega
  rcases hc with rfl | rfl | rfl | rfl | rfl | rfl
  · exact .inl h1
  · exact .inl h2
  · exact .inl h3
  · exact .inl h4
  · exact .inr hM
  · exact .inr hW
theorem rcwriteS {w0 m0 : Nat} {k : Int} {s : ByteArray} {bb : Bool} {m t : Nat} (hc : H.get i = some ⟨true, rcL C m0 w0 D M W⟩) (h : RefAt H d D a b true true true) (hi : (0 < i ∧ i < 1000) ∧ i ≠ D ∧ i ≠ a ∧ i ≠ b) (hid : idOK n M = true ∧ idOK n W = true) (hP : Pl d m t) (ht : t + 1 < 1000000) (hn : n + 2 ≤ 1000) {e : Int} (hq : wrB d k s bb = (e, d')) :
    SpecAt Tryz.prog nrcwrite [.ptr i 0, .v (.int .i64 k), .v (.string s), .v (.bool bb)] H n (.v (.int .i64 e)) ⟨(i, some ⟨true, rcL C m0 w0 D M W⟩) :: (D, some ⟨true, refB d' n (n + 1)⟩) :: (a, none) :: (b, none) :: (n, some ⟨true, strB d'.safe⟩) :: (n + 1, some ⟨true, .pl (qrow d'.pend)⟩) :: H.l, H.x⟩ (n + 2) := by
  obtain ⟨h1, h2, h3, ⟨p1, p2, p3⟩, ⟨q1, q2, q3⟩, n1, n2, n3⟩ := h
  obtain ⟨⟨i1, i2⟩, i3, i4, i5⟩ := hi
  have e1 : (wrB d k s bb).1 = e := by rw [hq]
  have e2 : (wrB d k s bb).2 = d' := by rw [hq]
  subst e1; subst e2
  have := liftD (n := n) (okT.spec trcwrite (rcwriteW (x := H.x) (C := C) (m0 := m0) (w0 := w0) (k := k) (s := s) (bb := bb) hP ht)) [(1, i), (2, D), (3, a), (4, b), (5, M), (6, W)] rfl (ids6 hid.1 hid.2) rfl (by omega) rfl rfl
    ⟨sub_wr rfl i1 i2 hc rfl, sub_wr rfl p1 q1 h1 rfl, sub_wr rfl p2 q2 h2 rfl, sub_wr rfl p3 q3 h3 rfl, trivial⟩
    (by simp [rwH, apartB, apart1, rn, lk, n1, n2, n3, i3, i4, i5, Ne.symm n1, Ne.symm n2, Ne.symm n3, Ne.symm i3, Ne.symm i4, Ne.symm i5]) (by simp [rwH, wrNZ, rn, lk]; omega) (by omega)
  exact this
theorem wrT_err {k : Int} {s : ByteArray} (h0 : 0 ≤ k) (h1 : k < d.seen.length) (hs : s.size ≤ 64) : (wrT d k s).1 = 0 ∨ (wrT d k s).1 = 7 := by
  unfold wrT wrNo
  split
  · rename_i p hp
    split at hp
    · cases hp; exact .inr rfl
    split at hp
    · rename_i c; omega
    split at hp
    · rename_i c; omega
    split at hp
    · cases hp; exact .inr rfl
    · cases hp
  · exact .inl rfl
theorem baT_err : (baT d).1 = 0 ∨ (baT d).1 = 7 := by
  unfold baT baNo
  split
  · rename_i p hp
    split at hp
    · cases hp; exact .inr rfl
    split at hp
    · cases hp; exact .inr rfl
    · cases hp
  · exact .inl rfl
theorem thn_err {p : Int × Fd} {f : Fd → Int × Fd} (hp : p.1 = 0 ∨ p.1 = 7) (hf : (f p.2).1 = 0 ∨ (f p.2).1 = 7) : (thn p f).1 = 0 ∨ (thn p f).1 = 7 := by
  unfold thn; split
  · exact hf
  · exact hp
end
section
/- Cells: the document's Commit, walked. -/
set_option linter.unusedVariables false
set_option linter.unusedSimpArgs false
set_option maxRecDepth 100000
open Go.Proofs
variable {H : Hp} {n : Nat} {x : Nat → Option SO} {i D M W a b c : Nat} {d d' : Fd} {C C' : Ce}
def lpC (at_ : Int) (I : ByteArray) (d : Fd) (j : Nat) : Int × Fd := if j < nCh I then pC at_ I d j else p2 at_ I d
theorem lpC_step {at_ : Int} {I : ByteArray} {j : Nat} (hj : j < nCh I) (h0 : (lpC at_ I d j).1 = 0) : wrB (lpC at_ I d j).2 (at_ + 1 + j) (chk I j) (decide (j + 1 = nCh I)) = lpC at_ I d (j + 1) := by
  have e : lpC at_ I d j = pC at_ I d j := if_pos hj
  rw [e] at h0 ⊢
  have e2 : pC at_ I d (j + 1) = wrT (pC at_ I d j).2 (at_ + 1 + j) (chk I j) := by
    show thn (pC at_ I d j) (fun d => wrT d (at_ + 1 + j) (chk I j)) = _
    exact thn_ok h0
  by_cases c : j + 1 = nCh I
  · have c2 : ¬ j + 1 < nCh I := by omega
    unfold wrB lpC
    rw [decide_eq_true c, if_pos rfl, if_neg c2]
    unfold p2
    rw [← c, e2]
  · have c2 : j + 1 < nCh I := by omega
    unfold wrB lpC
    rw [decide_eq_false c, if_neg Bool.false_ne_true, if_pos c2, e2]
theorem lpC_pl {at_ : Int} {I : ByteArray} {m t j : Nat} (hP : Pl d m t) (ht : t + 1000 < 1000000) (hI : I.size ≤ 8192) (hj : j ≤ nCh I) : Pl (lpC at_ I d j).2 m (t + 131) := by
  have := nCh_le hI
  unfold lpC
  split
  · exact (pC_pl hP ht (by omega)).mono (by omega)
  · exact p2_pl hP ht hI
theorem lpC_bad {at_ : Int} {I Q : ByteArray} {j : Nat} (hj : j ≤ nCh I) (h : (lpC at_ I d j).1 ≠ 0) : slW at_ Q I d = lpC at_ I d j := by
  unfold lpC at h ⊢
  split at h
  · rename_i c; rw [if_pos c]; exact slW_3 hj h
  · rename_i c; rw [if_neg c]; exact slW_4 h
theorem wrB_err {k : Int} {s : ByteArray} {b : Bool} (h0 : 0 ≤ k) (h1 : k < d.seen.length) (hs : s.size ≤ 64) : (wrB d k s b).1 = 0 ∨ (wrB d k s b).1 = 7 := by
  unfold wrB
  split
  · exact thn_err (wrT_err h0 h1 hs) baT_err
  · exact wrT_err h0 h1 hs
theorem lpC_err {a0 m t : Nat} {I : ByteArray} (hP : Pl d m t) (ht : t + 1000 < 1000000) (hI : I.size ≤ 8192) (hm : a0 + 1 + nCh I ≤ m) : ∀ {j}, j ≤ nCh I → (lpC a0 I d j).1 = 0 ∨ (lpC a0 I d j).1 = 7
  | 0, _ => by
    have h0 : (p1 a0 d).1 = 0 ∨ (p1 a0 d).1 = 7 := thn_err (wrT_err (by omega) (by rw [hP.len]; omega) (by decide)) baT_err
    unfold lpC
    split
    · exact h0
    · rename_i c
      have e : nCh I = 0 := by omega
      have e2 : pC a0 I d (nCh I) = p1 a0 d := by rw [e]; rfl
      unfold p2
      rw [e2]
      exact thn_err h0 baT_err
  | j + 1, hj => by
    have ih := lpC_err hP ht hI hm (j := j) (by omega)
    have hp := lpC_pl (at_ := a0) hP ht hI (j := j) (by omega)
    by_cases c : (lpC a0 I d j).1 = 0
    · rw [← lpC_step (by omega) c]
      exact wrB_err (by omega) (by rw [hp.len]; omega) chk_size
    · have hj' : j < nCh I := by omega
      have e : lpC a0 I d j = pC a0 I d j := if_pos hj'
      rw [e] at c ih
      have e2 : pC a0 I d (j + 1) = pC a0 I d j := by
        show thn (pC a0 I d j) (fun d => wrT d ((a0 : Int) + 1 + j) (chk I j)) = _
        exact thn_no c
      unfold lpC
      split
      · rw [e2]; exact ih
      · rename_i c2
        have e3 : nCh I = j + 1 := by omega
        unfold p2
        rw [e3, e2]
        exact thn_err ih baT_err
theorem slW_err {a0 m t : Nat} {I Q : ByteArray} (hP : Pl d m t) (ht : t + 1000 < 1000000) (hI : I.size ≤ 8192) (hm : a0 + 1 + nCh I ≤ m) (hQ : Q.size ≤ 64) : (slW a0 Q I d).1 = 0 ∨ (slW a0 Q I d).1 = 7 := by
  have h2 := lpC_err (I := I) hP ht hI hm (Nat.le_refl _)
  have e : lpC a0 I d (nCh I) = p2 a0 I d := if_neg (Nat.lt_irrefl _)
  rw [e] at h2
  have hp := p2_pl (at_ := a0) hP ht hI
  refine thn_err (thn_err h2 (wrT_err (by omega) (by rw [hp.len]; omega) hQ)) baT_err
def rkH (C : Ce) (d : Fd) (x : Nat → Option SO) : Hp := ⟨[(1, some ⟨true, rcellB C 2 5 6⟩), (2, some ⟨true, refB d 3 4⟩), (3, some ⟨true, strB d.safe⟩), (4, some ⟨true, .pl (qrow d.pend)⟩), (5, some ⟨false, rowP C.now⟩), (6, some ⟨false, rowP C.was⟩)], x⟩
set_option maxHeartbeats 4000000 in
theorem rCommitW {m t : Nat} {e : Int} {W' : Nat} (hC : C.ok) (hP : Pl d m t) (ht : t + 1000 < 1000000) (hlen : ceTo C + C.half ≤ m) (hq : coR C d = (e, C', d')) (hW : e = 0 ∧ W' = 5 ∨ e ≠ 0 ∧ W' = 6) :
    fnVC CT mrCCommit [.ptr 1 0] (rkH C d x) 7 fun v H' n' => Sub 7 ⟨[(0, .v (.int .i64 e))], ⟨[(1, some ⟨true, rcellB C' 2 5 W'⟩), (2, some ⟨true, refB d' 7 8⟩), (3, none), (4, none), (7, some ⟨true, strB d'.safe⟩), (8, some ⟨true, .pl (qrow d'.pend)⟩)], x⟩, 9⟩ ⟨[(0, v)], H', n'⟩ := by
  obtain ⟨hE, hWs, ⟨hh1, hh2⟩, hbs, hla, hnu⟩ := hC
  unfold mrCCommit rkH rcellB rcL
  simp -implicitDefEqProofs only [↓fnVC, initTm]
  by_cases c1 : C.dead = true
  · rw [c1]
    simp -implicitDefEqProofs only [go_sem]
    rw [show coR C d = (7, C, d) from if_pos c1] at hq
    cases hq
    obtain rfl : W' = 6 := by rcases hW with h | h; exact absurd h.1 (by decide); exact h.2
    refine sub_mk [(7, 3), (8, 4)] rfl rfl rfl ?_
    simp only [tmSub, hpSub, objSub, eqTm, eqHp, rn, lk, SV.ren, SV.renC, SV.renB, SV.renA, ren_ints, ren_strs, ren_pl, ren_svs, SV.v.injEq, Value.int.injEq, Body.ints.injEq, SV.ptr.injEq, SV.sl.injEq, Value.string.injEq, Value.bool.injEq, List.map_cons, List.map_nil, forall_const, Nat.reduceLT, Nat.lt_add_one, imp_self, true_and, and_true, and_self, ob_some, get_mk, lk_cons, ↓reduceIte, Nat.reduceEqDiff, ne_eq, not_true_eq_false, not_false_eq_true, Nat.one_ne_zero, Nat.zero_ne_one, Nat.succ_ne_self, Nat.reduceAdd, Bool.false_eq_true, false_implies, implies_true, reduceCtorEq, rcellB, rcL, refB, strB]
    rw [c1]
    repeat' (first | rfl | apply And.intro)
  have c1' : C.dead = false := by simpa using c1
  rw [c1']
  simp -implicitDefEqProofs only [go_sem]
  refine at_call trcBytes (rBytesS (i := 5) (es := C.now) (by rfl) (by decide) hE) ?_
  have w1 : IntKind.i64.wrap ((C.half : Int) - 1) = ((C.half - 1 : Nat) : Int) := by rw [wrap_i64 (by omega) (by omega)]; omega
  have w2 : IntKind.i64.wrap (64 * ((C.half - 1 : Nat) : Int)) = ((64 * (C.half - 1) : Nat) : Int) := by rw [wrap_i64 (by omega) (by omega)]; omega
  simp -implicitDefEqProofs only [go_sem, w1, w2]
  by_cases c2 : 64 * (C.half - 1) < (encB C.now).size
  · have b2 : decide (((encB C.now).size : Int) > ((64 * (C.half - 1) : Nat) : Int)) = true := decide_eq_true (by omega)
    simp -implicitDefEqProofs only [go_sem, b2]
    rw [show coR C d = (4, C, d) by unfold coR; rw [if_neg c1, if_pos c2]] at hq
    cases hq
    obtain rfl : W' = 6 := by rcases hW with h | h; exact absurd h.1 (by decide); exact h.2
    refine sub_mk [(7, 3), (8, 4)] rfl rfl rfl ?_
    simp only [tmSub, hpSub, objSub, eqTm, eqHp, rn, lk, SV.ren, SV.renC, SV.renB, SV.renA, ren_ints, ren_strs, ren_pl, ren_svs, SV.v.injEq, Value.int.injEq, Body.ints.injEq, SV.ptr.injEq, SV.sl.injEq, Value.string.injEq, Value.bool.injEq, List.map_cons, List.map_nil, forall_const, Nat.reduceLT, Nat.lt_add_one, imp_self, true_and, and_true, and_self, ob_some, get_mk, lk_cons, ↓reduceIte, Nat.reduceEqDiff, ne_eq, not_true_eq_false, not_false_eq_true, Nat.one_ne_zero, Nat.zero_ne_one, Nat.succ_ne_self, Nat.reduceAdd, Bool.false_eq_true, false_implies, implies_true, reduceCtorEq, rcellB, rcL, refB, strB]
    rw [c1']
    repeat' (first | rfl | apply And.intro)
  have b2 : decide (((encB C.now).size : Int) > ((64 * (C.half - 1) : Nat) : Int)) = false := decide_eq_false (by omega)
  have b3 : decide ((C.num : Int) ≥ 9223372036854775806) = false := decide_eq_false (by omega)
  have w3 : IntKind.i64.wrap (1 - (C.last : Int)) = ((1 - C.last : Nat) : Int) := by rw [wrap_i64 (by omega) (by omega)]; omega
  have w4 : IntKind.i64.wrap ((C.num : Int) + 1) = ((C.num + 1 : Nat) : Int) := by rw [wrap_i64 (by omega) (by omega)]; omega
  have hm : (1 - C.last) * C.half ≤ 129 := by
    have : 1 - C.last ≤ 1 := by omega
    calc (1 - C.last) * C.half ≤ 1 * C.half := Nat.mul_le_mul_right _ this
      _ ≤ 129 := by omega
  have w5 : IntKind.i64.wrap (((1 - C.last : Nat) : Int) * (C.half : Int)) = (((1 - C.last) * C.half : Nat) : Int) := by
    rw [← Int.natCast_mul]; exact wrap_i64 (by omega) (by omega)
  have w6 : IntKind.i64.wrap ((C.base : Int) + (((1 - C.last) * C.half : Nat) : Int)) = ((ceTo C : Nat) : Int) := by
    unfold ceTo; rw [wrap_i64 (by omega) (by omega)]; omega
  have hto : ceTo C ≤ 1000000 := by unfold ceTo; omega
  have hsz : (encB C.now).size ≤ 8192 := by omega
  have hpos := encB_pos (es := C.now)
  have hroom : nCh (encB C.now) ≤ C.half - 1 := by unfold nCh; omega
  have hse := slW_err (a0 := ceTo C) (Q := hdC (C.num + 1) (encB C.now).size) hP ht hsz (by omega) (by rw [hdC_size]; decide)
  have hcoq : coQ C d = slW (ceTo C) (hdC (C.num + 1) (encB C.now).size) (encB C.now) d := rfl
  have hcor : coR C d = if (coQ C d).1 ≠ 0 then ((coQ C d).1, { C with dead := true }, (coQ C d).2) else (0, { C with last := 1 - C.last, num := C.num + 1, was := C.now }, (coQ C d).2) := by unfold coR; rw [if_neg c1, if_neg c2]
  rw [hcoq] at hcor
  rw [hcor] at hq
  generalize hs : encB C.now = sB at *
  simp -implicitDefEqProofs only [go_sem, b2, b3, w3, w4, w5, w6]
  obtain ⟨⟨e1, d1⟩, hq1⟩ : ∃ q, p1 (ceTo C) d = q := ⟨_, rfl⟩
  refine at_call trcwrite (rcwriteS (i := 1) (D := 2) (a := 3) (b := 4) (M := 5) (W := 6) (C := { C with dead := false }) (m0 := C.now.length) (w0 := C.was.length) (by rfl) ⟨by rfl, by rfl, by rfl, by decide⟩ (by decide) (by decide) hP (by omega) (by decide) (show wrB d (ceTo C) ⟨#[]⟩ true = (e1, d1) from hq1)) ?_
  unfold rcL
  simp -implicitDefEqProofs only [go_sem]
  have hn0 : 0 < nCh sB := by unfold nCh; omega
  refine loop_fam (fun (j : Nat) => j ≤ nCh sB) (fun j => ⟨[(0, .ptr 1 0), (3, .v (.string sB)), (4, .v (.int .i64 (1 - C.last : Nat))), (5, .v (.int .i64 (ceTo C : Nat))), (6, .v (.int .i64 (lpC (ceTo C) sB d j).1)), (7, .v (.int .i64 ((64 * j : Nat) : Int)))],
    ⟨[(1, some ⟨true, rcL { C with dead := false } C.now.length C.was.length 2 5 6⟩), (2, some ⟨true, refB (lpC (ceTo C) sB d j).2 7 8⟩), (5, some ⟨false, rowP C.now⟩), (6, some ⟨false, rowP C.was⟩), (7, some ⟨true, strB (lpC (ceTo C) sB d j).2.safe⟩), (8, some ⟨true, .pl (qrow (lpC (ceTo C) sB d j).2.pend)⟩)], x⟩, 9⟩) (fun j => nCh sB - j) 0 (Nat.zero_le _) ?_ ?_
  · have e0 : lpC (ceTo C) sB d 0 = (e1, d1) := by unfold lpC; rw [if_pos hn0]; exact hq1
    rw [e0]
    refine sub_mk [] rfl rfl rfl ?_
    simp only [tmSub, hpSub, objSub, eqTm, eqHp, rn, lk, SV.ren, SV.renC, SV.renB, SV.renA, ren_ints, ren_strs, ren_pl, ren_svs, SV.v.injEq, Value.int.injEq, Body.ints.injEq, SV.ptr.injEq, SV.sl.injEq, Value.string.injEq, Value.bool.injEq, List.map_cons, List.map_nil, forall_const, Nat.reduceLT, Nat.lt_add_one, imp_self, true_and, and_true, and_self, ob_some, get_mk, lk_cons, ↓reduceIte, Nat.reduceEqDiff, ne_eq, not_true_eq_false, not_false_eq_true, Nat.one_ne_zero, Nat.zero_ne_one, Nat.succ_ne_self, Nat.reduceAdd, Bool.false_eq_true, false_implies, implies_true, reduceCtorEq, rcL, refB, strB, rowP]
    repeat' (first | rfl | apply And.intro)
  · intro j hj
    have hstep := fun h => lpC_step (at_ := ceTo C) (I := sB) (d := d) (j := j) h
    have hpl := lpC_pl (at_ := ceTo C) (j := j) hP ht hsz hj
    have hbad := lpC_bad (at_ := ceTo C) (I := sB) (Q := hdC (C.num + 1) sB.size) (d := d) hj
    have hend : ¬ j < nCh sB → lpC (ceTo C) sB d j = p2 (ceTo C) sB d := fun h => if_neg h
    have hlt := nCh_lt (I := sB) (j := j)
    generalize lpC (ceTo C) sB d j = q at hstep hpl hbad hend ⊢
    obtain ⟨e2, d2⟩ := q
    simp only at hstep hpl hbad
    unfold rcL refB strB
    simp -implicitDefEqProofs only [go_sem]
    by_cases hc : j < nCh sB ∧ e2 = 0
    · obtain ⟨hc1, hc2⟩ := hc
      subst hc2
      have hl := hlt.1 hc1
      have a1 : decide (((64 * j : Nat) : Int) < (sB.size : Int)) = true := decide_eq_true (by omega)
      have w7 : IntKind.i64.wrap (((64 * j : Nat) : Int) + 64) = ((64 * j + 64 : Nat) : Int) := by rw [wrap_i64 (by omega) (by omega)]; omega
      have w8 : min (((64 * j + 64 : Nat)) : Int) (sB.size : Int) = ((min (64 * j + 64) sB.size : Nat) : Int) := by omega
      have w9 : IntKind.i64.wrap ((ceTo C : Int) + 1) = (ceTo C : Int) + 1 := wrap_i64 (by omega) (by omega)
      have w10 : IntKind.i64.wrap (((64 * j : Nat) : Int).tdiv 64) = (j : Int) := by rw [Int.tdiv_eq_ediv_of_nonneg (by omega), wrap_i64 (by omega) (by omega)]; omega
      have w11 : IntKind.i64.wrap ((ceTo C : Int) + 1 + (j : Int)) = (ceTo C : Int) + 1 + (j : Int) := wrap_i64 (by omega) (by omega)
      have w12 : decide (((min (64 * j + 64) sB.size : Nat) : Int) = (sB.size : Int)) = decide (j + 1 = nCh sB) := by
        by_cases h : j + 1 = nCh sB
        · rw [decide_eq_true h]; exact decide_eq_true (by unfold nCh at h; omega)
        · rw [decide_eq_false h]; exact decide_eq_false (by unfold nCh at h hc1; omega)
      have hck : sB.extract (64 * j) (min (64 * j + 64) sB.size) = chk sB j := rfl
      have hst := hstep hc1 rfl
      have hnx := lpC_pl (at_ := ceTo C) (j := j + 1) hP ht hsz (by omega)
      obtain ⟨⟨e3, d3⟩, hq3⟩ : ∃ q, lpC (ceTo C) sB d (j + 1) = q := ⟨_, rfl⟩
      rw [hq3] at hst hnx
      simp -implicitDefEqProofs only [go_sem, a1, w7, w8, w9, w10, w11, w12]
      refine ⟨⟨by omega, by omega⟩, ?_⟩
      rw [hck]
      refine at_call trcwrite (rcwriteS (i := 1) (D := 2) (a := 7) (b := 8) (M := 5) (W := 6) (C := { C with dead := false }) (m0 := C.now.length) (w0 := C.was.length) (by rfl) ⟨by rfl, by rfl, by rfl, by decide⟩ (by decide) (by decide) hpl (by omega) (by decide) hst) ?_
      unfold rcL
      simp -implicitDefEqProofs only [go_sem, w7]
      refine kLoop_mk (j + 1) (by omega) (by omega) ?_
      rw [hq3]
      refine sub_mk [(7, 9), (8, 10)] rfl rfl rfl ?_
      simp only [tmSub, hpSub, objSub, eqTm, eqHp, rn, lk, SV.ren, SV.renC, SV.renB, SV.renA, ren_ints, ren_strs, ren_pl, ren_svs, SV.v.injEq, Value.int.injEq, Body.ints.injEq, SV.ptr.injEq, SV.sl.injEq, Value.string.injEq, Value.bool.injEq, List.map_cons, List.map_nil, forall_const, Nat.reduceLT, Nat.lt_add_one, imp_self, true_and, and_true, and_self, ob_some, get_mk, lk_cons, ↓reduceIte, Nat.reduceEqDiff, ne_eq, not_true_eq_false, not_false_eq_true, Nat.one_ne_zero, Nat.zero_ne_one, Nat.succ_ne_self, Nat.reduceAdd, Bool.false_eq_true, false_implies, implies_true, reduceCtorEq, rcL, refB, strB, rowP, w7]
      repeat' (first | rfl | apply And.intro)
    · by_cases hj2 : j < nCh sB
      · have x2 : e2 ≠ 0 := fun h => hc ⟨hj2, h⟩
        have hl := hlt.1 hj2
        have a1 : decide (((64 * j : Nat) : Int) < (sB.size : Int)) = true := decide_eq_true (by omega)
        have a2 : decide (e2 = 0) = false := decide_eq_false x2
        simp -implicitDefEqProofs only [go_sem, a1, a2, w4]
        refine at_call trWNumber (rwNum0S (i := 9) (k := 8) (y := C.num + 1) (bad := false) (by rfl) (by decide) (by decide) (by decide) (by decide) (by omega) (fun h => absurd h (by decide))) ?_
        simp -implicitDefEqProofs only [go_sem]
        refine at_call trWNumber (rwNumS (i := 9) (r := 10) (k := 4) (y := sB.size) (bs := be (C.num + 1) 8) (bad := false) (by rfl) (by rfl) (by decide) (by decide) (by decide) (by decide) (by decide) (by decide) (by omega) (fun _ => by omega) (by rw [be_len]; decide)) ?_
        simp -implicitDefEqProofs only [go_sem, w4]
        refine at_call trWNumber (rwNumS (i := 9) (r := 11) (k := 8) (y := C.num + 1) (bs := be (C.num + 1) 8 ++ be sB.size 4) (bad := false) (by rfl) (by rfl) (by decide) (by decide) (by decide) (by decide) (by decide) (by decide) (by omega) (fun h => absurd h (by decide)) (by rw [List.length_append, be_len, be_len]; decide)) ?_
        have hQT : tx (be (C.num + 1) 8 ++ be sB.size 4 ++ be (C.num + 1) 8) = hdC (C.num + 1) sB.size := rfl
        have hQL : List.take (be (C.num + 1) 8 ++ be sB.size 4 ++ be (C.num + 1) 8).length (be (C.num + 1) 8 ++ be sB.size 4 ++ be (C.num + 1) 8) = be (C.num + 1) 8 ++ be sB.size 4 ++ be (C.num + 1) 8 := List.take_length
        by_cases x2 : e2 = 0
        · have hj2 : j = nCh sB := by omega
          have hp2 : p2 (ceTo C) sB d = (e2, d2) := (hend (by omega)).symm
          have b4 : decide (e2 = 0) = true := decide_eq_true x2
          unfold wrO
          simp -implicitDefEqProofs only [go_sem, b4, hQL, hQT]
          have hpl2 := hpl
          obtain ⟨⟨e4, d4⟩, hq4⟩ : ∃ q, wrB d2 (ceTo C : Nat) (hdC (C.num + 1) sB.size) true = q := ⟨_, rfl⟩
          have hsl : slW (ceTo C) (hdC (C.num + 1) sB.size) sB d = (e4, d4) := by
            unfold slW p3
            rw [hp2, thn_ok (show (e2, d2).1 = 0 from x2)]
            exact hq4
          rw [hsl] at hq hse
          refine at_call trcwrite (rcwriteS (i := 1) (D := 2) (a := 7) (b := 8) (M := 5) (W := 6) (C := { C with dead := false }) (m0 := C.now.length) (w0 := C.was.length) (by rfl) ⟨by rfl, by rfl, by rfl, by decide⟩ (by decide) (by decide) hpl (by omega) (by decide) hq4) ?_
          unfold rcL
          by_cases x4 : e4 = 0
          · have b5 : decide (e4 = 0) = true := decide_eq_true x4
            rw [if_neg (fun h => h (show (e4, d4).1 = 0 from x4))] at hq
            cases hq
            obtain rfl : W' = 5 := by rcases hW with h | h; exact h.2; exact absurd rfl h.1
            simp -implicitDefEqProofs only [go_sem, b5, w4]
            refine sub_mk [(7, 13), (8, 14)] rfl rfl rfl ?_
            simp only [tmSub, hpSub, objSub, eqTm, eqHp, rn, lk, SV.ren, SV.renC, SV.renB, SV.renA, ren_ints, ren_strs, ren_pl, ren_svs, SV.v.injEq, Value.int.injEq, Body.ints.injEq, SV.ptr.injEq, SV.sl.injEq, Value.string.injEq, Value.bool.injEq, List.map_cons, List.map_nil, forall_const, Nat.reduceLT, Nat.lt_add_one, imp_self, true_and, and_true, and_self, ob_some, get_mk, lk_cons, ↓reduceIte, Nat.reduceEqDiff, ne_eq, not_true_eq_false, not_false_eq_true, Nat.one_ne_zero, Nat.zero_ne_one, Nat.succ_ne_self, Nat.reduceAdd, Bool.false_eq_true, false_implies, implies_true, reduceCtorEq, rcellB, rcL, refB, strB]
            rw [c1']
            repeat' (first | rfl | apply And.intro)
          · have b5 : decide (e4 = 0) = false := decide_eq_false x4
            rw [if_pos (show (e4, d4).1 ≠ 0 from x4)] at hq
            cases hq
            obtain rfl : W' = 6 := by rcases hW with h | h; exact absurd h.1 x4; exact h.2
            have e7 : e4 = 7 := by rcases hse with h | h; exact absurd h x4; exact h
            subst e7
            simp -implicitDefEqProofs only [go_sem]
            refine sub_mk [(7, 13), (8, 14)] rfl rfl rfl ?_
            simp only [tmSub, hpSub, objSub, eqTm, eqHp, rn, lk, SV.ren, SV.renC, SV.renB, SV.renA, ren_ints, ren_strs, ren_pl, ren_svs, SV.v.injEq, Value.int.injEq, Body.ints.injEq, SV.ptr.injEq, SV.sl.injEq, Value.string.injEq, Value.bool.injEq, List.map_cons, List.map_nil, forall_const, Nat.reduceLT, Nat.lt_add_one, imp_self, true_and, and_true, and_self, ob_some, get_mk, lk_cons, ↓reduceIte, Nat.reduceEqDiff, ne_eq, not_true_eq_false, not_false_eq_true, Nat.one_ne_zero, Nat.zero_ne_one, Nat.succ_ne_self, Nat.reduceAdd, Bool.false_eq_true, false_implies, implies_true, reduceCtorEq, rcellB, rcL, refB, strB]
        · have hsl := hbad x2
          rw [hsl] at hq hse
          have e7 : e2 = 7 := by rcases hse with h | h; exact absurd h x2; exact h
          rw [if_pos (show (e2, d2).1 ≠ 0 from x2)] at hq
          cases hq
          obtain rfl : W' = 6 := by rcases hW with h | h; exact absurd h.1 x2; exact h.2
          subst e7
          unfold wrO
          simp -implicitDefEqProofs only [go_sem]
          refine sub_mk [(7, 7), (8, 8)] rfl rfl rfl ?_
          simp only [tmSub, hpSub, objSub, eqTm, eqHp, rn, lk, SV.ren, SV.renC, SV.renB, SV.renA, ren_ints, ren_strs, ren_pl, ren_svs, SV.v.injEq, Value.int.injEq, Body.ints.injEq, SV.ptr.injEq, SV.sl.injEq, Value.string.injEq, Value.bool.injEq, List.map_cons, List.map_nil, forall_const, Nat.reduceLT, Nat.lt_add_one, imp_self, true_and, and_true, and_self, ob_some, get_mk, lk_cons, ↓reduceIte, Nat.reduceEqDiff, ne_eq, not_true_eq_false, not_false_eq_true, Nat.one_ne_zero, Nat.zero_ne_one, Nat.succ_ne_self, Nat.reduceAdd, Bool.false_eq_true, false_implies, implies_true, reduceCtorEq, rcellB, rcL, refB, strB]
      · have hl : ¬ 64 * j < sB.size := fun h => hj2 (hlt.2 h)
        have a1 : decide (((64 * j : Nat) : Int) < (sB.size : Int)) = false := decide_eq_false (by omega)
        simp -implicitDefEqProofs only [go_sem, a1, w4]
        refine at_call trWNumber (rwNum0S (i := 9) (k := 8) (y := C.num + 1) (bad := false) (by rfl) (by decide) (by decide) (by decide) (by decide) (by omega) (fun h => absurd h (by decide))) ?_
        simp -implicitDefEqProofs only [go_sem]
        refine at_call trWNumber (rwNumS (i := 9) (r := 10) (k := 4) (y := sB.size) (bs := be (C.num + 1) 8) (bad := false) (by rfl) (by rfl) (by decide) (by decide) (by decide) (by decide) (by decide) (by decide) (by omega) (fun _ => by omega) (by rw [be_len]; decide)) ?_
        simp -implicitDefEqProofs only [go_sem, w4]
        refine at_call trWNumber (rwNumS (i := 9) (r := 11) (k := 8) (y := C.num + 1) (bs := be (C.num + 1) 8 ++ be sB.size 4) (bad := false) (by rfl) (by rfl) (by decide) (by decide) (by decide) (by decide) (by decide) (by decide) (by omega) (fun h => absurd h (by decide)) (by rw [List.length_append, be_len, be_len]; decide)) ?_
        have hQT : tx (be (C.num + 1) 8 ++ be sB.size 4 ++ be (C.num + 1) 8) = hdC (C.num + 1) sB.size := rfl
        have hQL : List.take (be (C.num + 1) 8 ++ be sB.size 4 ++ be (C.num + 1) 8).length (be (C.num + 1) 8 ++ be sB.size 4 ++ be (C.num + 1) 8) = be (C.num + 1) 8 ++ be sB.size 4 ++ be (C.num + 1) 8 := List.take_length
        by_cases x2 : e2 = 0
        · have hj2 : j = nCh sB := by omega
          have hp2 : p2 (ceTo C) sB d = (e2, d2) := (hend (by omega)).symm
          have b4 : decide (e2 = 0) = true := decide_eq_true x2
          unfold wrO
          simp -implicitDefEqProofs only [go_sem, b4, hQL, hQT]
          have hpl2 := hpl
          obtain ⟨⟨e4, d4⟩, hq4⟩ : ∃ q, wrB d2 (ceTo C : Nat) (hdC (C.num + 1) sB.size) true = q := ⟨_, rfl⟩
          have hsl : slW (ceTo C) (hdC (C.num + 1) sB.size) sB d = (e4, d4) := by
            unfold slW p3
            rw [hp2, thn_ok (show (e2, d2).1 = 0 from x2)]
            exact hq4
          rw [hsl] at hq hse
          refine at_call trcwrite (rcwriteS (i := 1) (D := 2) (a := 7) (b := 8) (M := 5) (W := 6) (C := { C with dead := false }) (m0 := C.now.length) (w0 := C.was.length) (by rfl) ⟨by rfl, by rfl, by rfl, by decide⟩ (by decide) (by decide) hpl (by omega) (by decide) hq4) ?_
          unfold rcL
          by_cases x4 : e4 = 0
          · have b5 : decide (e4 = 0) = true := decide_eq_true x4
            rw [if_neg (fun h => h (show (e4, d4).1 = 0 from x4))] at hq
            cases hq
            obtain rfl : W' = 5 := by rcases hW with h | h; exact h.2; exact absurd rfl h.1
            simp -implicitDefEqProofs only [go_sem, b5, w4]
            refine sub_mk [(7, 13), (8, 14)] rfl rfl rfl ?_
            simp only [tmSub, hpSub, objSub, eqTm, eqHp, rn, lk, SV.ren, SV.renC, SV.renB, SV.renA, ren_ints, ren_strs, ren_pl, ren_svs, SV.v.injEq, Value.int.injEq, Body.ints.injEq, SV.ptr.injEq, SV.sl.injEq, Value.string.injEq, Value.bool.injEq, List.map_cons, List.map_nil, forall_const, Nat.reduceLT, Nat.lt_add_one, imp_self, true_and, and_true, and_self, ob_some, get_mk, lk_cons, ↓reduceIte, Nat.reduceEqDiff, ne_eq, not_true_eq_false, not_false_eq_true, Nat.one_ne_zero, Nat.zero_ne_one, Nat.succ_ne_self, Nat.reduceAdd, Bool.false_eq_true, false_implies, implies_true, reduceCtorEq, rcellB, rcL, refB, strB]
            rw [c1']
            repeat' (first | rfl | apply And.intro)
          · have b5 : decide (e4 = 0) = false := decide_eq_false x4
            rw [if_pos (show (e4, d4).1 ≠ 0 from x4)] at hq
            cases hq
            obtain rfl : W' = 6 := by rcases hW with h | h; exact absurd h.1 x4; exact h.2
            have e7 : e4 = 7 := by rcases hse with h | h; exact absurd h x4; exact h
            subst e7
            simp -implicitDefEqProofs only [go_sem]
            refine sub_mk [(7, 13), (8, 14)] rfl rfl rfl ?_
            simp only [tmSub, hpSub, objSub, eqTm, eqHp, rn, lk, SV.ren, SV.renC, SV.renB, SV.renA, ren_ints, ren_strs, ren_pl, ren_svs, SV.v.injEq, Value.int.injEq, Body.ints.injEq, SV.ptr.injEq, SV.sl.injEq, Value.string.injEq, Value.bool.injEq, List.map_cons, List.map_nil, forall_const, Nat.reduceLT, Nat.lt_add_one, imp_self, true_and, and_true, and_self, ob_some, get_mk, lk_cons, ↓reduceIte, Nat.reduceEqDiff, ne_eq, not_true_eq_false, not_false_eq_true, Nat.one_ne_zero, Nat.zero_ne_one, Nat.succ_ne_self, Nat.reduceAdd, Bool.false_eq_true, false_implies, implies_true, reduceCtorEq, rcellB, rcL, refB, strB]
        · have hsl := hbad x2
          rw [hsl] at hq hse
          have e7 : e2 = 7 := by rcases hse with h | h; exact absurd h x2; exact h
          rw [if_pos (show (e2, d2).1 ≠ 0 from x2)] at hq
          cases hq
          obtain rfl : W' = 6 := by rcases hW with h | h; exact absurd h.1 x2; exact h.2
          subst e7
          unfold wrO
          simp -implicitDefEqProofs only [go_sem]
          refine sub_mk [(7, 7), (8, 8)] rfl rfl rfl ?_
          simp only [tmSub, hpSub, objSub, eqTm, eqHp, rn, lk, SV.ren, SV.renC, SV.renB, SV.renA, ren_ints, ren_strs, ren_pl, ren_svs, SV.v.injEq, Value.int.injEq, Body.ints.injEq, SV.ptr.injEq, SV.sl.injEq, Value.string.injEq, Value.bool.injEq, List.map_cons, List.map_nil, forall_const, Nat.reduceLT, Nat.lt_add_one, imp_self, true_and, and_true, and_self, ob_some, get_mk, lk_cons, ↓reduceIte, Nat.reduceEqDiff, ne_eq, not_true_eq_false, not_false_eq_true, Nat.one_ne_zero, Nat.zero_ne_one, Nat.succ_ne_self, Nat.reduceAdd, Bool.false_eq_true, false_implies, implies_true, reduceCtorEq, rcellB, rcL, refB, strB]
end
section
/- Cells: the document's Commit at any heap; a cell and a list of names with texts. -/
set_option linter.unusedVariables false
set_option linter.unusedSimpArgs false
set_option maxRecDepth 100000
open Go.Proofs
variable {H : Hp} {n : Nat} {x : Nat → Option SO} {i D M W a b c : Nat} {d d' : Fd} {C C' : Ce}
structure RkAt (H : Hp) (C : Ce) (d : Fd) (i D a b M W : Nat) : Prop where
  cell : RcAt H C i D M W
  dev : RefAt H d D a b true true true
  ne : i ≠ D ∧ i ≠ a ∧ i ≠ b ∧ D ≠ M ∧ D ≠ W ∧ a ≠ M ∧ a ≠ W ∧ b ≠ M ∧ b ≠ W
def rkP (i D a b M W : Nat) : List (Nat × Nat) := [(1, i), (2, D), (3, a), (4, b), (5, M), (6, W)]
theorem RkAt.sub (h : RkAt H C d i D a b M W) : hpSub (rkP i D a b M W) H (rkH C d x).l := by
  obtain ⟨⟨h1, ⟨u2, h2⟩, ⟨u3, h3⟩, ⟨p1, p2, p3, p4⟩, p5, p6⟩, ⟨g1, g2, g3, ⟨r1, r2, r3⟩, ⟨q1, q2, q3⟩, n1, n2, n3⟩, _⟩ := h
  exact ⟨sub_wr rfl p1 p5 h1 rfl, sub_wr rfl r1 q1 g1 rfl, sub_wr rfl r2 q2 g2 rfl, sub_wr rfl r3 q3 g3 rfl, sub_ro rfl p3 h2 rfl, sub_ro rfl p4 h3 rfl, trivial⟩
theorem RkAt.ap (h : RkAt H C d i D a b M W) : apartB (rkP i D a b M W) (rkH C d x).l (rkH C d x).l = true := by
  obtain ⟨⟨h1, h2, h3, h4, p5, p6, p7⟩, ⟨g1, g2, g3, _, _, n1, n2, n3⟩, m1, m2, m3, m4, m5, m6, m7, m8, m9⟩ := h
  simp [rkH, rkP, apartB, apart1, rn, lk, p6, p7, Ne.symm p6, Ne.symm p7, n1, n2, n3, Ne.symm n1, Ne.symm n2, Ne.symm n3, m1, m2, m3, m4, m5, m6, m7, m8, m9, Ne.symm m1, Ne.symm m2, Ne.symm m3, Ne.symm m4, Ne.symm m5, Ne.symm m6, Ne.symm m7, Ne.symm m8, Ne.symm m9]
theorem RkAt.wn (h : RkAt H C d i D a b M W) : wrNZ (rkP i D a b M W) (rkH C d x).l = true := by
  obtain ⟨⟨h1, h2, h3, h4, p5, p6, p7⟩, ⟨g1, g2, g3, ⟨r1, r2, r3⟩, _, n1, n2, n3⟩, _⟩ := h
  have := h4.1
  simp [rkH, rkP, wrNZ, rn, lk]; omega
theorem rCommitS {m t : Nat} (h : RkAt H C d i D a b M W) (hC : C.ok) (hP : Pl d m t) (ht : t + 1000 < 1000000) (hlen : ceTo C + C.half ≤ m) (hn : n + 2 ≤ 1000) (hq : coR C d = (0, C', d')) :
    SpecAt Tryz.prog nrCCommit [.ptr i 0] H n (.v (.int .i64 0)) ⟨(i, some ⟨true, rcellB C' D M M⟩) :: (D, some ⟨true, refB d' n (n + 1)⟩) :: (a, none) :: (b, none) :: (n, some ⟨true, strB d'.safe⟩) :: (n + 1, some ⟨true, .pl (qrow d'.pend)⟩) :: H.l, H.x⟩ (n + 2) := by
  have := lift (n := n) (okT.spec trCCommit (rCommitW (x := H.x) (W' := 5) hC hP ht hlen hq (.inl ⟨rfl, rfl⟩))) (rkP i D a b M W) rfl rfl rfl (by omega) rfl rfl (h.sub (x := H.x)) (h.ap (x := H.x)) (h.wn (x := H.x)) (by omega)
  exact this
theorem rCommitE {m t : Nat} {e : Int} (h : RkAt H C d i D a b M W) (hC : C.ok) (hP : Pl d m t) (ht : t + 1000 < 1000000) (hlen : ceTo C + C.half ≤ m) (hn : n + 2 ≤ 1000) (hq : coR C d = (e, C', d')) (he : e ≠ 0) :
    SpecAt Tryz.prog nrCCommit [.ptr i 0] H n (.v (.int .i64 e)) ⟨(i, some ⟨true, rcellB C' D M W⟩) :: (D, some ⟨true, refB d' n (n + 1)⟩) :: (a, none) :: (b, none) :: (n, some ⟨true, strB d'.safe⟩) :: (n + 1, some ⟨true, .pl (qrow d'.pend)⟩) :: H.l, H.x⟩ (n + 2) := by
  have := lift (n := n) (okT.spec trCCommit (rCommitW (x := H.x) (W' := 6) hC hP ht hlen hq (.inr ⟨he, rfl⟩))) (rkP i D a b M W) rfl rfl rfl (by omega) rfl rfl (h.sub (x := H.x)) (h.ap (x := H.x)) (h.wn (x := H.x)) (by omega)
  exact this
def spoT : ByteArray := ⟨#[115, 112, 111, 105, 108, 116]⟩
def spoL (l : List ByteArray) (j : Nat) : List ByteArray := List.replicate j spoT ++ l.drop j
theorem spo_len {l : List ByteArray} {j : Nat} (h : j ≤ l.length) : (spoL l j).length = l.length := by
  unfold spoL; rw [List.length_append, List.length_replicate, List.length_drop]; omega
theorem spo_get {l : List ByteArray} {j : Nat} (h : j < l.length) : (spoL l j).getD j .empty = l.getD j .empty := by
  unfold spoL
  rw [List.getD_eq_getElem?_getD, List.getElem?_append_right (by rw [List.length_replicate]; exact Nat.le_refl _), List.length_replicate, Nat.sub_self, List.getElem?_drop, Nat.add_zero, ← List.getD_eq_getElem?_getD]
theorem spo_set {l : List ByteArray} {j : Nat} (h : j < l.length) : (spoL l j).set j spoT = spoL l (j + 1) := by
  unfold spoL
  rw [List.set_append_right _ _ (by rw [List.length_replicate]; exact Nat.le_refl _), List.length_replicate, Nat.sub_self, List.drop_eq_getElem_cons h, List.set_cons_zero, List.replicate_succ', List.append_assoc]
  rfl
set_option maxHeartbeats 1000000 in
theorem sameWW {P : PL} {r : Bool} (hE : Es C.now) (hP : P.length ≤ 64) (hr : r = true ↔ prs C.now = P) :
    fnVC CT mwsame [.ptr 1 0, .sl 8 0 P.length 2] ⟨[(1, some ⟨false, cellB C 2 6 7⟩), (2, some ⟨false, devB d 3 4 5⟩), (3, some ⟨false, secB d.seen⟩), (4, some ⟨false, secB d.safe⟩), (5, some ⟨false, .pl (prow d.pend)⟩), (6, some ⟨false, .mp (.map C.now)⟩), (7, some ⟨false, .mp (.map C.was)⟩), (8, some ⟨false, .pl (prw P)⟩)], x⟩ 9
      fun v H' n' => Sub 9 ⟨[(0, .v (.bool r))], ⟨[], x⟩, 9⟩ ⟨[(0, v)], H', n'⟩ := by
  have hlen := hE.len
  have hpl := prs_len (es := C.now)
  have hkl := srtK_len (es := C.now)
  unfold mwsame
  simp -implicitDefEqProofs only [↓fnVC, initTm]
  simp -implicitDefEqProofs only [go_sem]
  refine in_call mixT tCNames ?_
  unfold mCNames cellB
  simp -implicitDefEqProofs only [↓fnVC, initTm]
  simp -implicitDefEqProofs only [go_sem]
  refine at_call tcnames (namesS (i := 6) (by rfl) rfl (by decide) hE.keys (fun e he => Nat.le_trans (hE.kl e he) (by decide)) (by omega) (by decide)) ?_
  simp -implicitDefEqProofs only [go_sem]
  by_cases c0 : C.now.length = P.length
  · have a0 : decide ((C.now.length : Int) = (P.length : Int)) = true := decide_eq_true (by omega)
    simp -implicitDefEqProofs only [go_sem, a0]
    refine loop_fam (fun (j : Nat) => j ≤ P.length ∧ ∀ i, i < j → P.getD i pE = (prs C.now).getD i pE) (fun j => ⟨[(0, .ptr 1 0), (5, .sl 9 0 C.now.length 1), (17, .sl 8 0 P.length 2), (18, .v (.int .i64 P.length)), (19, .v (.int .i64 j))],
      ⟨[(1, some ⟨false, cellB C 2 6 7⟩), (6, some ⟨false, .mp (.map C.now)⟩), (8, some ⟨false, .pl (prw P)⟩), (9, some ⟨true, .strs (spoL (srtK C.now) j)⟩)], x⟩, 10⟩) (fun j => P.length - j) 0 ⟨Nat.zero_le _, fun i h => absurd h (Nat.not_lt_zero _)⟩ ?_ ?_
    · refine sub_mk [] rfl rfl rfl ?_
      simp only [tmSub, hpSub, objSub, eqTm, eqHp, rn, lk, SV.ren, SV.renC, SV.renB, SV.renA, ren_ints, ren_strs, ren_pl, ren_svs, SV.v.injEq, Value.int.injEq, Body.ints.injEq, SV.ptr.injEq, SV.sl.injEq, Value.string.injEq, Value.bool.injEq, List.map_cons, List.map_nil, forall_const, Nat.reduceLT, Nat.lt_add_one, imp_self, true_and, and_true, and_self, ob_some, get_mk, lk_cons, ↓reduceIte, Nat.reduceEqDiff, ne_eq, not_true_eq_false, not_false_eq_true, Nat.one_ne_zero, Nat.zero_ne_one, Nat.succ_ne_self, Nat.reduceAdd, Bool.false_eq_true, false_implies, implies_true, reduceCtorEq, cellB]
      repeat' (first | rfl | apply And.intro)
    · rintro j ⟨hj, hall⟩
      unfold cellB
      simp -implicitDefEqProofs only [go_sem]
      refine condK_bb (fun c => ?_) (fun c => ?_)
      · have c1 : j < P.length := by have := of_decide_eq_true c; omega
        have gr := prw_at (P := P) (j := j) (by omega)
        have w2 : IntKind.i64.wrap ((j : Int) + 1) = ((j + 1 : Nat) : Int) := by rw [wrap_i64 (by omega) (by omega)]; omega
        have hsl := spo_len (l := srtK C.now) (j := j) (by omega)
        have hsg := spo_get (l := srtK C.now) (j := j) (by omega)
        have hss := spo_set (l := srtK C.now) (j := j) (by omega)
        have hpg := prs_get (es := C.now) (j := j) (by omega)
        obtain ⟨h1, h2, h3⟩ := hE.at_ (nmAt_mem (es := C.now) (j := j) (by omega))
        have hnm : (srtK C.now).getD j .empty = nmAt C.now j := rfl
        rw [hnm] at hsg
        have hk := hE.keys
        have hno : P.getD j pE ≠ (prs C.now).getD j pE → r = false := fun h => by
          refine Bool.eq_false_iff.2 fun e => h ?_
          rw [hr.1 e]
        generalize hpe : P.getD j (.empty, .empty) = p at gr hno
        obtain ⟨s, u⟩ := p
        have hg := hE.el s
        unfold pcell at gr
        simp -implicitDefEqProofs only [go_sem, c, gr, spl2m]
        refine ⟨⟨by omega, by omega⟩, by rw [prw_len]; omega, ?_⟩
        refine in_call mixT tCGet ?_
        unfold mCGet
        simp -implicitDefEqProofs only [↓fnVC, initTm]
        simp -implicitDefEqProofs only [go_sem, asM_so, hk, hg, spl1]
        refine ⟨⟨by omega, by omega⟩, by rw [hsl, hkl]; omega, ?_⟩
        rw [hsg]
        by_cases e1 : nmAt C.now j = s
        · subst e1
          have b1 : seq (nmAt C.now j) (nmAt C.now j) = true := seq_self _
          have b2 : (luS C.now (nmAt C.now j)).isSome = true := by rw [h1]; rfl
          simp -implicitDefEqProofs only [go_sem, b1, b2, Bool.not_true]
          by_cases e2 : tOf C.now (nmAt C.now j) = u
          · subst e2
            have b3 : seq (tOf C.now (nmAt C.now j)) (tOf C.now (nmAt C.now j)) = true := seq_self _
            simp -implicitDefEqProofs only [go_sem, b3, Bool.not_true, w2]
            refine ⟨⟨by omega, by omega⟩, by rw [hsl, hkl]; omega, ?_⟩
            refine kLoop_mk (j + 1) ⟨by omega, fun i hi => ?_⟩ (by omega) ?_
            · by_cases h : i = j
              · subst h; rw [hpe, hpg]
              · exact hall i (by omega)
            · refine sub_mk [] rfl rfl rfl ?_
              simp only [tmSub, hpSub, objSub, eqTm, eqHp, rn, lk, SV.ren, SV.renC, SV.renB, SV.renA, ren_ints, ren_strs, ren_pl, ren_svs, SV.v.injEq, Value.int.injEq, Body.ints.injEq, SV.ptr.injEq, SV.sl.injEq, Value.string.injEq, Value.bool.injEq, List.map_cons, List.map_nil, forall_const, Nat.reduceLT, Nat.lt_add_one, imp_self, true_and, and_true, and_self, ob_some, get_mk, lk_cons, ↓reduceIte, Nat.reduceEqDiff, ne_eq, not_true_eq_false, not_false_eq_true, Nat.one_ne_zero, Nat.zero_ne_one, Nat.succ_ne_self, Nat.reduceAdd, Bool.false_eq_true, false_implies, implies_true, reduceCtorEq, w2]
              rw [← hss]
              repeat' (first | rfl | apply And.intro)
          · have b3 : seq (tOf C.now (nmAt C.now j)) u = false := seq_ne e2
            simp -implicitDefEqProofs only [go_sem, b3, Bool.not_false]
            obtain rfl : r = false := hno (by rw [hpg]; intro h; cases h; exact e2 rfl)
            refine sub_mk [] rfl rfl rfl ?_
            simp only [tmSub, hpSub, objSub, eqTm, eqHp, rn, lk, SV.ren, SV.renC, SV.renB, SV.renA, ren_ints, ren_strs, ren_pl, ren_svs, SV.v.injEq, Value.int.injEq, Body.ints.injEq, SV.ptr.injEq, SV.sl.injEq, Value.string.injEq, Value.bool.injEq, List.map_cons, List.map_nil, forall_const, Nat.reduceLT, Nat.lt_add_one, imp_self, true_and, and_true, and_self, ob_some, get_mk, lk_cons, ↓reduceIte, Nat.reduceEqDiff, ne_eq, not_true_eq_false, not_false_eq_true, Nat.one_ne_zero, Nat.zero_ne_one, Nat.succ_ne_self, Nat.reduceAdd, Bool.false_eq_true, false_implies, implies_true, reduceCtorEq]
        · have b1 : seq (nmAt C.now j) s = false := seq_ne e1
          simp -implicitDefEqProofs only [go_sem, b1, Bool.not_false]
          obtain rfl : r = false := hno (by rw [hpg]; intro h; cases h; exact e1 rfl)
          refine sub_mk [] rfl rfl rfl ?_
          simp only [tmSub, hpSub, objSub, eqTm, eqHp, rn, lk, SV.ren, SV.renC, SV.renB, SV.renA, ren_ints, ren_strs, ren_pl, ren_svs, SV.v.injEq, Value.int.injEq, Body.ints.injEq, SV.ptr.injEq, SV.sl.injEq, Value.string.injEq, Value.bool.injEq, List.map_cons, List.map_nil, forall_const, Nat.reduceLT, Nat.lt_add_one, imp_self, true_and, and_true, and_self, ob_some, get_mk, lk_cons, ↓reduceIte, Nat.reduceEqDiff, ne_eq, not_true_eq_false, not_false_eq_true, Nat.one_ne_zero, Nat.zero_ne_one, Nat.succ_ne_self, Nat.reduceAdd, Bool.false_eq_true, false_implies, implies_true, reduceCtorEq]
      · have c1 : j = P.length := by have := of_decide_eq_false c; omega
        subst c1
        simp -implicitDefEqProofs only [go_sem, c]
        obtain rfl : r = true := hr.2 (by
          apply List.ext_getElem?
          intro i
          by_cases hi : i < P.length
          · have := hall i hi
            rw [List.getD_eq_getElem?_getD, List.getD_eq_getElem?_getD, List.getElem?_eq_getElem hi, List.getElem?_eq_getElem (by omega)] at this
            rw [List.getElem?_eq_getElem hi, List.getElem?_eq_getElem (by omega)]
            exact congrArg some this.symm
          · rw [List.getElem?_eq_none (by omega), List.getElem?_eq_none (by omega)])
        refine sub_mk [] rfl rfl rfl ?_
        simp only [tmSub, hpSub, objSub, eqTm, eqHp, rn, lk, SV.ren, SV.renC, SV.renB, SV.renA, ren_ints, ren_strs, ren_pl, ren_svs, SV.v.injEq, Value.int.injEq, Body.ints.injEq, SV.ptr.injEq, SV.sl.injEq, Value.string.injEq, Value.bool.injEq, List.map_cons, List.map_nil, forall_const, Nat.reduceLT, Nat.lt_add_one, imp_self, true_and, and_true, and_self, ob_some, get_mk, lk_cons, ↓reduceIte, Nat.reduceEqDiff, ne_eq, not_true_eq_false, not_false_eq_true, Nat.one_ne_zero, Nat.zero_ne_one, Nat.succ_ne_self, Nat.reduceAdd, Bool.false_eq_true, false_implies, implies_true, reduceCtorEq]
  · have a0 : decide ((C.now.length : Int) = (P.length : Int)) = false := decide_eq_false (by omega)
    simp -implicitDefEqProofs only [go_sem, a0]
    obtain rfl : r = false := Bool.eq_false_iff.2 fun e => c0 (by rw [← hr.1 e, prs_len])
    refine sub_mk [] rfl rfl rfl ?_
    simp only [tmSub, hpSub, objSub, eqTm, eqHp, rn, lk, SV.ren, SV.renC, SV.renB, SV.renA, ren_ints, ren_strs, ren_pl, ren_svs, SV.v.injEq, Value.int.injEq, Body.ints.injEq, SV.ptr.injEq, SV.sl.injEq, Value.string.injEq, Value.bool.injEq, List.map_cons, List.map_nil, forall_const, Nat.reduceLT, Nat.lt_add_one, imp_self, true_and, and_true, and_self, ob_some, get_mk, lk_cons, ↓reduceIte, Nat.reduceEqDiff, ne_eq, not_true_eq_false, not_false_eq_true, Nat.one_ne_zero, Nat.zero_ne_one, Nat.succ_ne_self, Nat.reduceAdd, Bool.false_eq_true, false_implies, implies_true, reduceCtorEq]
theorem sameS {P : PL} {r : Bool} {i D a b c M W q : Nat} {u : Bool} (h : CellAt H C d i D a b c M W) (hq : H.get q = some ⟨u, .pl (prw P)⟩) (h0 : 0 < q) (hE : Es C.now) (hP : P.length ≤ 64) {m : Nat} (hm : m = P.length) (hr : r = true ↔ prs C.now = P) :
    SpecAt Tryz.prog nwsame [.ptr i 0, .sl q 0 m 2] H n (.v (.bool r)) H n := by
  subst hm
  obtain ⟨g1, g2, g3, g4, g5, g6, g7, hp, _, _⟩ := h
  simp at hp
  have := lift_ro (n := n) (okT.spec twsame (sameWW (x := H.x) (d := d) (C := C) hE hP hr)) [(1, i), (2, D), (3, a), (4, b), (5, c), (6, M), (7, W), (8, q)] rfl rfl rfl (by omega) rfl rfl
    ⟨sub_ro rfl hp.1.1 g1 rfl, sub_ro rfl hp.2.1.1 g2 rfl, sub_ro rfl hp.2.2.1.1 g3 rfl, sub_ro rfl hp.2.2.2.1.1 g4 rfl, sub_ro rfl hp.2.2.2.2.1.1 g5 rfl, sub_ro rfl hp.2.2.2.2.2.1.1 g6 rfl, sub_ro rfl hp.2.2.2.2.2.2.1 g7 rfl, sub_ro rfl h0 hq rfl, trivial⟩ (by simp [apartB, apart1, rn, lk]) (by simp [wrNZ, rn, lk]) rfl
  exact this
end
end Go.Sx