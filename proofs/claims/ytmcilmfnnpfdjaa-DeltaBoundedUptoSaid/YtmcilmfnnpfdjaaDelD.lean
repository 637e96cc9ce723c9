/- Delta, plain: what Make lays turns the one text into the other. -/
import Derived.Test.YtmcilmfnnpfdjaaDelC

set_option linter.unusedVariables false
set_option linter.unusedSimpArgs false
set_option maxRecDepth 100000
namespace Go.Sx
open Go.Proofs
variable {p q : Pt}
theorem ex_l {a b : ByteArray} {i j : Nat} (h : j ≤ a.size) : (a ++ b).extract i j = a.extract i j := by
  apply bts_inj
  rw [bts_ext, bts_ext, bts_app]
  have hl := bts_len a
  by_cases c : i ≤ j
  · rw [List.drop_append_of_le_length (by omega), List.take_append_of_le_length (by rw [List.length_drop]; omega)]
  · rw [show j - i = 0 by omega]; rfl
theorem ex_r {a b : ByteArray} {k : Nat} (h : a.size = k) : (a ++ b).extract k (a ++ b).size = b := by
  apply bts_inj
  rw [bts_ext, bts_app]
  have hl := bts_len a
  rw [List.drop_left' (by omega), List.take_of_length_le (by rw [bts_len, ByteArray.size_append]; omega)]
theorem ex_a {a b : ByteArray} {k : Nat} (h : a.size = k) : (a ++ b).extract 0 k = a := by
  rw [ex_l (by omega), ← h, ext_all]
theorem ex_cat {s : ByteArray} {i j : Nat} (h : i ≤ j) (hj : j ≤ s.size) : s.extract 0 i ++ s.extract i j = s.extract 0 j := by
  apply bts_inj
  rw [bts_app, bts_ext, bts_ext, bts_ext, List.drop_zero]
  have : j = i + (j - i) := by omega
  conv => rhs; rw [show j - 0 = (i - 0) + (j - i) by omega, List.take_add]
  simp
theorem ex_mid {s : ByteArray} {a i j : Nat} (h0 : a ≤ i) (h : i ≤ j) (hj : j ≤ s.size) : s.extract a i ++ s.extract i j = s.extract a j := by
  apply bts_inj
  rw [bts_app, bts_ext, bts_ext, bts_ext]
  conv => rhs; rw [show j - a = (i - a) + (j - i) by omega, List.take_add]
  rw [List.drop_drop, show a + (i - a) = i by omega]
def cpB (f k : Nat) : ByteArray := tx (be 1 1 ++ be f 4 ++ be k 2)
def adB (k : Nat) : ByteArray := tx (be 2 1 ++ be k 2)
theorem cpB_bts {f k : Nat} : bts (cpB f k) = be 1 1 ++ be f 4 ++ be k 2 := btx (fun y hy => by
  rcases List.mem_append.1 hy with h | h
  · rcases List.mem_append.1 h with h | h <;> exact be_bytes _ h
  · exact be_bytes _ h)
theorem adB_bts {k : Nat} : bts (adB k) = be 2 1 ++ be k 2 := btx (fun y hy => by
  rcases List.mem_append.1 hy with h | h <;> exact be_bytes _ h)
theorem cpB_size {f k : Nat} : (cpB f k).size = 7 := by rw [← bts_len, cpB_bts]; simp [be_len]
theorem adB_size {k : Nat} : (adB k).size = 3 := by rw [← bts_len, adB_bts]; simp [be_len]
theorem cp_fld {f k : Nat} (hf : f < 4294967296) (hk : k < 65536) : num ((cpB f k).extract 0 1) = 1 ∧ num ((cpB f k).extract 1 5) = f ∧ num ((cpB f k).extract 5 7) = k := by
  refine ⟨num_be (k := 1) ?_ (by decide), num_be (k := 4) ?_ (by omega), num_be (k := 2) ?_ (by omega)⟩ <;> (rw [bts_ext, cpB_bts]; rfl)
theorem ad_fld {k : Nat} (hk : k < 65536) : num ((adB k).extract 0 1) = 2 ∧ num ((adB k).extract 1 3) = k := by
  refine ⟨num_be (k := 1) ?_ (by decide), num_be (k := 2) ?_ (by omega)⟩ <;> (rw [bts_ext, adB_bts]; rfl)
/-- A copy is taken. -/
theorem tk_copy {f k : Nat} {w : ByteArray} (ha : p.adds = 0) (hb : p.begun = true) (hw : p.wait = cpB f k ++ w) (hf : f + k ≤ p.old.size) (ho : p.old.size ≤ 8192) (hk : k ≠ 0) (hm : p.made.size + k ≤ p.size) :
    tkP p = (true, { p with wait := w, made := p.made ++ p.old.extract f (f + k) }) := by
  have hz : p.wait.size = 7 + w.size := by rw [hw, ByteArray.size_append, cpB_size]
  obtain ⟨n1, n2, n3⟩ := cp_fld (f := f) (k := k) (by omega) (by omega)
  have e1 : p.wait.extract 0 1 = (cpB f k).extract 0 1 := by rw [hw]; exact ex_l (by rw [cpB_size]; decide)
  have e2 : p.wait.extract 1 5 = (cpB f k).extract 1 5 := by rw [hw]; exact ex_l (by rw [cpB_size]; decide)
  have e3 : p.wait.extract 5 7 = (cpB f k).extract 5 7 := by rw [hw]; exact ex_l (by rw [cpB_size]; decide)
  have e4 : p.wait.extract 7 p.wait.size = w := by rw [hw]; exact ex_r cpB_size
  unfold tkP
  rw [if_neg (fun h => by omega), if_neg (fun h => by omega), if_neg (by rw [hb]; simp), e1, n1, if_neg (by simp), if_pos rfl, if_neg (by omega), e2, e3, n2, n3]
  unfold cpP
  rw [if_neg (by omega), if_neg (by omega), e4]
theorem tk_add {k : Nat} {w : ByteArray} (ha : p.adds = 0) (hb : p.begun = true) (hw : p.wait = adB k ++ w) (hk : k ≠ 0) (hk2 : k < 65536) (hm : p.made.size + k ≤ p.size) :
    tkP p = (true, { p with wait := w, adds := k }) := by
  have hz : p.wait.size = 3 + w.size := by rw [hw, ByteArray.size_append, adB_size]
  obtain ⟨n1, n2⟩ := ad_fld (k := k) (by omega)
  have e1 : p.wait.extract 0 1 = (adB k).extract 0 1 := by rw [hw]; exact ex_l (by rw [adB_size]; decide)
  have e2 : p.wait.extract 1 3 = (adB k).extract 1 3 := by rw [hw]; exact ex_l (by rw [adB_size]; decide)
  have e4 : p.wait.extract 3 p.wait.size = w := by rw [hw]; exact ex_r adB_size
  unfold tkP
  rw [if_neg (fun h => by omega), if_neg (fun h => by omega), if_neg (by rw [hb]; simp), e1, n1, if_neg (by simp), if_neg (by simp), if_neg (by omega), e2, n2]
  unfold adP
  rw [if_neg (by omega), if_neg (by omega), e4]
theorem tk_adds {r w : ByteArray} (ha : p.adds = r.size) (hr : r.size ≠ 0) (hw : p.wait = r ++ w) :
    tkP p = (true, { p with wait := w, made := p.made ++ r, adds := 0 }) := by
  have hz : p.wait.size = r.size + w.size := by rw [hw, ByteArray.size_append]
  have hmin : min p.adds p.wait.size = r.size := by omega
  have e1 : p.wait.extract 0 r.size = r := by rw [hw]; exact ex_a rfl
  have e2 : p.wait.extract r.size p.wait.size = w := by rw [hw]; exact ex_r rfl
  unfold tkP
  rw [if_pos ⟨by omega, by omega⟩, hmin, e1, e2, ha, Nat.sub_self]
/-- In the midst of the instructions. -/
structure Mid (old text : ByteArray) (p : Pt) : Prop where
  ok : p.ok
  e : p.e = 0
  b : p.begun = true
  ad : p.adds = 0
  ol : p.old = old
  sz : p.size = text.size
theorem rn_copy {old text w : ByteArray} {f k : Nat} (hp : Mid old text p) (hw : p.wait = cpB f k ++ w) (hf : f + k ≤ old.size) (hk : k ≠ 0) (hm : p.made.size + k ≤ text.size) :
    runP p = runP { p with wait := w, made := p.made ++ old.extract f (f + k) } ∧ Mid old text { p with wait := w, made := p.made ++ old.extract f (f + k) } := by
  obtain rfl := hp.ol
  obtain ⟨g1, g2, g3⟩ := hp.ok.oe hp.e
  have hfr : p.fresh := fun h => by rw [hp.b] at h; cases h
  have ht := tk_copy hp.ad hp.b hw hf g1 hk (by rw [hp.sz]; exact hm)
  have hs := run_step hp.ok hfr hp.e (by rw [ht])
  have t := (tk_ok hp.ok hfr hp.e).1
  rw [ht] at hs t
  exact ⟨hs, t.ok, hp.e, hp.b, hp.ad, hp.ol, hp.sz⟩
theorem rn_add {old text r w : ByteArray} (hp : Mid old text p) (hw : p.wait = adB r.size ++ (r ++ w)) (hr : r.size ≠ 0) (hr2 : r.size < 65536) (hm : p.made.size + r.size ≤ text.size) :
    runP p = runP { p with wait := w, made := p.made ++ r } ∧ Mid old text { p with wait := w, made := p.made ++ r } := by
  have hfr : p.fresh := fun h => by rw [hp.b] at h; cases h
  have ht := tk_add hp.ad hp.b hw hr hr2 (by rw [hp.sz]; exact hm)
  have hs := run_step hp.ok hfr hp.e (by rw [ht])
  obtain ⟨t, tf⟩ := tk_ok hp.ok hfr hp.e
  rw [ht] at hs t tf
  have ht2 : tkP { p with wait := r ++ w, adds := r.size } = (true, { p with wait := w, made := p.made ++ r, adds := 0 }) := tk_adds rfl hr rfl
  have he : ({ p with wait := r ++ w, adds := r.size } : Pt).e = 0 := hp.e
  have hs2 := run_step t.ok tf he (by rw [ht2])
  have t2 := (tk_ok t.ok tf he).1
  rw [ht2] at hs2 t2
  have e : ({ p with wait := w, made := p.made ++ r, adds := 0 } : Pt) = { p with wait := w, made := p.made ++ r } := by
    have := hp.ad
    cases p
    simp only at this
    subst this
    rfl
  rw [e] at hs2 t2
  exact ⟨hs.trans hs2, t2.ok, hp.e, hp.b, hp.ad, hp.ol, hp.sz⟩
theorem run_end {old text : ByteArray} (hp : Mid old text p) (hw : p.wait.size = 0) : runP p = p := run_stop (by
  unfold tkP
  rw [if_neg (fun h => h.2 hw), if_pos (.inr hw)])
theorem fn_same {old text : ByteArray} {a : Nat} (ha : a ≤ text.size) : old.extract (fnP old text a).1 ((fnP old text a).1 + (fnP old text a).2) = text.extract a (a + (fnP old text a).2) := by
  have nil : ∀ (s : ByteArray) (i : Nat), s.extract i (i + 0) = ⟨#[]⟩ := fun s i => ba_zero (by rw [ex_size]; omega)
  unfold fnP
  split
  · rename_i h
    obtain ⟨h1, h2⟩ := hpre_ok h.2
    show old.extract 0 (0 + old.size) = text.extract a (a + old.size)
    rw [Nat.zero_add, ext_all]
    rw [ex_size] at h1
    rw [ext_ext (by omega)] at h2
    exact h2.symm
  split
  · split
    · exact (nil _ _).trans (nil _ _).symm
    · rename_i c i hi
      obtain ⟨h1, h2, h3⟩ := luN_ok hi
      have key : ∀ (g k : Nat), i + k ≤ old.size → a + k ≤ text.size → old.extract i (i + k) = text.extract a (a + k) → old.extract i (i + extL old text i a g k) = text.extract a (a + extL old text i a g k) := by
        intro g
        induction g with
        | zero => intro k _ _ h; exact h
        | succ g ih =>
          intro k ki ka h
          unfold extL
          split
          · rename_i c
            refine ih (k + 1) (by omega) (by omega) ?_
            rw [← Nat.add_assoc, ← Nat.add_assoc, ← ex_mid (i := i + k) (by omega) (by omega) (by omega), ← ex_mid (s := text) (i := a + k) (by omega) (by omega) (by omega), h]
            congr 1
            apply bts_inj
            rw [bts_ext, bts_ext, show i + k + 1 - (i + k) = 1 by omega, show a + k + 1 - (a + k) = 1 by omega]
            have l1 := bts_len old
            have l2 := bts_len text
            have c3 := c.2.2
            rw [List.take_one, List.take_one, List.head?_drop, List.head?_drop]
            rw [List.getD_eq_getElem?_getD, List.getD_eq_getElem?_getD, List.getElem?_eq_getElem (by omega), List.getElem?_eq_getElem (by omega)] at c3
            rw [List.getElem?_eq_getElem (by omega), List.getElem?_eq_getElem (by omega)]
            simp only [Option.getD_some] at c3
            rw [c3]
          · exact h
      exact key old.size 16 h1 (by assumption) h2
  · exact (nil _ _).trans (nil _ _).symm
def mkEnd (old text : ByteArray) (s : Mk) : List Int := addB (mkFin old text s).rest (mkFin old text s).bs
def adT (r : ByteArray) : List Int := if r.size = 0 then [] else be 2 1 ++ (be r.size 2 ++ bts r)
theorem addB_adT {r : ByteArray} {bs : List Int} : addB r bs = bs ++ adT r := by
  unfold addB adT
  split
  · rw [List.append_nil]
  · rw [List.append_assoc]
theorem adT_len {r : ByteArray} : (adT r).length ≤ r.size + 3 ∧ (r.size = 0 → adT r = []) := by
  unfold adT
  split
  · exact ⟨by simp, fun _ => rfl⟩
  · rename_i h; exact ⟨by simp only [List.length_append, be_len, bts_len]; omega, fun h2 => absurd h2 h⟩
theorem run_adT {old text r w : ByteArray} (hp : Mid old text p) (hw : p.wait = tx (adT r) ++ w) (hr : r.size ≤ 8192) (hm : p.made.size + r.size ≤ text.size) :
    runP p = runP { p with wait := w, made := p.made ++ r } ∧ Mid old text { p with wait := w, made := p.made ++ r } := by
  by_cases c : r.size = 0
  · rw [adT_len.2 c] at hw
    have e1 : p.wait = w := by rw [hw]; exact ba_nil
    have e2 : p.made ++ r = p.made := by rw [ba_zero c]; apply ByteArray.ext; simp
    rw [e2, ← e1]
    exact ⟨rfl, hp⟩
  · refine rn_add hp ?_ c (by omega) hm
    rw [hw]
    unfold adT
    rw [if_neg c, ← List.append_assoc, tx_app, tx_bts]
    apply ByteArray.ext
    simp only [ByteArray.data_append, Array.append_assoc]
    rfl
theorem mk_runs {old text : ByteArray} (ho : old.size ≤ 8192) (ht : text.size ≤ 8192) : ∀ (g : Nat) {s : Mk}, s.ok text → s.rest = text.extract (s.at_ - s.rest.size) s.at_ → text.size - s.at_ ≤ g →
    ∃ T : List Int, mkEnd old text s = s.bs ++ T ∧ T.length ≤ (text.size - s.at_) + s.rest.size + 3 + (if s.at_ = 0 then 7 else 0) ∧
      ∀ p, Mid old text p → p.made = text.extract 0 (s.at_ - s.rest.size) → p.wait = tx T → runP p = { p with wait := ⟨#[]⟩, made := text } := by
  intro g
  induction g with
  | zero =>
    intro s hs hr hg
    have ha := hs.a
    have hrr := hs.r
    have hcat : text.extract 0 (s.at_ - s.rest.size) ++ s.rest = text.extract 0 s.at_ := by
      have h := ex_cat (s := text) (i := s.at_ - s.rest.size) (j := s.at_) (by omega) (by omega)
      rw [← hr] at h
      exact h
    have c : ¬s.at_ < text.size := by omega
    have hat : s.at_ = text.size := by omega
    refine ⟨adT s.rest, by unfold mkEnd; rw [fin_stop c, addB_adT], ?_, ?_⟩
    · have := (adT_len (r := s.rest)).1
      omega
    · intro p hp hm hw
      have e0 : p.wait = tx (adT s.rest) ++ ⟨#[]⟩ := by rw [hw]; apply ByteArray.ext; simp
      have hsz : p.made.size = s.at_ - s.rest.size := by rw [hm, ex_size]; omega
      obtain ⟨h1, h2⟩ := run_adT hp e0 (by omega) (by omega)
      rw [h1, run_end h2 rfl]
      rw [hm, hcat, hat, ext_all]
  | succ g ih =>
    intro s hs hr hg
    have ha := hs.a
    have hrr := hs.r
    have hcat : text.extract 0 (s.at_ - s.rest.size) ++ s.rest = text.extract 0 s.at_ := by
      have h := ex_cat (s := text) (i := s.at_ - s.rest.size) (j := s.at_) (by omega) (by omega)
      rw [← hr] at h
      exact h
    by_cases c : s.at_ < text.size
    rotate_left
    · have hat : s.at_ = text.size := by omega
      refine ⟨adT s.rest, by unfold mkEnd; rw [fin_stop c, addB_adT], ?_, ?_⟩
      · have := (adT_len (r := s.rest)).1
        omega
      · intro p hp hm hw
        have e0 : p.wait = tx (adT s.rest) ++ ⟨#[]⟩ := by rw [hw]; apply ByteArray.ext; simp
        have hsz : p.made.size = s.at_ - s.rest.size := by rw [hm, ex_size]; omega
        obtain ⟨h1, h2⟩ := run_adT hp e0 (by omega) (by omega)
        rw [h1, run_end h2 rfl]
        rw [hm, hcat, hat, ext_all]
    obtain ⟨o1, o2⟩ := step_ok (old := old) hs c
    have hE : mkEnd old text s = mkEnd old text (mkStep old text s) := by unfold mkEnd; rw [fin_step hs c]
    have hfs := fn_same (old := old) (text := text) ha
    obtain ⟨f1, f2⟩ := fn_bd (old := old) ha
    have hst : mkStep old text s = if (fnP old text s.at_).2 < 10 ∧ (fnP old text s.at_).2 ≠ text.size then ⟨s.at_ + 1, s.rest ++ text.extract s.at_ (s.at_ + 1), s.bs⟩
      else ⟨s.at_ + (fnP old text s.at_).2, ⟨#[]⟩, addB s.rest s.bs ++ be 1 1 ++ be (fnP old text s.at_).1 4 ++ be (fnP old text s.at_).2 2⟩ := rfl
    generalize fnP old text s.at_ = fk at hst hfs f1 f2
    obtain ⟨f, k⟩ := fk
    simp only at hst hfs f1 f2
    by_cases ck : k < 10 ∧ k ≠ text.size
    · rw [if_pos ck] at hst
      rw [hst] at o1 o2 hE
      have e1 : (text.extract s.at_ (s.at_ + 1)).size = 1 := by rw [ex_size]; omega
      have e2 : (s.rest ++ text.extract s.at_ (s.at_ + 1)).size = s.rest.size + 1 := by rw [ByteArray.size_append, e1]
      obtain ⟨T, t1, t2, t3⟩ := ih o1 (by
        show s.rest ++ text.extract s.at_ (s.at_ + 1) = text.extract (s.at_ + 1 - (s.rest ++ text.extract s.at_ (s.at_ + 1)).size) (s.at_ + 1)
        rw [e2, show s.at_ + 1 - (s.rest.size + 1) = s.at_ - s.rest.size by omega]
        conv => lhs; rw [hr]
        exact ex_mid (by omega) (by omega) (by omega)) (by show text.size - (s.at_ + 1) ≤ g; omega)
      refine ⟨T, hE.trans t1, ?_, ?_⟩
      · have t2 : T.length ≤ (text.size - (s.at_ + 1)) + (s.rest ++ text.extract s.at_ (s.at_ + 1)).size + 3 + (if s.at_ + 1 = 0 then 7 else 0) := t2
        rw [e2, if_neg (by omega)] at t2
        omega
      · intro p hp hm hw
        refine t3 p hp ?_ hw
        show p.made = text.extract 0 (s.at_ + 1 - (s.rest ++ text.extract s.at_ (s.at_ + 1)).size)
        rw [e2, hm]
        congr 1
        omega
    · rw [if_neg ck] at hst
      rw [hst] at o1 o2 hE
      have o2 : s.at_ < s.at_ + k := o2
      obtain ⟨T, t1, t2, t3⟩ := ih o1 (by
        show (⟨#[]⟩ : ByteArray) = text.extract (s.at_ + k - 0) (s.at_ + k)
        exact (ba_zero (by rw [ex_size]; omega)).symm) (by show text.size - (s.at_ + k) ≤ g; omega)
      have t1 : mkEnd old text ⟨s.at_ + k, ⟨#[]⟩, addB s.rest s.bs ++ be 1 1 ++ be f 4 ++ be k 2⟩ = addB s.rest s.bs ++ be 1 1 ++ be f 4 ++ be k 2 ++ T := t1
      have t2 : T.length ≤ (text.size - (s.at_ + k)) + 0 + 3 + (if s.at_ + k = 0 then 7 else 0) := t2
      rw [if_neg (by omega)] at t2
      refine ⟨adT s.rest ++ ((be 1 1 ++ be f 4 ++ be k 2) ++ T), ?_, ?_, ?_⟩
      · rw [hE, t1, addB_adT]
        simp only [List.append_assoc]
      · have al := (adT_len (r := s.rest))
        simp only [List.length_append, be_len]
        by_cases hk : 10 ≤ k
        · split <;> omega
        · have hks : k = text.size := by
            by_cases h : k = text.size
            · exact h
            · exact absurd ⟨by omega, h⟩ ck
          have ha0 : s.at_ = 0 := by omega
          have hr0 : s.rest.size = 0 := by omega
          rw [al.2 hr0, if_pos ha0]
          simp only [List.length_nil]
          omega
      · intro p hp hm hw
        have e0 : p.wait = tx (adT s.rest) ++ (cpB f k ++ tx T) := by rw [hw, tx_app, tx_app]; rfl
        have hsz : p.made.size = s.at_ - s.rest.size := by rw [hm, ex_size]; omega
        obtain ⟨h1, h2⟩ := run_adT hp e0 (by omega) (by omega)
        rw [hm, hcat] at h1 h2
        have hsz2 : (text.extract 0 s.at_).size + k ≤ text.size := by rw [ex_size]; omega
        have h3 := rn_copy h2 (w := tx T) (f := f) (k := k) rfl f1 (by omega) hsz2
        have hmd2 : text.extract 0 s.at_ ++ old.extract f (f + k) = text.extract 0 (s.at_ + k) := by
          rw [hfs]
          exact ex_cat (by omega) (by omega)
        have h3 : runP { p with wait := cpB f k ++ tx T, made := text.extract 0 s.at_ } = runP { p with wait := tx T, made := text.extract 0 s.at_ ++ old.extract f (f + k) } ∧ Mid old text { p with wait := tx T, made := text.extract 0 s.at_ ++ old.extract f (f + k) } := h3
        rw [hmd2] at h3
        exact h1.trans (h3.1.trans (t3 _ h3.2 rfl rfl))
end Go.Sx

/- Delta, plain: a made patch turns the one text into the other. -/
set_option linter.unusedVariables false
set_option linter.unusedSimpArgs false
set_option maxRecDepth 100000
namespace Go.Sx
attribute [local go_sem ↓] bind_mk intsB_mk strsB_mk svB_mk fnVC ob_some vc_skip vc_exit vc_ret vc_seq vc_block kSeq_normal kSeq_exit kSeq_ret kBlock_normal kBlock_exit kBlock_ret vc_reg vc_regD vc_cond condK_true condK_false vc_loop kLoop_exit kLoop_ret kRoll_normal kRoll_exit kRoll_ret vcOps_nil vcOps_cons gd_bool gd_undef put_some put_none vcT_fin vcT_pure vcT_act vcT_acts vcT_stop stab_none stab_some stabM_nil stabM_cons stabO_ld stabO_ldn stabO_slP stabO_b2s fldOf_ai fldOf_agg fldOf_ait fldOf_aggt intsOf_nil intsOf_cons strsOf_nil strsOf_cons c_omap ob_if lk_nil lk_cons ev_t ev_k z_mov z_pick z_bin z_binB z_binP z_un z_r2s z_conv z_s2b z_b2s z_mkM z_luM z_upM plV_v plV_agg mpOf_mp mpOf_nil mpUp_mp asM_mp luV_ok luV_v z_allocT aggOf_mk z_boxT z_alloc z_bld z_bldI z_rowI z_rowS z_ld z_ldn z_st z_stn asN_ptr asN_fn z_nilck z_fld z_fadr z_idxA z_idxP z_idxS z_idxV z_slS z_slL z_slP z_mk z_lenS z_lenL z_app appC_ints appC_pl appC_sv appC_strs isS_strs loose_ints loose_pl loose_sv z_slM z_callv callvK_fn callvK_f callvK_yl vc_rangeF rfEnd_eq rfGo_none rfGo_ret rfGo_exit yGo_mk yEnd_n yEnd_r yEnd_e yRdy_mk yMid_n putPs_nil putPs_cons leaf_v leaf_ptr leaf_sl leaf_yl leaf_mp z_appS z_appST z_appZ z_cpyS z_mkfn reps_int reps_str z_rowV z_slnil nilK_zero z_cpy z_call asT_tup z_extT z_box boxOf_ai boxOf_agg boxOf_int boxOf_str boxOf_bool boxOf_ptr boxOf_sl sbin_int sbin_str sbinB_mk sbinP_nn sbinP_pn sbinP_np i_add i_sub i_mul i_quo i_rem i_and i_or i_xor i_andNot i_shl i_shr i_eql i_neq i_lss i_leq i_gtr i_geq st_add st_eql st_neq st_lss st_leq st_gtr st_geq bo_eql bo_neq pt_eql pt_neq un_neg un_xor un_not asI_mk asB_mk asS_mk asP_mk asSl_mk asBy_mk bnd_none bnd_some get_mk hput_mk hdel_mk kill_eq wrOf_eq rowOf_eq rsvs_0 rsvs_1 rsvs_2 rsvs_3 rsv_t rsv_c1 rsv_cn nt_v nt_ptr nt_sl nt_agg nt_ai get_ints get_strs get_pl get_sv getN_ints getN_sv set_ints set_strs set_sv setN_ints setN_sv part_ints part_strs part_sv cat_ints cat_strs cat_sv over_ints over_strs over_sv ones_ints ones_strs evs_nil evs_cons condK_eqt condK_eqf det_callP V_ns V_nn V_gs V_gn obC_mk fresh_ev freshT_ev freshR_ev setN_plagg setN_intsv setN_svai setN_svagg over_intsv set_pl setN_pl setN_plai getN_pl getN_strs part_pl cat_pl over_pl over_plints z_mm
attribute [local go_sem] initTm ne_eq not_true_eq_false not_false_eq_true true_and and_true List.length_cons List.length_nil Int.toNat_natCast Nat.add_zero Nat.zero_add Nat.mul_one List.getElem?_cons_zero List.drop_zero List.take_length List.take_succ_cons List.take_zero List.take_nil List.drop_succ_cons Option.map_some Nat.le_refl implies_true List.getElem?_cons_succ decide_true decide_false Bool.not_true Bool.not_false beq_self_eq_true Nat.succ_ne_self Nat.one_ne_zero Nat.zero_ne_one vk_mk hk_mk nk_mk tok_eq plsOf_map intsOf_map bodyOf_pl bodyOf_ints bodyOf_strs bodyOf_sv part_aggv part_agg part_ai part_int part_str part_bool part_sl part_ptr part_nil numsOf_map u_int u_str u_bool u_pnil u_sl u_ptr u_oci u_ocs evq_nil evq_cons fillS_nil fillS_cons u_ocb ones_pl cells_sv cells_ints cells_strs cells_pl smms_nil smms_cons smm_min smm_max plsOf_nil List.nil_append List.all_cons List.all_nil Bool.and_self Bool.true_and Bool.and_true zws_len zw_len zi_len List.set_cons_zero List.set_cons_succ List.flatMap_cons List.flatMap_nil List.append_nil
attribute [local go_sem_proc] Nat.reduceEqDiff Nat.reduceAdd Nat.reduceMul Nat.reduceLT Nat.reduceLeDiff Nat.reduceSub Int.reduceToNat Int.reduceLE Int.reduceLT reduceCtorEq Int.reduceEq Int.reduceGT Int.reduceGE Int.reduceNeg
attribute [local go_sem_proc ↓] reduceIte
section
open Go.Proofs
variable {p q : Pt} {H : Hp} {n : Nat} {x : Nat → Option SO}
def hdL (a b : Nat) (h1 h2 : ByteArray) : List Int := be a 4 ++ bts h1 ++ be b 4 ++ bts h2
theorem hdL_bts {a b : Nat} {h1 h2 : ByteArray} : bts (tx (hdL a b h1 h2)) = hdL a b h1 h2 := btx (fun y hy => by
  unfold hdL at hy
  rcases List.mem_append.1 hy with h | h
  · rcases List.mem_append.1 h with h | h
    · rcases List.mem_append.1 h with h | h
      · exact be_bytes _ h
      · exact bts_bytes _ h
    · exact be_bytes _ h
  · exact bts_bytes _ h)
theorem hdL_size {a b : Nat} {h1 h2 : ByteArray} (e1 : h1.size = 32) (e2 : h2.size = 32) : (tx (hdL a b h1 h2)).size = 72 := by
  rw [← bts_len, hdL_bts]; unfold hdL; simp only [List.length_append, be_len, bts_len, e1, e2]
theorem hd_fld {a b : Nat} {h1 h2 : ByteArray} (ha : a < 4294967296) (hb : b < 4294967296) (e1 : h1.size = 32) (e2 : h2.size = 32) :
    num ((tx (hdL a b h1 h2)).extract 0 4) = a ∧ (tx (hdL a b h1 h2)).extract 4 36 = h1 ∧ num ((tx (hdL a b h1 h2)).extract 36 40) = b ∧ (tx (hdL a b h1 h2)).extract 40 72 = h2 := by
  have l1 : (be a 4).length = 4 := be_len
  have l2 : (bts h1).length = 32 := by rw [bts_len, e1]
  have l3 : (be b 4).length = 4 := be_len
  have l4 : (bts h2).length = 32 := by rw [bts_len, e2]
  refine ⟨num_be (k := 4) ?_ (by omega), bts_inj ?_, num_be (k := 4) ?_ (by omega), bts_inj ?_⟩
  · rw [bts_ext, hdL_bts]; unfold hdL
    rw [List.drop_zero, List.append_assoc, List.append_assoc, List.take_left' (by omega)]
  · rw [bts_ext, hdL_bts]; unfold hdL
    rw [List.append_assoc, List.append_assoc, List.drop_left' (by omega), List.take_left' (by omega)]
  · rw [bts_ext, hdL_bts]; unfold hdL
    rw [List.append_assoc, List.drop_left' (by rw [List.length_append]; omega), List.take_left' (by omega)]
  · rw [bts_ext, hdL_bts]; unfold hdL
    rw [List.drop_left' (by rw [List.length_append, List.length_append]; omega), List.take_of_length_le (by omega)]
theorem mkB_T {old text : ByteArray} (ho : old.size ≤ 8192) (ht : text.size ≤ 8192) : ∃ T : List Int, mkB old text = hdB old text ++ T ∧ T.length ≤ text.size + 10 ∧
      ∀ p, Mid old text p → p.made = ⟨#[]⟩ → p.wait = tx T → runP p = { p with wait := ⟨#[]⟩, made := text } := by
  obtain ⟨T, h1, h2, h3⟩ := mk_runs ho ht (text.size) (mk0_ok (old := old)) (by
    show (⟨#[]⟩ : ByteArray) = text.extract (0 - 0) 0
    exact (ba_zero (by rw [ex_size]; omega)).symm) (by show text.size - 0 ≤ _; omega)
  refine ⟨T, h1, ?_, fun p hp hm hw => h3 p hp (hm.trans ?_) hw⟩
  · have h2 : T.length ≤ (text.size - 0) + 0 + 3 + (if (0 : Nat) = 0 then 7 else 0) := h2
    rw [if_pos rfl] at h2
    omega
  · show (⟨#[]⟩ : ByteArray) = text.extract 0 (0 - 0)
    exact (ba_zero (by rw [ex_size]; omega)).symm
theorem hdB_hdL {old text : ByteArray} : hdB old text = hdL old.size text.size (sha (bts old)) (sha (bts text)) := rfl
theorem mk_size {old text : ByteArray} (ho : old.size ≤ 8192) (ht : text.size ≤ 8192) : 72 ≤ (tx (mkB old text)).size ∧ (tx (mkB old text)).size ≤ text.size + 82 := by
  obtain ⟨T, h1, h2, h3⟩ := mkB_T ho ht
  have hh : (hdB old text).length = 72 := by unfold hdB; simp only [List.length_append, be_len, bts_len, sha_size]
  rw [h1, tx_sz, List.length_append, hh]
  omega
theorem in_nw {old s : ByteArray} (hs : s.size ≤ 16384) : inP (nwP old) s = { nwP old with seen := s.size, wait := s } := by
  have e1 : (⟨#[]⟩ : ByteArray) ++ s.extract 0 (min s.size (16384 - 0)) = s := by rw [ba_nil, show min s.size (16384 - 0) = s.size by omega, ext_all]
  show ({ nwP old with seen := 0 + s.size, wait := ⟨#[]⟩ ++ s.extract 0 (min s.size (16384 - 0)) } : Pt) = _
  rw [e1, Nat.zero_add]
theorem nw_e {old : ByteArray} (ho : old.size ≤ 8192) : (nwP old).e = 0 := if_neg (by omega)
theorem make_apply {old text : ByteArray} (ho : old.size ≤ 8192) (ht : text.size ≤ 8192) : apV old (tx (mkB old text)) = .tup [.v (.string text), .v (.int .i64 0)] := by
  obtain ⟨T, h1, h2, h3⟩ := mkB_T ho ht
  have hsz := mk_size ho ht
  generalize hs : tx (mkB old text) = s at hsz
  have hs2 : s = tx (hdB old text) ++ tx T := by rw [← hs, h1, tx_app]
  have h72 : (tx (hdB old text)).size = 72 := hdL_size (sha_size _) (sha_size _)
  obtain ⟨d1, d2, d3, d4⟩ := hd_fld (a := old.size) (b := text.size) (by omega) (by omega) (sha_size (bts old)) (sha_size (bts text))
  rw [← hdB_hdL] at d1 d2 d3 d4
  have e1 : s.extract 0 4 = (tx (hdB old text)).extract 0 4 := by rw [hs2]; exact ex_l (by omega)
  have e2 : s.extract 4 36 = (tx (hdB old text)).extract 4 36 := by rw [hs2]; exact ex_l (by omega)
  have e3 : s.extract 36 40 = (tx (hdB old text)).extract 36 40 := by rw [hs2]; exact ex_l (by omega)
  have e4 : s.extract 40 72 = (tx (hdB old text)).extract 40 72 := by rw [hs2]; exact ex_l (by omega)
  have e5 : s.extract 72 s.size = tx T := by rw [hs2]; exact ex_r h72
  have hin := in_nw (old := old) (s := s) (by omega)
  have hg := nw_good old
  have he : (nwP old).e = 0 := nw_e ho
  obtain ⟨i1, i2⟩ := in_ok hg he (s := s) (by omega)
  rw [hin] at i1 i2
  have htk : tkP { nwP old with seen := s.size, wait := s } = (true, { nwP old with seen := s.size, wait := tx T, size := text.size, hash := sha (bts text), begun := true }) := by
    have : tkP { nwP old with seen := s.size, wait := s } = hdP { nwP old with seen := s.size, wait := s } := by
      unfold tkP
      rw [if_neg (fun h => absurd h.1 (by show ¬0 < 0; decide)), if_neg (fun h => h.elim (fun h => absurd h (by show ¬0 < 0; decide)) (fun h => by have h : s.size = 0 := h; omega))]
      exact if_pos rfl
    rw [this]
    unfold hdP
    rw [if_neg (by show ¬s.size < 72; omega)]
    show (true, ({ nwP old with seen := s.size, wait := s.extract 72 s.size, size := num (s.extract 36 40), hash := s.extract 40 72, begun := true, e := if 8192 < num (s.extract 36 40) then 4 else if num (s.extract 0 4) ≠ old.size ∨ s.extract 4 36 ≠ sha (bts old) then 10 else (nwP old).e } : Pt)) = _
    rw [e1, e2, e3, e4, e5, d1, d2, d3, d4, if_neg (by omega), if_neg (fun h => h.elim (fun h => h rfl) fun h => h rfl)]
  have hst := run_step i1 i2 (by exact he) (by rw [htk])
  have t := (tk_ok i1 i2 (by exact he)).1
  rw [htk] at hst t
  have hrun := h3 { nwP old with seen := s.size, wait := tx T, size := text.size, hash := sha (bts text), begun := true } ⟨t.ok, he, rfl, rfl, rfl, rfl⟩ rfl rfl
  have hw : (wrP (nwP old) s).2 = outP { nwP old with seen := s.size, wait := ⟨#[]⟩, size := text.size, hash := sha (bts text), begun := true, made := text } := by
    unfold wrP
    rw [if_neg (fun h => h he), if_neg (by show ¬false = true; decide)]
    show outP (runP (inP (nwP old) s)) = _
    rw [hin, hst, hrun]
  have hout : outP { nwP old with seen := s.size, wait := ⟨#[]⟩, size := text.size, hash := sha (bts text), begun := true, made := text } = { nwP old with seen := min s.size 16385, wait := ⟨#[]⟩, size := text.size, hash := sha (bts text), begun := true, made := text } := by
    unfold outP
    rw [if_neg (fun h => by have h : 16384 < s.size := h.2; omega)]
  unfold apV
  rw [hw, hout]
  unfold clV clP
  rw [if_neg (fun h => h he), if_neg, if_neg (fun h => h rfl)]
  rintro (h | h | h | h)
  · exact absurd h (by show ¬true = false; decide)
  · exact absurd h (by show ¬0 < 0; decide)
  · exact h rfl
  · exact absurd h (by show ¬text.size < text.size; omega)
theorem makeS {old text : ByteArray} (ho : old.size ≤ 8192) (ht : text.size ≤ 8192) : SpecAt Try.prog nDMake [.v (.string old), .v (.string text)] H n (.tup [.v (.string (tx (mkB old text))), .v (.int .i64 0)]) H n :=
  lift_pure (okT.spec tDMake (makeW (x := H.x) ho ht)) rfl
theorem turnsS : SpecAt Try.prog nturns [] H n (.v (.bool true)) H n := lift_pure (okT.spec tturns (by
  unfold mturns
  simp -implicitDefEqProofs only [↓fnVC, initTm]
  simp -implicitDefEqProofs only [go_sem]
  refine at_call tDMake (makeS (by decide) (by decide)) ?_
  have hm := mk_size (old := ⟨#[97, 98, 99, 97, 98, 99]⟩) (text := ⟨#[97, 98, 99, 97, 98, 99, 120]⟩) (by decide) (by decide)
  have ha := make_apply (old := ⟨#[97, 98, 99, 97, 98, 99]⟩) (text := ⟨#[97, 98, 99, 97, 98, 99, 120]⟩) (by decide) (by decide)
  generalize tx (mkB ⟨#[97, 98, 99, 97, 98, 99]⟩ ⟨#[97, 98, 99, 97, 98, 99, 120]⟩) = s at hm ha ⊢
  have hm2 : s.size ≤ 89 := hm.2
  simp -implicitDefEqProofs only [go_sem]
  refine at_call tDApply (applyS (by omega)) ?_
  rw [ha]
  have sq : seq (⟨#[97, 98, 99, 97, 98, 99, 120]⟩ : ByteArray) ⟨#[97, 98, 99, 97, 98, 99, 120]⟩ = true := seq_self _
  have sz : decide ((s.size : Int) ≥ 72) = true := decide_eq_true (by omega)
  simp -implicitDefEqProofs only [go_sem, sq, sz]
  exact sub_val rfl (by decide) (by decide) rfl)) rfl
end
end Go.Sx