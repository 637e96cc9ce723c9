/- Delta, plain: a patch in pieces. -/
import Derived.Test.YtmcilmfnnpfdjaaDelE

set_option linter.unusedVariables false
set_option linter.unusedSimpArgs false
set_option maxRecDepth 100000
namespace Go.Sx
open Go.Proofs
variable {p q : Pt} {H : Hp} {n : Nat} {x : Nat → Option SO}
def moreP (p : Pt) (t : ByteArray) (k : Nat) : Pt := { p with wait := p.wait ++ t, seen := p.seen + k }
theorem ex_rest {a b : ByteArray} {k : Nat} (h : k ≤ a.size) : (a ++ b).extract k (a ++ b).size = a.extract k a.size ++ b := by
  apply bts_inj
  rw [bts_app, bts_ext, bts_ext, bts_app]
  have la := bts_len a
  have lb := bts_len b
  rw [List.drop_append_of_le_length (by omega), List.take_of_length_le (by rw [List.length_append, List.length_drop, ByteArray.size_append]; omega), List.take_of_length_le (by rw [List.length_drop]; omega)]
theorem app_nil {a : ByteArray} : a ++ (⟨#[]⟩ : ByteArray) = a := by apply ByteArray.ext; simp
theorem tk_more {t : ByteArray} {k : Nat} (ha : p.adds ≤ p.wait.size) (ht : (tkP p).1 = true) : tkP (moreP p t k) = (true, moreP (tkP p).2 t k) := by
  have hz : (moreP p t k).wait.size = p.wait.size + t.size := by show (p.wait ++ t).size = _; rw [ByteArray.size_append]
  have hw : (moreP p t k).wait = p.wait ++ t := rfl
  have hl : ∀ {i j : Nat}, j ≤ p.wait.size → (p.wait ++ t).extract i j = p.wait.extract i j := fun h => ex_l h
  by_cases c1 : 0 < p.adds ∧ p.wait.size ≠ 0
  · have e1 : tkP p = (true, { p with made := p.made ++ p.wait.extract 0 (min p.adds p.wait.size), wait := p.wait.extract (min p.adds p.wait.size) p.wait.size, adds := p.adds - min p.adds p.wait.size }) := if_pos c1
    have e2 : tkP (moreP p t k) = (true, { moreP p t k with made := p.made ++ (p.wait ++ t).extract 0 (min p.adds (p.wait ++ t).size), wait := (p.wait ++ t).extract (min p.adds (p.wait ++ t).size) (p.wait ++ t).size, adds := p.adds - min p.adds (p.wait ++ t).size }) := if_pos ⟨c1.1, by rw [hz]; omega⟩
    have m1 : min p.adds p.wait.size = p.adds := by omega
    have m2 : min p.adds (p.wait ++ t).size = p.adds := by rw [ByteArray.size_append]; omega
    rw [e1, e2, m1, m2, hl ha, ex_rest ha]
    rfl
  by_cases c2 : 0 < p.adds ∨ p.wait.size = 0
  · have e1 : tkP p = (false, p) := by unfold tkP; rw [if_neg c1, if_pos c2]
    rw [e1] at ht
    cases ht
  have c1' : ¬(0 < (moreP p t k).adds ∧ (moreP p t k).wait.size ≠ 0) := fun h => c2 (.inl h.1)
  have c2' : ¬(0 < (moreP p t k).adds ∨ (moreP p t k).wait.size = 0) := fun h => h.elim (fun h => c2 (.inl h)) (fun h => c2 (.inr (by omega)))
  by_cases c3 : p.begun = false
  · have e1 : tkP p = hdP p := by unfold tkP; rw [if_neg c1, if_neg c2, if_pos c3]
    have e2 : tkP (moreP p t k) = hdP (moreP p t k) := by unfold tkP; rw [if_neg c1', if_neg c2']; exact if_pos c3
    rw [e1] at ht ⊢
    rw [e2]
    unfold hdP at ht ⊢
    by_cases c4 : p.wait.size < 72
    · rw [if_pos c4] at ht; cases ht
    · rw [if_neg c4, if_neg (by omega), hw, hl (i := 36) (j := 40) (by omega), hl (i := 40) (j := 72) (by omega), hl (i := 0) (j := 4) (by omega), hl (i := 4) (j := 36) (by omega), ex_rest (k := 72) (by omega)]
      simp only [moreP]
      congr
  have e1 : tkP p = if num (p.wait.extract 0 1) ≠ 1 ∧ num (p.wait.extract 0 1) ≠ 2 then (true, { p with e := 3 })
      else if num (p.wait.extract 0 1) = 1 then if p.wait.size < 7 then (false, p) else (true, cpP p (num (p.wait.extract 1 5)) (num (p.wait.extract 5 7)))
      else if p.wait.size < 3 then (false, p) else (true, adP p (num (p.wait.extract 1 3))) := by unfold tkP; rw [if_neg c1, if_neg c2, if_neg c3]
  have e2 : tkP (moreP p t k) = if num ((p.wait ++ t).extract 0 1) ≠ 1 ∧ num ((p.wait ++ t).extract 0 1) ≠ 2 then (true, { moreP p t k with e := 3 })
      else if num ((p.wait ++ t).extract 0 1) = 1 then if (p.wait ++ t).size < 7 then (false, moreP p t k) else (true, cpP (moreP p t k) (num ((p.wait ++ t).extract 1 5)) (num ((p.wait ++ t).extract 5 7)))
      else if (p.wait ++ t).size < 3 then (false, moreP p t k) else (true, adP (moreP p t k) (num ((p.wait ++ t).extract 1 3))) := by unfold tkP; rw [if_neg c1', if_neg c2', if_neg (by exact c3)]; rfl
  have hsz : (p.wait ++ t).size = p.wait.size + t.size := ByteArray.size_append
  rw [e1] at ht ⊢
  rw [e2]
  rw [hl (i := 0) (j := 1) (by omega)]
  by_cases d1 : num (p.wait.extract 0 1) ≠ 1 ∧ num (p.wait.extract 0 1) ≠ 2
  · rw [if_pos d1, if_pos d1]; rfl
  rw [if_neg d1] at ht ⊢
  rw [if_neg d1]
  by_cases d2 : num (p.wait.extract 0 1) = 1
  · rw [if_pos d2] at ht ⊢
    rw [if_pos d2]
    by_cases d3 : p.wait.size < 7
    · rw [if_pos d3] at ht; cases ht
    rw [if_neg d3, if_neg (by omega), hl (i := 1) (j := 5) (by omega), hl (i := 5) (j := 7) (by omega)]
    generalize num (p.wait.extract 1 5) = f
    generalize num (p.wait.extract 5 7) = m
    congr 1
    unfold cpP
    rw [hw, ex_rest (k := 7) (by omega)]
    show (if m = 0 ∨ p.old.size < f ∨ p.old.size < f + m then _ else if p.size < p.made.size + m then _ else _) = moreP (if m = 0 ∨ p.old.size < f ∨ p.old.size < f + m then _ else if p.size < p.made.size + m then _ else _) t k
    by_cases x1 : m = 0 ∨ p.old.size < f ∨ p.old.size < f + m
    · rw [if_pos x1, if_pos x1]; rfl
    rw [if_neg x1, if_neg x1]
    by_cases x2 : p.size < p.made.size + m
    · rw [if_pos x2, if_pos x2]; rfl
    · rw [if_neg x2, if_neg x2]; rfl
  · rw [if_neg d2] at ht ⊢
    rw [if_neg d2]
    by_cases d3 : p.wait.size < 3
    · rw [if_pos d3] at ht; cases ht
    rw [if_neg d3, if_neg (by omega), hl (i := 1) (j := 3) (by omega)]
    generalize num (p.wait.extract 1 3) = m
    congr 1
    unfold adP
    rw [hw, ex_rest (k := 3) (by omega)]
    show (if m = 0 then _ else if p.size < p.made.size + m then _ else _) = moreP (if m = 0 then _ else if p.size < p.made.size + m then _ else _) t k
    by_cases x1 : m = 0
    · rw [if_pos x1, if_pos x1]; rfl
    rw [if_neg x1, if_neg x1]
    by_cases x2 : p.size < p.made.size + m
    · rw [if_pos x2, if_pos x2]; rfl
    · rw [if_neg x2, if_neg x2]; rfl
theorem more_ok {t : ByteArray} {k : Nat} (hp : p.ok) (ht : p.wait.size + t.size ≤ 16384) (hk : p.seen + k ≤ 1073741824) : (moreP p t k).ok :=
  ⟨by show (p.wait ++ t).size ≤ _; rw [ByteArray.size_append]; exact ht, hk, hp.oz, hp.om, hp.oe⟩
/-- What was taken, and then more: as if all had come at once. -/
theorem run_more {t : ByteArray} {k : Nat} : ∀ (g : Nat) {p : Pt}, muP p ≤ g → p.ok → p.fresh → p.wait.size + t.size ≤ 16384 → p.seen + k ≤ 1073741824 →
    ((runP p).e = 0 → runP (moreP p t k) = runP (moreP (runP p) t k)) ∧ ((runP p).e ≠ 0 → (runP (moreP p t k)).e = (runP p).e) := by
  intro g
  induction g with
  | zero =>
    intro p hg hp hf ht hk
    have he : p.e ≠ 0 := fun h => by unfold muP at hg; rw [if_pos h] at hg; omega
    rw [run_err he]
    exact ⟨fun h => absurd h he, fun _ => by rw [run_err (p := moreP p t k) he]; rfl⟩
  | succ g ih =>
    intro p hg hp hf ht hk
    by_cases he : p.e = 0
    rotate_left
    · rw [run_err he]
      exact ⟨fun h => absurd h he, fun _ => by rw [run_err (p := moreP p t k) he]; rfl⟩
    cases hb : (tkP p).1 with
    | false =>
      rw [run_stop hb]
      exact ⟨fun _ => rfl, fun h => absurd he h⟩
    | true =>
      obtain ⟨tk, tf⟩ := tk_ok hp hf he
      have hmu := mu_lt hp hf he hb
      have hmo := more_ok hp ht hk
      have hmf : (moreP p t k).fresh := hf
      have hme : (moreP p t k).e = 0 := he
      have htw := tk.wait
      have hts := tk.seen
      have hI := ih (p := (tkP p).2) (by omega) tk.ok tf (by omega) (by omega)
      rw [run_step hp hf he hb]
      by_cases ha : p.adds ≤ p.wait.size
      · have e1 := tk_more (k := k) ha hb (t := t)
        rw [run_step hmo hmf hme (by rw [e1]), e1]
        exact hI
      · have hw0 : p.wait.size ≠ 0 := by
          intro h
          unfold tkP at hb
          rw [if_neg (fun h2 => h2.2 h), if_pos (.inr h)] at hb
          cases hb
        have m1 : min p.adds p.wait.size = p.wait.size := by omega
        have e1 : tkP p = (true, { p with made := p.made ++ p.wait, wait := ⟨#[]⟩, adds := p.adds - p.wait.size }) := by
          have : tkP p = (true, { p with made := p.made ++ p.wait.extract 0 (min p.adds p.wait.size), wait := p.wait.extract (min p.adds p.wait.size) p.wait.size, adds := p.adds - min p.adds p.wait.size }) := if_pos ⟨by omega, hw0⟩
          rw [this, m1, ext_all, ba_zero (a := p.wait.extract p.wait.size p.wait.size) (by rw [ex_size]; omega)]
        rw [e1] at hI tk tf ⊢
        by_cases ht0 : t.size = 0
        · have e2 : tkP (moreP p t k) = (true, moreP { p with made := p.made ++ p.wait, wait := ⟨#[]⟩, adds := p.adds - p.wait.size } t k) := by
            have hpw : p.wait ++ t = p.wait := by rw [ba_zero ht0, app_nil]
            have hpw2 : (⟨#[]⟩ : ByteArray) ++ t = ⟨#[]⟩ := by rw [ba_zero ht0, app_nil]
            have : tkP (moreP p t k) = (true, { moreP p t k with made := p.made ++ (p.wait ++ t).extract 0 (min p.adds (p.wait ++ t).size), wait := (p.wait ++ t).extract (min p.adds (p.wait ++ t).size) (p.wait ++ t).size, adds := p.adds - min p.adds (p.wait ++ t).size }) := if_pos ⟨by show 0 < p.adds; omega, by show (p.wait ++ t).size ≠ 0; rw [hpw]; exact hw0⟩
            rw [this]
            unfold moreP
            rw [hpw2, hpw, m1, ext_all, ba_zero (a := p.wait.extract p.wait.size p.wait.size) (by rw [ex_size]; omega)]
          rw [run_step hmo hmf hme (by rw [e2]), e2]
          exact hI
        · suffices hkey : runP (moreP p t k) = runP (moreP { p with made := p.made ++ p.wait, wait := ⟨#[]⟩, adds := p.adds - p.wait.size } t k) by
            rw [hkey]
            exact hI
          have hsz : (p.wait ++ t).size = p.wait.size + t.size := ByteArray.size_append
          have hm : min p.adds (p.wait ++ t).size = p.wait.size + min (p.adds - p.wait.size) t.size := by omega
          have hml : min (p.adds - p.wait.size) t.size ≤ t.size := Nat.min_le_right _ _
          have e2 : tkP (moreP p t k) = (true, { moreP p t k with made := p.made ++ (p.wait ++ t).extract 0 (p.wait.size + min (p.adds - p.wait.size) t.size), wait := (p.wait ++ t).extract (p.wait.size + min (p.adds - p.wait.size) t.size) (p.wait ++ t).size, adds := p.adds - (p.wait.size + min (p.adds - p.wait.size) t.size) }) := by
            rw [← hm]
            exact if_pos ⟨by show 0 < p.adds; omega, by show (p.wait ++ t).size ≠ 0; omega⟩
          have e3 : tkP (moreP { p with made := p.made ++ p.wait, wait := ⟨#[]⟩, adds := p.adds - p.wait.size } t k) = (true, { moreP p t k with made := p.made ++ p.wait ++ t.extract 0 (min (p.adds - p.wait.size) t.size), wait := t.extract (min (p.adds - p.wait.size) t.size) t.size, adds := p.adds - p.wait.size - min (p.adds - p.wait.size) t.size }) := by
            have hn : (⟨#[]⟩ : ByteArray) ++ t = t := ba_nil
            have : tkP (moreP { p with made := p.made ++ p.wait, wait := ⟨#[]⟩, adds := p.adds - p.wait.size } t k) = (true, { moreP { p with made := p.made ++ p.wait, wait := ⟨#[]⟩, adds := p.adds - p.wait.size } t k with made := p.made ++ p.wait ++ (⟨#[]⟩ ++ t : ByteArray).extract 0 (min (p.adds - p.wait.size) (⟨#[]⟩ ++ t : ByteArray).size), wait := (⟨#[]⟩ ++ t : ByteArray).extract (min (p.adds - p.wait.size) (⟨#[]⟩ ++ t : ByteArray).size) (⟨#[]⟩ ++ t : ByteArray).size, adds := p.adds - p.wait.size - min (p.adds - p.wait.size) (⟨#[]⟩ ++ t : ByteArray).size }) := if_pos ⟨by show 0 < p.adds - p.wait.size; omega, by show (⟨#[]⟩ ++ t : ByteArray).size ≠ 0; rw [hn]; exact ht0⟩
            rw [this, hn]
            rfl
          have x1 : (p.wait ++ t).extract 0 (p.wait.size + min (p.adds - p.wait.size) t.size) = p.wait ++ t.extract 0 (min (p.adds - p.wait.size) t.size) := by
            apply bts_inj
            have la := bts_len p.wait
            rw [bts_ext, bts_app, bts_app, bts_ext, List.drop_zero, List.drop_zero, Nat.sub_zero, Nat.sub_zero, List.take_append, List.take_of_length_le (by omega), la, Nat.add_sub_cancel_left]
          have x2 : (p.wait ++ t).extract (p.wait.size + min (p.adds - p.wait.size) t.size) (p.wait ++ t).size = t.extract (min (p.adds - p.wait.size) t.size) t.size := by
            apply bts_inj
            have la := bts_len p.wait
            have lt := bts_len t
            rw [bts_ext, bts_app, bts_ext, List.drop_append, List.drop_eq_nil_of_le (by omega), List.nil_append, la, Nat.add_sub_cancel_left, List.take_of_length_le (by rw [List.length_drop]; omega), List.take_of_length_le (by rw [List.length_drop]; omega)]
          have hmo2 := more_ok (t := t) (k := k) tk.ok (by show (0 : Nat) + t.size ≤ _; omega) (by show p.seen + k ≤ _; omega)
          rw [run_step hmo hmf hme (by rw [e2]), run_step hmo2 (by exact tf) (by exact he) (by rw [e3]), e2, e3, x1, x2]
          rw [Nat.sub_sub, ← ByteArray.append_assoc]
end Go.Sx

/- Delta, plain: however a patch comes in pieces. -/
set_option linter.unusedVariables false
set_option linter.unusedSimpArgs false
set_option maxRecDepth 100000
namespace Go.Sx
open Go.Proofs
variable {p q : Pt} {H : Hp} {n : Nat} {x : Nat → Option SO}
def tkb (adds : Nat) (wait : ByteArray) (begun : Bool) : Bool :=
  if 0 < adds ∧ wait.size ≠ 0 then true else if 0 < adds ∨ wait.size = 0 then false
  else if begun = false then !decide (wait.size < 72)
  else if num (wait.extract 0 1) ≠ 1 ∧ num (wait.extract 0 1) ≠ 2 then true
  else if num (wait.extract 0 1) = 1 then !decide (wait.size < 7) else !decide (wait.size < 3)
theorem tk_fst : (tkP p).1 = tkb p.adds p.wait p.begun := by
  unfold tkP tkb
  by_cases c1 : 0 < p.adds ∧ p.wait.size ≠ 0
  · rw [if_pos c1, if_pos c1]
  rw [if_neg c1, if_neg c1]
  by_cases c2 : 0 < p.adds ∨ p.wait.size = 0
  · rw [if_pos c2, if_pos c2]
  rw [if_neg c2, if_neg c2]
  by_cases c3 : p.begun = false
  · rw [if_pos c3, if_pos c3]
    unfold hdP
    by_cases c4 : p.wait.size < 72
    · rw [if_pos c4, decide_eq_true c4]; rfl
    · rw [if_neg c4, decide_eq_false c4]; rfl
  rw [if_neg c3, if_neg c3]
  by_cases c4 : num (p.wait.extract 0 1) ≠ 1 ∧ num (p.wait.extract 0 1) ≠ 2
  · rw [if_pos c4, if_pos c4]
  rw [if_neg c4, if_neg c4]
  by_cases c5 : num (p.wait.extract 0 1) = 1
  · rw [if_pos c5, if_pos c5]
    by_cases c6 : p.wait.size < 7
    · rw [if_pos c6, decide_eq_true c6]; rfl
    · rw [if_neg c6, decide_eq_false c6]; rfl
  · rw [if_neg c5, if_neg c5]
    by_cases c6 : p.wait.size < 3
    · rw [if_pos c6, decide_eq_true c6]; rfl
    · rw [if_neg c6, decide_eq_false c6]; rfl
theorem run_stuck : ∀ (g : Nat) {p : Pt}, muP p ≤ g → p.ok → p.fresh → (runP p).e = 0 → (tkP (runP p)).1 = false
  | g, p, hg, hp, hf, h => by
    by_cases he : p.e = 0
    · cases hb : (tkP p).1 with
      | false => rw [run_stop hb]; exact hb
      | true =>
        obtain ⟨tk, tf⟩ := tk_ok hp hf he
        have hmu := mu_lt hp hf he hb
        rw [run_step hp hf he hb] at h ⊢
        cases g with
        | zero => omega
        | succ g => exact run_stuck g (by omega) tk.ok tf h
    · rw [run_err he] at h; exact absurd h he
def restP (p : Pt) (a b : ByteArray) : ByteArray := b.extract 0 (min b.size (16384 - p.seen - a.size))
def headP (p : Pt) (a : ByteArray) : ByteArray := a.extract 0 (min a.size (16384 - p.seen))
theorem in_more (p : Pt) (a : ByteArray) : inP p a = moreP p (headP p a) a.size := rfl
theorem head_app {a b : ByteArray} : headP p (a ++ b) = headP p a ++ restP p a b := by
  unfold headP restP
  have hs : (a ++ b).size = a.size + b.size := ByteArray.size_append
  apply bts_inj
  have la := bts_len a
  have lb := bts_len b
  rw [bts_app, bts_ext, bts_ext, bts_ext, bts_app, List.drop_zero, List.drop_zero, List.drop_zero, Nat.sub_zero, Nat.sub_zero, Nat.sub_zero, hs, List.take_append]
  by_cases c : a.size ≤ 16384 - p.seen
  · rw [List.take_of_length_le (l := bts a) (by omega), List.take_of_length_le (l := bts a) (by omega)]
    congr 2
    omega
  · rw [show min (a.size + b.size) (16384 - p.seen) = 16384 - p.seen by omega, show min a.size (16384 - p.seen) = 16384 - p.seen by omega, show 16384 - p.seen - (bts a).length = 0 by omega, show min b.size (16384 - p.seen - a.size) = 0 by omega]
theorem more_more {s t : ByteArray} {j k : Nat} : moreP (moreP p s j) t k = moreP p (s ++ t) (j + k) := by
  unfold moreP
  simp only [ByteArray.append_assoc, Nat.add_assoc]
theorem in_app {a b : ByteArray} : inP p (a ++ b) = moreP (inP p a) (restP p a b) b.size := by
  rw [in_more, in_more, more_more, head_app, ByteArray.size_append]
theorem wr_out {s : ByteArray} (he : p.e = 0) (hc : p.closed = false) : wrP p s = ((outP (runP (inP p s))).e, outP (runP (inP p s))) := by
  unfold wrP; rw [if_neg (fun h => h he), if_neg (by rw [hc]; simp)]
theorem wr_more {a b : ByteArray} (hp : p.good) (he : p.e = 0) (hc : p.closed = false) (ha : a.size + b.size ≤ 1073000000) :
    ((wrP p a).2.e = 0 → (wrP (wrP p a).2 b).2 = (wrP p (a ++ b)).2) ∧ ((wrP p a).2.e ≠ 0 → (wrP p (a ++ b)).2.e = (wrP p a).2.e) := by
  obtain ⟨i1, i2⟩ := in_ok hp he (s := a) (by omega)
  obtain ⟨g1, g2⟩ := hp.g1 he
  have rk := run_ok _ (Nat.le_refl _) i1 i2
  have hsn : (runP (inP p a)).seen = p.seen + a.size := rk.seen
  have hcl : (runP (inP p a)).closed = false := rk.cl.trans hc
  have hiw : (inP p a).wait.size = p.wait.size + (headP p a).size := ByteArray.size_append
  have hh : (headP p a).size = min a.size (16384 - p.seen) := by unfold headP; rw [ex_size]; omega
  have hrs : (restP p a b).size = min b.size (16384 - p.seen - a.size) := by unfold restP; rw [ex_size]; omega
  have his : (inP p a).seen = p.seen + a.size := rfl
  have hrm := run_more (t := restP p a b) (k := b.size) _ (Nat.le_refl _) i1 i2 (by omega) (by omega)
  have hst := run_stuck _ (Nat.le_refl _) i1 i2
  rw [wr_out he hc, wr_out (s := a ++ b) he hc, in_app]
  show ((outP (runP (inP p a))).e = 0 → (wrP (outP (runP (inP p a))) b).2 = outP (runP (moreP (inP p a) (restP p a b) b.size))) ∧ ((outP (runP (inP p a))).e ≠ 0 → (outP (runP (moreP (inP p a) (restP p a b) b.size))).e = (outP (runP (inP p a))).e)
  generalize inP p a = P1 at *
  generalize hR : runP P1 = R at *
  by_cases e0 : R.e = 0
  · by_cases e1 : 16384 < R.seen
    · have eo : (outP R).e = 4 := by show (if R.e = 0 ∧ 16384 < R.seen then (4 : Int) else R.e) = 4; rw [if_pos ⟨e0, e1⟩]
      rw [eo]
      refine ⟨fun h => absurd h (by decide), fun _ => ?_⟩
      have hz : restP p a b = ⟨#[]⟩ := ba_zero (by omega)
      rw [hrm.1 e0, hz]
      have hstk : (tkP (moreP R ⟨#[]⟩ b.size)).1 = false := by
        rw [tk_fst]
        show tkb R.adds (R.wait ++ ⟨#[]⟩) R.begun = false
        rw [app_nil, ← tk_fst]
        exact hst e0
      rw [run_stop hstk]
      show (if R.e = 0 ∧ 16384 < R.seen + b.size then (4 : Int) else R.e) = 4
      rw [if_pos ⟨e0, by omega⟩]
    · have eo : outP R = R := by
        unfold outP
        rw [if_neg (fun h => e1 h.2), show min R.seen 16385 = R.seen by omega]
      rw [eo]
      refine ⟨fun _ => ?_, fun h => absurd e0 h⟩
      rw [wr_out e0 hcl, hrm.1 e0, in_more]
      have : headP R b = restP p a b := by unfold headP restP; rw [hsn, Nat.sub_add_eq]
      rw [this]
  · have eo : (outP R).e = R.e := by show (if R.e = 0 ∧ 16384 < R.seen then (4 : Int) else R.e) = R.e; rw [if_neg (fun h => e0 h.1)]
    rw [eo]
    refine ⟨fun h => absurd h e0, fun _ => ?_⟩
    have h2 := hrm.2 e0
    show (if (runP (moreP P1 (restP p a b) b.size)).e = 0 ∧ 16384 < (runP (moreP P1 (restP p a b) b.size)).seen then (4 : Int) else (runP (moreP P1 (restP p a b) b.size)).e) = R.e
    rw [h2, if_neg (fun h => e0 h.1)]
/-- A patcher that was handed T in pieces. -/
structure Ps (old T : ByteArray) (p : Pt) : Prop where
  good : p.good
  cl : p.closed = false
  z : (goQ old T).e = 0 → p = goQ old T
  nz : (goQ old T).e ≠ 0 → p.e = (goQ old T).e
theorem ps_nil (old : ByteArray) : Ps old ⟨#[]⟩ (nwP old) := by
  by_cases c : 8192 < old.size
  · have h := go_long (patch := ⟨#[]⟩) c
    exact ⟨nw_good old, rfl, fun _ => h.symm, fun _ => by rw [h]⟩
  · have h : goQ old ⟨#[]⟩ = nwP old := by
      have hs : seenP ⟨#[]⟩ = ⟨#[]⟩ := ba_zero (by unfold seenP; rw [ex_size]; rfl)
      rw [go_short (by omega) (by decide), hs]
      unfold outP
      rw [if_neg (fun h => absurd h.2 (by show ¬16384 < 0; decide))]
      rfl
    exact ⟨nw_good old, rfl, fun _ => h.symm, fun _ => by rw [h]⟩
theorem ps_step {old T c : ByteArray} (h : Ps old T p) (hs : T.size + c.size ≤ 1073000000) : Ps old (T ++ c) (wrP p c).2 ∧ (wrP p c).1 = (goQ old (T ++ c)).e := by
  have hw := wr_good (s := c) h.good (by omega)
  have hfst : (wrP p c).1 = (wrP p c).2.e := by
    unfold wrP
    split
    · rfl
    · rw [if_neg (by rw [h.cl]; simp)]
  have hcl : (wrP p c).2.closed = false := hw.2.2.2.trans h.cl
  by_cases c0 : 8192 < old.size
  · have h1 := go_long (patch := T) c0
    have h2 := go_long (patch := T ++ c) c0
    have e4 : (nwP old).e = 4 := if_pos c0
    have hz := h.nz (by rw [h1, e4]; decide)
    rw [h1, e4] at hz
    have h3 : wrP p c = (p.e, p) := by unfold wrP; rw [if_pos (by rw [hz]; decide)]
    rw [h3, h2]
    exact ⟨⟨h.good, h.cl, fun h => by rw [h2, e4] at h; exact absurd h (by decide), fun _ => by rw [h2, hz, e4]⟩, by rw [hz, e4]⟩
  have hn := wr_more (a := T) (b := c) (nw_good old) (nw_e (by omega)) rfl hs
  rw [show (wrP (nwP old) T).2 = goQ old T from rfl, show (wrP (nwP old) (T ++ c)).2 = goQ old (T ++ c) from rfl] at hn
  by_cases e0 : (goQ old T).e = 0
  · have h1 := h.z e0
    have h2 := hn.1 e0
    rw [← h1] at h2
    rw [hfst]
    exact ⟨⟨hw.1, hcl, fun _ => h2, fun _ => by rw [h2]⟩, by rw [h2]⟩
  · have h1 := h.nz e0
    have h2 := hn.2 e0
    have h3 : wrP p c = (p.e, p) := by unfold wrP; rw [if_pos (by rw [h1]; exact e0)]
    rw [h3]
    exact ⟨⟨h.good, h.cl, fun h => absurd (h2.symm.trans h) e0, fun _ => h1.trans h2.symm⟩, h1.trans h2.symm⟩
theorem ps_close {old T : ByteArray} (h : Ps old T p) : (clP p).1 = (clP (goQ old T)).1 := by
  by_cases e0 : (goQ old T).e = 0
  · rw [h.z e0]
  · have h1 := h.nz e0
    have e1 : p.e ≠ 0 := by rw [h1]; exact e0
    unfold clP
    rw [if_pos e1, if_pos e0, h1]
end Go.Sx

/- Delta: a patcher at any heap. -/
set_option linter.unusedVariables false
set_option linter.unusedSimpArgs false
set_option maxRecDepth 100000
namespace Go.Sx
attribute [local go_sem ↓] bind_mk intsB_mk strsB_mk svB_mk fnVC ob_some vc_skip vc_exit vc_ret vc_seq vc_block kSeq_normal kSeq_exit kSeq_ret kBlock_normal kBlock_exit kBlock_ret vc_reg vc_regD vc_cond condK_true condK_false vc_loop kLoop_exit kLoop_ret kRoll_normal kRoll_exit kRoll_ret vcOps_nil vcOps_cons gd_bool gd_undef put_some put_none vcT_fin vcT_pure vcT_act vcT_acts vcT_stop stab_none stab_some stabM_nil stabM_cons stabO_ld stabO_ldn stabO_slP stabO_b2s fldOf_ai fldOf_agg fldOf_ait fldOf_aggt intsOf_nil intsOf_cons strsOf_nil strsOf_cons c_omap ob_if lk_nil lk_cons ev_t ev_k z_mov z_pick z_bin z_binB z_binP z_un z_r2s z_conv z_s2b z_b2s z_mkM z_luM z_upM plV_v plV_agg mpOf_mp mpOf_nil mpUp_mp asM_mp luV_ok luV_v z_allocT aggOf_mk z_boxT z_alloc z_bld z_bldI z_rowI z_rowS z_ld z_ldn z_st z_stn asN_ptr asN_fn z_nilck z_fld z_fadr z_idxA z_idxP z_idxS z_idxV z_slS z_slL z_slP z_mk z_lenS z_lenL z_app appC_ints appC_pl appC_sv appC_strs isS_strs loose_ints loose_pl loose_sv z_slM z_callv callvK_fn callvK_f callvK_yl vc_rangeF rfEnd_eq rfGo_none rfGo_ret rfGo_exit yGo_mk yEnd_n yEnd_r yEnd_e yRdy_mk yMid_n putPs_nil putPs_cons leaf_v leaf_ptr leaf_sl leaf_yl leaf_mp z_appS z_appST z_appZ z_cpyS z_mkfn reps_int reps_str z_rowV z_slnil nilK_zero z_cpy z_call asT_tup z_extT z_box boxOf_ai boxOf_agg boxOf_int boxOf_str boxOf_bool boxOf_ptr boxOf_sl sbin_int sbin_str sbinB_mk sbinP_nn sbinP_pn sbinP_np i_add i_sub i_mul i_quo i_rem i_and i_or i_xor i_andNot i_shl i_shr i_eql i_neq i_lss i_leq i_gtr i_geq st_add st_eql st_neq st_lss st_leq st_gtr st_geq bo_eql bo_neq pt_eql pt_neq un_neg un_xor un_not asI_mk asB_mk asS_mk asP_mk asSl_mk asBy_mk bnd_none bnd_some get_mk hput_mk hdel_mk kill_eq wrOf_eq rowOf_eq rsvs_0 rsvs_1 rsvs_2 rsvs_3 rsv_t rsv_c1 rsv_cn nt_v nt_ptr nt_sl nt_agg nt_ai get_ints get_strs get_pl get_sv getN_ints getN_sv set_ints set_strs set_sv setN_ints setN_sv part_ints part_strs part_sv cat_ints cat_strs cat_sv over_ints over_strs over_sv ones_ints ones_strs evs_nil evs_cons condK_eqt condK_eqf det_callP V_ns V_nn V_gs V_gn obC_mk fresh_ev freshT_ev freshR_ev setN_plagg setN_intsv setN_svai setN_svagg over_intsv set_pl setN_pl setN_plai getN_pl getN_strs part_pl cat_pl over_pl over_plints z_mm
attribute [local go_sem] initTm ne_eq not_true_eq_false not_false_eq_true true_and and_true List.length_cons List.length_nil Int.toNat_natCast Nat.add_zero Nat.zero_add Nat.mul_one List.getElem?_cons_zero List.drop_zero List.take_length List.take_succ_cons List.take_zero List.take_nil List.drop_succ_cons Option.map_some Nat.le_refl implies_true List.getElem?_cons_succ decide_true decide_false Bool.not_true Bool.not_false beq_self_eq_true Nat.succ_ne_self Nat.one_ne_zero Nat.zero_ne_one vk_mk hk_mk nk_mk tok_eq plsOf_map intsOf_map bodyOf_pl bodyOf_ints bodyOf_strs bodyOf_sv part_aggv part_agg part_ai part_int part_str part_bool part_sl part_ptr part_nil numsOf_map u_int u_str u_bool u_pnil u_sl u_ptr u_oci u_ocs evq_nil evq_cons fillS_nil fillS_cons u_ocb ones_pl cells_sv cells_ints cells_strs cells_pl smms_nil smms_cons smm_min smm_max plsOf_nil List.nil_append List.all_cons List.all_nil Bool.and_self Bool.true_and Bool.and_true zws_len zw_len zi_len List.set_cons_zero List.set_cons_succ List.flatMap_cons List.flatMap_nil List.append_nil
attribute [local go_sem_proc] Nat.reduceEqDiff Nat.reduceAdd Nat.reduceMul Nat.reduceLT Nat.reduceLeDiff Nat.reduceSub Int.reduceToNat Int.reduceLE Int.reduceLT reduceCtorEq Int.reduceEq Int.reduceGT Int.reduceGE Int.reduceNeg
attribute [local go_sem_proc ↓] reduceIte
section
open Go.Proofs
variable {p q : Pt} {H : Hp} {n : Nat} {x : Nat → Option SO}
def patE (p : Pt) : SO := ⟨true, .sv (patC p (.v (.pointer none)) (.sl 0 0 0 1))⟩
def patN (p : Pt) (i r : Nat) : SO := ⟨true, .sv (patC p (.ptr i 7) (.sl r 0 p.made.size 1))⟩
def ghP (i : Nat) : Body := .mp (.shp i 57 (some 11))
structure EAt (H : Hp) (p : Pt) (i g : Nat) : Prop where
  o : H.get i = some (patE p)
  gh : ∃ u, H.get g = some ⟨u, ghP i⟩
  ne : 0 < i ∧ i < 1000 ∧ 0 < g ∧ i ≠ g
structure NAt (H : Hp) (p : Pt) (i g r k : Nat) : Prop where
  o : H.get i = some (patN p i r)
  gh : ∃ u, H.get g = some ⟨u, ghP i⟩
  ro : H.get r = some ⟨true, .ints .u8 (bts p.made)⟩
  rg : ∃ u, H.get k = some ⟨u, .mp (.shp r 5 none)⟩
  ne : (0 < i ∧ i < 1000 ∧ 0 < g ∧ 0 < r ∧ r < 1000 ∧ 0 < k) ∧ i ≠ g ∧ i ≠ r ∧ i ≠ k ∧ g ≠ r ∧ r ≠ k
theorem newS {old : ByteArray} (hn : n + 2 ≤ 1000) : SpecAt Try.prog nDNew [.v (.string old)] H n (.ptr n 0) ⟨(n, some (patE (nwP old))) :: (n + 1, some ⟨false, ghP n⟩) :: H.l, H.x⟩ (n + 2) := by
  have := lift (n := n) (okT.spec tDNew (newW (x := H.x) (old := old))) [] rfl rfl rfl (by omega) rfl rfl trivial rfl rfl (by omega)
  exact this
theorem wEE {s : ByteArray} {i g : Nat} (h : EAt H p i g) (hp : p.good) (hs : s.size ≤ 1073000000) (hm : p.made.size = 0) (hz : (wrP p s).2.made.size = 0) :
    SpecAt Try.prog nDWrite [.ptr i 0, .v (.string s)] H n (.v (.int .i64 (wrP p s).1)) ⟨(i, some (patE (wrP p s).2)) :: H.l, H.x⟩ n := by
  obtain ⟨u, hg⟩ := h.gh
  obtain ⟨n1, n2, n3, n4⟩ := h.ne
  have hc := okT.spec tDWrite (writeE (x := H.x) hp hs hm)
  rw [tkH_E hz, tkN_E hz] at hc
  have := lift (n := n) hc [(1, i), (2, g)] rfl rfl rfl (by omega) rfl rfl
    ⟨sub_wr rfl n1 n2 h.o rfl, sub_ro rfl n3 hg rfl, trivial⟩ (by simp [apartB, apart1, rn, lk, n4]) (by simp [wrNZ, rn, lk]; omega) (by omega)
  exact this
theorem wEN {s : ByteArray} {i g : Nat} (h : EAt H p i g) (hp : p.good) (hs : s.size ≤ 1073000000) (hm : p.made.size = 0) (hz : ¬(wrP p s).2.made.size = 0) (hn : n + 2 ≤ 1000) :
    SpecAt Try.prog nDWrite [.ptr i 0, .v (.string s)] H n (.v (.int .i64 (wrP p s).1)) ⟨(i, some (patN (wrP p s).2 i n)) :: (n, some ⟨true, .ints .u8 (bts (wrP p s).2.made)⟩) :: (n + 1, some ⟨false, .mp (.shp n 5 none)⟩) :: H.l, H.x⟩ (n + 2) := by
  obtain ⟨u, hg⟩ := h.gh
  obtain ⟨n1, n2, n3, n4⟩ := h.ne
  have hc := okT.spec tDWrite (writeE (x := H.x) hp hs hm)
  rw [tkH_N hz, tkN_N hz] at hc
  have := lift (n := n) hc [(1, i), (2, g)] rfl rfl rfl (by omega) rfl rfl
    ⟨sub_wr rfl n1 n2 h.o rfl, sub_ro rfl n3 hg rfl, trivial⟩ (by simp [apartB, apart1, rn, lk, n4]) (by simp [wrNZ, rn, lk]; omega) (by omega)
  exact this
theorem wNN {s : ByteArray} {i g r k : Nat} (h : NAt H p i g r k) (hp : p.good) (hs : s.size ≤ 1073000000) (hm : ¬p.made.size = 0) (hn : n + 2 ≤ 1000) :
    SpecAt Try.prog nDWrite [.ptr i 0, .v (.string s)] H n (.v (.int .i64 (wrP p s).1)) ⟨(i, some (patN (wrP p s).2 i n)) :: (n, some ⟨true, .ints .u8 (bts (wrP p s).2.made)⟩) :: (n + 1, some ⟨false, .mp (.shp n 5 none)⟩) :: (r, none) :: H.l, H.x⟩ (n + 2) := by
  obtain ⟨u, hg⟩ := h.gh
  obtain ⟨u2, hk⟩ := h.rg
  obtain ⟨⟨n1, n2, n3, n4, n5, n6⟩, m1, m2, m3, m4, m5⟩ := h.ne
  have := lift (n := n) (okT.spec tDWrite (writeN (x := H.x) hp hs hm)) [(1, i), (2, g), (3, r), (4, k)] rfl rfl rfl (by omega) rfl rfl
    ⟨sub_wr rfl n1 n2 h.o rfl, sub_ro rfl n3 hg rfl, sub_wr rfl n4 n5 h.ro rfl, sub_ro rfl n6 hk rfl, trivial⟩ (by simp [apartB, apart1, rn, lk, m1, m2, m3, m4, m5, Ne.symm m2, Ne.symm m4]) (by simp [wrNZ, rn, lk]; omega) (by omega)
  exact this
theorem cEE {i g : Nat} (h : EAt H p i g) (hp : p.ok) (hm : p.made.size = 0) :
    SpecAt Try.prog nDClose [.ptr i 0] H n (clV p) ⟨(i, some (patE (clP p).2)) :: H.l, H.x⟩ n := by
  obtain ⟨u, hg⟩ := h.gh
  obtain ⟨n1, n2, n3, n4⟩ := h.ne
  have := lift (n := n) (okT.spec tDClose (closeE (x := H.x) hp hm)) [(1, i), (2, g)] rfl rfl rfl (by omega) rfl rfl
    ⟨sub_wr rfl n1 n2 h.o rfl, sub_ro rfl n3 hg rfl, trivial⟩ (by simp [apartB, apart1, rn, lk, n4]) (by simp [wrNZ, rn, lk]; omega) (by omega)
  exact this
theorem cNF {i g r k : Nat} (h : NAt H p i g r k) (hp : p.ok) (hm : ¬p.made.size = 0) (he : (clP p).2.e = 0) :
    SpecAt Try.prog nDClose [.ptr i 0] H n (clV p) ⟨(i, some (patN (clP p).2 i r)) :: (r, some ⟨false, .mp (.frz 5 (bts (clP p).2.made))⟩) :: H.l, H.x⟩ n := by
  obtain ⟨u, hg⟩ := h.gh
  obtain ⟨u2, hk⟩ := h.rg
  obtain ⟨⟨n1, n2, n3, n4, n5, n6⟩, m1, m2, m3, m4, m5⟩ := h.ne
  have hc := okT.spec tDClose (closeN (x := H.x) hp hm)
  rw [clH_F he] at hc
  have := lift (n := n) hc [(1, i), (2, g), (3, r), (4, k)] rfl rfl rfl (by omega) rfl rfl
    ⟨sub_wr rfl n1 n2 h.o rfl, sub_ro rfl n3 hg rfl, sub_wr rfl n4 n5 h.ro rfl, sub_ro rfl n6 hk rfl, trivial⟩ (by simp [apartB, apart1, rn, lk, m1, m2, m3, m4, m5, Ne.symm m2, Ne.symm m4]) (by simp [wrNZ, rn, lk]; omega) (by omega)
  exact this
theorem cND {i g r k : Nat} (h : NAt H p i g r k) (hp : p.ok) (hm : ¬p.made.size = 0) (he : ¬(clP p).2.e = 0) :
    SpecAt Try.prog nDClose [.ptr i 0] H n (clV p) ⟨(i, some (patN (clP p).2 i r)) :: (r, none) :: H.l, H.x⟩ n := by
  obtain ⟨u, hg⟩ := h.gh
  obtain ⟨u2, hk⟩ := h.rg
  obtain ⟨⟨n1, n2, n3, n4, n5, n6⟩, m1, m2, m3, m4, m5⟩ := h.ne
  have hc := okT.spec tDClose (closeN (x := H.x) hp hm)
  rw [clH_D he] at hc
  have := lift (n := n) hc [(1, i), (2, g), (3, r), (4, k)] rfl rfl rfl (by omega) rfl rfl
    ⟨sub_wr rfl n1 n2 h.o rfl, sub_ro rfl n3 hg rfl, sub_wr rfl n4 n5 h.ro rfl, sub_ro rfl n6 hk rfl, trivial⟩ (by simp [apartB, apart1, rn, lk, m1, m2, m3, m4, m5, Ne.symm m2, Ne.symm m4]) (by simp [wrNZ, rn, lk]; omega) (by omega)
  exact this
/-- How many bytes are made: no matter in which form. -/
theorem madeS {i : Nat} {b : SV} {r : Nat} {u : Bool} (hg : H.get i = some ⟨u, .sv (patC p b (.sl r 0 p.made.size 1))⟩) :
    SpecAt Try.prog nDMade [.ptr i 0] H n (.v (.int .i64 p.made.size)) H n := okT.pure tDMade (by
  unfold mDMade
  unfold patC at hg
  simp -implicitDefEqProofs only [↓fnVC, initTm]
  simp -implicitDefEqProofs only [go_sem]
  refine in_call mixT tBLen ?_
  unfold mBLen
  simp -implicitDefEqProofs only [↓fnVC, initTm]
  simp -implicitDefEqProofs only [go_sem, hg])
theorem madeES {i : Nat} (hm : p.made.size = 0) (hg : H.get i = some (patE p)) : SpecAt Try.prog nDMade [.ptr i 0] H n (.v (.int .i64 p.made.size)) H n := madeS (b := .v (.pointer none)) (r := 0) (u := true) (by rw [hg, hm]; rfl)
theorem madeNS {i r : Nat} (hg : H.get i = some (patN p i r)) : SpecAt Try.prog nDMade [.ptr i 0] H n (.v (.int .i64 p.made.size)) H n := madeS (b := .ptr i 7) (r := r) (u := true) hg
structure ClOK (p : Pt) : Prop where
  ok : (clP p).2.ok
  made : (clP p).2.made = p.made
  cl : (clP p).2.closed = true
  e : (clP p).2.e = (clP p).1.2
  again : clP (clP p).2 = ((clP p).1, (clP p).2)
theorem cl_ok (hp : p.ok) : ClOK p := by
  by_cases h1 : p.e ≠ 0
  · have e1 : clP p = ((⟨#[]⟩, p.e), { p with closed := true }) := if_pos h1
    have e2 : clP { p with closed := true } = ((⟨#[]⟩, p.e), { p with closed := true }) := if_pos h1
    exact ⟨by rw [e1]; exact ⟨hp.ow, hp.os, hp.oz, hp.om, hp.oe⟩, by rw [e1], by rw [e1], by rw [e1], by rw [e1]; exact e2⟩
  have he : p.e = 0 := by by_cases h : p.e = 0; exact h; exact absurd h h1
  by_cases h2 : p.begun = false ∨ 0 < p.adds ∨ ¬p.wait.size = 0 ∨ p.made.size < p.size
  · have e1 : clP p = ((⟨#[]⟩, 2), { p with closed := true, e := 2 }) := by unfold clP; rw [if_neg h1, if_pos h2]
    have e2 : clP { p with closed := true, e := 2 } = ((⟨#[]⟩, 2), { p with closed := true, e := 2 }) := if_pos (by show (2 : Int) ≠ 0; decide)
    exact ⟨by rw [e1]; exact ⟨hp.ow, hp.os, hp.oz, hp.om, fun h => absurd h (by show ¬(2 : Int) = 0; decide)⟩, by rw [e1], by rw [e1], by rw [e1], by rw [e1]; exact e2⟩
  by_cases h3 : sha (bts p.made) ≠ p.hash
  · have e1 : clP p = ((⟨#[]⟩, 10), { p with closed := true, e := 10 }) := by unfold clP; rw [if_neg h1, if_neg h2, if_pos h3]
    have e2 : clP { p with closed := true, e := 10 } = ((⟨#[]⟩, 10), { p with closed := true, e := 10 }) := if_pos (by show (10 : Int) ≠ 0; decide)
    exact ⟨by rw [e1]; exact ⟨hp.ow, hp.os, hp.oz, hp.om, fun h => absurd h (by show ¬(10 : Int) = 0; decide)⟩, by rw [e1], by rw [e1], by rw [e1], by rw [e1]; exact e2⟩
  · have e1 : clP p = ((p.made, 0), { p with closed := true }) := by unfold clP; rw [if_neg h1, if_neg h2, if_neg h3]
    have e2 : clP { p with closed := true } = ((p.made, 0), { p with closed := true }) := by unfold clP; rw [if_neg (by exact h1), if_neg (by exact h2), if_neg (by exact h3)]
    exact ⟨by rw [e1]; exact ⟨hp.ow, hp.os, hp.oz, hp.om, hp.oe⟩, by rw [e1], by rw [e1], by rw [e1]; exact he, by rw [e1]; exact e2⟩
/-- All is there. -/
structure Done (p : Pt) : Prop where
  e : p.e = 0
  b : p.begun = true
  a : p.adds = 0
  w : p.wait.size = 0
  s : ¬p.made.size < p.size
  h : sha (bts p.made) = p.hash
theorem cl_done (h : (clP p).2.e = 0) : Done p ∧ clP p = ((p.made, 0), { p with closed := true }) := by
  unfold clP at h ⊢
  by_cases h1 : p.e ≠ 0
  · rw [if_pos h1] at h; exact absurd h h1
  rw [if_neg h1] at h ⊢
  by_cases h2 : p.begun = false ∨ 0 < p.adds ∨ ¬p.wait.size = 0 ∨ p.made.size < p.size
  · rw [if_pos h2] at h; exact absurd h (by show ¬(2 : Int) = 0; decide)
  rw [if_neg h2] at h ⊢
  by_cases h3 : sha (bts p.made) ≠ p.hash
  · rw [if_pos h3] at h; exact absurd h (by show ¬(10 : Int) = 0; decide)
  rw [if_neg h3]
  refine ⟨⟨by by_cases h : p.e = 0; exact h; exact absurd h h1, ?_, ?_, ?_, fun h => h2 (.inr (.inr (.inr h))), ?_⟩, rfl⟩
  · cases hb : p.begun with
    | true => rfl
    | false => exact absurd (.inl hb) h2
  · by_cases h : p.adds = 0; exact h; exact absurd (.inr (.inl (by omega))) h2
  · by_cases h : p.wait.size = 0; exact h; exact absurd (.inr (.inr (.inl h))) h2
  · by_cases h : sha (bts p.made) = p.hash; exact h; exact absurd h h3
theorem closeF (hd : Done p) (hl : p.made.size ≤ 8192) (hm : ¬p.made.size = 0) (hc : p.closed = true) :
    fnVC CT mDClose [.ptr 1 0] (hF p x) 4 fun v H' n' => Sub 4 ⟨[(0, .tup [.v (.string p.made), .v (.int .i64 0)])], hF p x, 4⟩ ⟨[(0, v)], H', n'⟩ := by
  obtain ⟨he, hb, ha, hw, hs, hh⟩ := hd
  have b0 : decide (p.e = 0) = true := decide_eq_true he
  have b2 : decide ((p.adds : Int) > 0) = false := decide_eq_false (by omega)
  have b3 : seq p.wait ⟨#[]⟩ = true := seq_emp hw
  have b4 : decide ((p.made.size : Int) < (p.size : Int)) = false := decide_eq_false (by omega)
  have b5 : seq (sha (bts p.made)) p.hash = true := by rw [hh]; exact seq_self _
  unfold mDClose hF patC
  rw [hb, hc]
  simp -implicitDefEqProofs only [↓fnVC, initTm]
  simp -implicitDefEqProofs only [go_sem, b0, b2, b3]
  refine in_call mixT tBLen ?_
  unfold mBLen
  simp -implicitDefEqProofs only [↓fnVC, initTm]
  simp -implicitDefEqProofs only [go_sem, b4]
  refine at_ext (enters_mk Try.func35 rfl rfl) (str27 (i := 1) (r := 3) (k := p.made.size) (bs := bts p.made) (by rfl) rfl (by rfl) rfl (by rw [bts_len]) hm (by omega) bts_bytes) ?_
  rw [tx_bts]
  simp -implicitDefEqProofs only [go_sem]
  refine at_call t9 (sum1S (s := p.made) (by rfl) (by omega)) ?_
  simp -implicitDefEqProofs only [go_sem, b5]
  refine at_ext (enters_mk Try.func35 rfl rfl) (str27 (i := 1) (r := 3) (k := p.made.size) (bs := bts p.made) (by rfl) rfl (by rfl) rfl (by rw [bts_len]) hm (by omega) bts_bytes) ?_
  rw [tx_bts]
  simp -implicitDefEqProofs only [go_sem]
  refine sub_mk [] rfl rfl rfl ?_
  simp only [tmSub, hpSub, objSub, eqTm, eqHp, rn, lk, SV.ren, SV.renC, SV.renB, SV.renA, ren_ints, ren_strs, ren_pl, ren_svs, SV.v.injEq, Value.int.injEq, Body.ints.injEq, SV.ptr.injEq, SV.sl.injEq, Value.string.injEq, Value.bool.injEq, List.map_cons, List.map_nil, forall_const, Nat.reduceLT, Nat.lt_add_one, imp_self, true_and, and_true, and_self, ob_some, get_mk, lk_cons, ↓reduceIte, Nat.reduceEqDiff, ne_eq, not_true_eq_false, not_false_eq_true, Nat.one_ne_zero, Nat.zero_ne_one, Nat.succ_ne_self, Nat.reduceAdd, Bool.false_eq_true, false_implies, implies_true, reduceCtorEq]
  repeat' (first | rfl | apply And.intro)
theorem cFS {i g r : Nat} (ho : H.get i = some (patN p i r)) (hg : ∃ u, H.get g = some ⟨u, ghP i⟩) (hr : ∃ u, H.get r = some ⟨u, .mp (.frz 5 (bts p.made))⟩) (hne : (0 < i ∧ i < 1000 ∧ 0 < g ∧ 0 < r) ∧ i ≠ g ∧ i ≠ r)
    (hd : Done p) (hl : p.made.size ≤ 8192) (hm : ¬p.made.size = 0) (hc : p.closed = true) :
    SpecAt Try.prog nDClose [.ptr i 0] H n (.tup [.v (.string p.made), .v (.int .i64 0)]) ⟨(i, some (patN p i r)) :: H.l, H.x⟩ n := by
  obtain ⟨u, hg⟩ := hg
  obtain ⟨u2, hr⟩ := hr
  obtain ⟨⟨n1, n2, n3, n4⟩, m1, m2⟩ := hne
  have := lift (n := n) (okT.spec tDClose (closeF (x := H.x) hd hl hm hc)) [(1, i), (2, g), (3, r)] rfl rfl rfl (by omega) rfl rfl
    ⟨sub_wr rfl n1 n2 ho rfl, sub_ro rfl n3 hg rfl, sub_ro rfl n4 hr rfl, trivial⟩ (by simp [apartB, apart1, rn, lk, m1, m2]) (by simp [wrNZ, rn, lk]; omega) (by omega)
  exact this
/-- Closed: nothing more is taken. -/
theorem wClS {i : Nat} {b s : SV} {u : Bool} {t : ByteArray} (hg : H.get i = some ⟨u, .sv (patC p b s)⟩) (hc : p.closed = true) :
    SpecAt Try.prog nDWrite [.ptr i 0, .v (.string t)] H n (.v (.int .i64 (if p.e = 0 then 3 else p.e))) H n := okT.pure tDWrite (by
  unfold mDWrite
  unfold patC at hg
  rw [hc] at hg
  simp -implicitDefEqProofs only [↓fnVC, initTm]
  simp -implicitDefEqProofs only [go_sem]
  by_cases e0 : p.e = 0
  · have b0 : decide (p.e = 0) = true := decide_eq_true e0
    rw [if_pos e0]
    simp -implicitDefEqProofs only [go_sem, hg, b0]
  · have b0 : decide (p.e = 0) = false := decide_eq_false e0
    rw [if_neg e0]
    simp -implicitDefEqProofs only [go_sem, hg, b0])
end
end Go.Sx