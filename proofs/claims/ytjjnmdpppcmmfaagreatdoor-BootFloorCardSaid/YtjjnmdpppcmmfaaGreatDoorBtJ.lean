/- Cells: what is then read. -/
import Derived.Test.YtjjnmdpppcmmfaaGreatDoorBtI

set_option linter.unusedVariables false
set_option linter.unusedSimpArgs false
set_option maxRecDepth 100000
namespace Go.Sx
open Go.Proofs
variable {H : Hp} {n : Nat} {x : Nat → Option SO} {d d' : Fd} {i a b c : Nat} {u1 u2 u3 : Bool}
theorem getD_set_ne {α : Type} {l : List α} {i j : Nat} {v z : α} (h : i ≠ j) : (l.set i v).getD j z = l.getD j z := by
  rw [List.getD_eq_getElem?_getD, List.getElem?_set_ne h, ← List.getD_eq_getElem?_getD]
theorem getD_set_eq {α : Type} {l : List α} {i : Nat} {v z : α} (h : i < l.length) : (l.set i v).getD i z = v := by
  rw [List.getD_eq_getElem?_getD, List.getElem?_set_self h]; rfl
theorem pch_len {a0 j : Nat} {I : ByteArray} : (pch a0 I j).length = j := by simp [pch]
theorem pch_mem {a0 j : Nat} {I : ByteArray} : ∀ w ∈ pch a0 I j, a0 < w.1 ∧ w.1 ≤ a0 + j ∧ w.2.length = 64 := by
  intro w hw
  unfold pch at hw
  obtain ⟨k, hk, rfl⟩ := List.mem_map.1 hw
  have := List.mem_range.1 hk
  exact ⟨by show a0 < a0 + 1 + k; omega, by show a0 + 1 + k ≤ a0 + j; omega, pad64_len (by rw [bts_len]; exact chk_size)⟩
theorem pch_get {a0 j k : Nat} {I : ByteArray} (h : k < j) : (pch a0 I j).getD k (0, []) = (a0 + 1 + k, pad64 (bts (chk I k))) := by
  unfold pch
  rw [List.getD_eq_getElem?_getD, List.getElem?_map, List.getElem?_range h]; rfl
theorem setl_pch {S : List (List Int)} {a0 j k : Nat} {I : ByteArray} (h : k < j) (hl : a0 + 1 + k < S.length) : (setl S (pch a0 I j)).getD (a0 + 1 + k) [] = pad64 (bts (chk I k)) := by
  have := setl_hit (S := S) (ws := pch a0 I j) (t := k) (j := a0 + 1 + k) (by rw [pch_len]; exact h) hl (by rw [pch_get h]) (by
    intro w hw
    unfold pch at hw
    rw [← List.map_drop] at hw
    obtain ⟨q, hq, rfl⟩ := List.mem_map.1 hw
    have : k + 1 ≤ q := by
      rw [List.range_eq_range', List.drop_range'] at hq
      have := List.mem_range'.1 hq
      omega
    show a0 + 1 + q ≠ a0 + 1 + k
    omega)
  rw [this, pch_get h]
theorem done_at {S : List (List Int)} {a0 : Nat} {I Q : ByteArray} (h : a0 < S.length) : (doneS S a0 Q I).getD a0 [] = hd64 Q := by
  unfold doneS; rw [getD_set_eq (by rw [setl_len, List.length_set]; exact h)]
theorem done_ch {S : List (List Int)} {a0 k : Nat} {I Q : ByteArray} (hk : k < nCh I) (h : a0 + 1 + k < S.length) : (doneS S a0 Q I).getD (a0 + 1 + k) [] = pad64 (bts (chk I k)) := by
  unfold doneS; rw [getD_set_ne (by omega), setl_pch hk (by rw [List.length_set]; exact h)]
theorem done_ne {S : List (List Int)} {a0 k : Nat} {I Q : ByteArray} (hk : k < a0 ∨ a0 + nCh I < k) : (doneS S a0 Q I).getD k [] = S.getD k [] := by
  unfold doneS
  rw [getD_set_ne (by omega), setl_none (fun w hw => by have := pch_mem w hw; omega), getD_set_ne (by omega)]
theorem pad_bytes {ys : List Int} (h : ∀ y ∈ ys, 0 ≤ y ∧ y ≤ 255) : ∀ y ∈ pad64 ys, 0 ≤ y ∧ y ≤ 255 := by
  intro y hy
  unfold pad64 at hy
  rcases List.mem_append.1 hy with hy | hy
  · exact h y hy
  · rw [List.eq_of_mem_replicate hy]; decide
theorem pad_split {B : List Int} {j : Nat} (h : 64 * j < B.length) : pad64 ((B.drop (64 * j)).take (min (64 * j + 64) B.length - 64 * j)) = ((B ++ List.replicate 64 0).drop (64 * j)).take 64 := by
  unfold pad64
  rw [List.drop_append_of_le_length (by omega), List.take_append]
  simp only [List.length_take, List.length_drop]
  have e1 : min (64 * j + 64) B.length - 64 * j = min 64 (B.length - 64 * j) := by omega
  rw [e1, List.take_replicate]
  congr 1
  · rw [show min 64 (B.length - 64 * j) = min 64 (B.drop (64 * j)).length by rw [List.length_drop], ← List.take_eq_take_min]
  · congr 1; omega
theorem bts_chk {I : ByteArray} {j : Nat} : bts (chk I j) = ((bts I).drop (64 * j)).take (min (64 * j + 64) (bts I).length - 64 * j) := by
  unfold chk; rw [bts_ext, bts_len]
theorem imgT_done {a0 : Nat} {I : ByteArray} (hc : ∀ k, k < nCh I → d.seen.getD (a0 + 1 + k) [] = pad64 (bts (chk I k))) : ∀ j, j ≤ nCh I → bts (imgT a0 d j) = (bts I ++ List.replicate 64 0).take (64 * j)
  | 0, _ => rfl
  | j + 1, h => by
    have hj : 64 * j < I.size := nCh_lt.1 (by omega)
    show bts (imgT a0 d j ++ secT d ((a0 : Int) + 1 + j)) = _
    rw [bts_app, imgT_done hc j (by omega)]
    have e : secT d ((a0 : Int) + 1 + j) = tx (pad64 (bts (chk I j))) := by
      unfold secT
      rw [show ((a0 : Int) + 1 + j).toNat = a0 + 1 + j by omega, hc j (by omega)]
    rw [e, btx (pad_bytes bts_bytes), bts_chk, pad_split (by rw [bts_len]; exact hj), show 64 * (j + 1) = 64 * j + 64 by omega, List.take_add]
theorem imgT_more {a0 : Int} {j : Nat} : ∀ k, ∃ t, imgT a0 d (j + k) = imgT a0 d j ++ t
  | 0 => ⟨⟨#[]⟩, by rw [app_nil]; rfl⟩
  | k + 1 => by
    obtain ⟨t, ht⟩ := imgT_more (a0 := a0) (j := j) k
    refine ⟨t ++ secT d (a0 + 1 + ((j + k : Nat) : Int)), ?_⟩
    rw [show j + (k + 1) = (j + k) + 1 from rfl, ← ByteArray.append_assoc, ← ht]
    rfl
theorem img_done {a0 r : Nat} {I : ByteArray} (hc : ∀ k, k < nCh I → d.seen.getD (a0 + 1 + k) [] = pad64 (bts (chk I k))) (hr : nCh I ≤ r) : (imgT a0 d r).extract 0 I.size = I := by
  obtain ⟨t, ht⟩ := imgT_more (d := d) (a0 := a0) (j := nCh I) (r - nCh I)
  rw [show nCh I + (r - nCh I) = r by omega] at ht
  have h1 : I.size ≤ 64 * nCh I := by unfold nCh; omega
  have h2 : (bts I).length = I.size := bts_len I
  have hs : I.size ≤ (imgT a0 d (nCh I)).size := by
    rw [← bts_len (imgT a0 d (nCh I)), imgT_done hc _ (Nat.le_refl _), List.length_take, List.length_append, List.length_replicate, h2]
    unfold nCh at *; omega
  rw [ht, ex_l hs]
  apply bts_inj
  rw [bts_ext, imgT_done hc _ (Nat.le_refl _)]
  rw [List.drop_zero, Nat.sub_zero, List.take_take, Nat.min_eq_left h1, List.take_append_of_le_length (by omega), List.take_of_length_le (by omega)]
theorem sec_ext {k a b : Nat} {T : List Int} (h : d.seen.getD k [] = T) (hT : ∀ y ∈ T, 0 ≤ y ∧ y ≤ 255) : bts ((secT d k).extract a b) = (T.drop a).take (b - a) := by
  unfold secT
  rw [Int.toNat_natCast, h, bts_ext, btx hT]
theorem be_small {y : Nat} (h : y < 256) : be y 8 = [0, 0, 0, 0, 0, 0, 0, (y : Int)] := by
  have e : ∀ k, 1 ≤ k → y / 256 ^ k = 0 := fun k hk => Nat.div_eq_of_lt (Nat.lt_of_lt_of_le h (by
    calc 256 = 256 ^ 1 := rfl
      _ ≤ 256 ^ k := Nat.pow_le_pow_right (by decide) hk))
  unfold be
  simp only [List.range, List.range.loop, List.map_cons, List.map_nil]
  rw [e 7 (by decide), e 6 (by decide), e 5 (by decide), e 4 (by decide), e 3 (by decide), e 2 (by decide), e 1 (by decide)]
  simp
  omega
theorem list8 {l : List Int} (h : l.length = 8) : l = [l.getD 0 0, l.getD 1 0, l.getD 2 0, l.getD 3 0, l.getD 4 0, l.getD 5 0, l.getD 6 0, l.getD 7 0] := by
  match l, h with
  | [a, b, c, d, e, f, g, h], _ => rfl
structure HdZ (T : List Int) : Prop where
  len : T.length = 64
  by_ : ∀ y ∈ T, 0 ≤ y ∧ y ≤ 255
  z1 : ∀ i, i < 7 → T.getD i 0 = 0
  z2 : ∀ i, i < 7 → T.getD (12 + i) 0 = 0
theorem getD_mem' {T : List Int} {j : Nat} (h : j < T.length) : T.getD j 0 ∈ T := by
  rw [List.getD_eq_getElem?_getD, List.getElem?_eq_getElem h]; exact List.getElem_mem h
theorem HdZ.sub {T : List Int} (h : HdZ T) {o : Nat} (ho : o + 8 ≤ 64) (hz : ∀ i, i < 7 → T.getD (o + i) 0 = 0) : (T.drop o).take 8 = be (T.getD (o + 7) 0).toNat 8 := by
  have hl : ((T.drop o).take 8).length = 8 := by rw [List.length_take, List.length_drop, h.len]; omega
  have hg : ∀ i, i < 8 → ((T.drop o).take 8).getD i 0 = T.getD (o + i) 0 := fun i hi => by
    rw [List.getD_eq_getElem?_getD, List.getElem?_take, if_pos hi, List.getElem?_drop, ← List.getD_eq_getElem?_getD]
  have hb := h.by_ _ (getD_mem' (T := T) (j := o + 7) (by rw [h.len]; omega))
  rw [be_small (by omega), list8 hl]
  rw [hg 0 (by decide), hg 1 (by decide), hg 2 (by decide), hg 3 (by decide), hg 4 (by decide), hg 5 (by decide), hg 6 (by decide), hg 7 (by decide)]
  rw [hz 0 (by decide), hz 1 (by decide), hz 2 (by decide), hz 3 (by decide), hz 4 (by decide), hz 5 (by decide), hz 6 (by decide)]
  rw [Int.toNat_of_nonneg hb.1]
theorem preE_z {s : ByteArray} (h : (bts s).getD 0 0 = 0) : preE s 0 = 0 := by
  unfold preE
  rw [if_neg]
  intro hc
  by_cases h0 : 0 < s.size
  · have := bts_getD (t := s) (j := 0) h0
    rw [h] at this
    omega
  · omega
theorem HdZ.n1 {T : List Int} (h : HdZ T) {k : Nat} (hs : d.seen.getD k [] = T) : num ((secT d k).extract 0 8) = (T.getD 7 0).toNat ∧ num ((secT d k).extract 12 20) = (T.getD 19 0).toNat ∧ preE (secT d k) 0 = 0 ∧ preE ((secT d k).extract 12 (secT d k).size) 0 = 0 := by
  have b1 := h.by_ _ (getD_mem' (T := T) (j := 7) (by rw [h.len]; omega))
  have b2 := h.by_ _ (getD_mem' (T := T) (j := 19) (by rw [h.len]; omega))
  have hz : (secT d k).size = 64 := by unfold secT; rw [Int.toNat_natCast, hs, tx_sz, h.len]
  refine ⟨num_be (k := 8) (by rw [sec_ext hs h.by_]; exact h.sub (o := 0) (by decide) (fun i hi => by rw [Nat.zero_add]; exact h.z1 i hi)) (by omega),
    num_be (k := 8) (by rw [sec_ext hs h.by_]; exact h.sub (o := 12) (by decide) h.z2) (by omega), preE_z ?_, preE_z ?_⟩
  · have := sec_ext (a := 0) (b := 64) hs h.by_
    rw [← hz, ext_all] at this
    rw [this, List.drop_zero, Nat.sub_zero, hz, List.take_of_length_le (by rw [h.len]; exact Nat.le_refl _)]
    exact h.z1 0 (by decide)
  · rw [hz, sec_ext hs h.by_, List.getD_eq_getElem?_getD, List.getElem?_take, if_pos (by decide), List.getElem?_drop, ← List.getD_eq_getElem?_getD]
    exact h.z2 0 (by decide)
theorem HdZ.no {T : List Int} (h : HdZ T) {k : Nat} (hs : d.seen.getD k [] = T) (hn : T.getD 7 0 = 0 ∨ T.getD 7 0 ≠ T.getD 19 0) : NoHd (secT d k) := by
  have b1 := h.by_ _ (getD_mem' (T := T) (j := 7) (by rw [h.len]; omega))
  have b2 := h.by_ _ (getD_mem' (T := T) (j := 19) (by rw [h.len]; omega))
  obtain ⟨h1, h2, h3, h4⟩ := h.n1 hs
  refine ⟨h3, h4, ?_, ?_, ?_⟩
  · rw [h1, h2]; omega
  · rw [h1]; omega
  · rw [h2]; omega
theorem hdL_bytes {k z : Nat} : ∀ y ∈ be k 8 ++ be z 4 ++ be k 8, 0 ≤ y ∧ y ≤ 255 := by
  intro y hy
  simp only [List.mem_append] at hy
  rcases hy with (hy | hy) | hy
  · exact be_bytes y hy
  · exact be_bytes y hy
  · exact be_bytes y hy
theorem hdC64 {k z : Nat} : hd64 (hdC k z) = be k 8 ++ be z 4 ++ be k 8 ++ List.replicate 44 0 := by
  unfold hd64 pad64 hdC
  rw [btx hdL_bytes]
  have : (be k 8 ++ be z 4 ++ be k 8).length = 20 := by simp only [List.length_append, be_len]
  rw [this]
theorem hdC_Z {k z : Nat} (hk : k < 256) : HdZ (hd64 (hdC k z)) ∧ (hd64 (hdC k z)).getD 7 0 = (k : Int) ∧ (hd64 (hdC k z)).getD 19 0 = (k : Int) ∧ ((hd64 (hdC k z)).drop 8).take 4 = be z 4 := by
  have hb : ∀ y ∈ hd64 (hdC k z), 0 ≤ y ∧ y ≤ 255 := pad_bytes bts_bytes
  have hl : (hd64 (hdC k z)).length = 64 := pad64_len (by rw [bts_len, hdC_size]; decide)
  have e := hdC64 (k := k) (z := z)
  rw [be_small hk] at e
  have h4 : (be z 4).length = 4 := be_len
  generalize be z 4 = Z at e h4
  match Z, h4 with
  | [p, q, r, s], _ =>
    rw [e] at hb hl ⊢
    refine ⟨⟨hl, hb, fun i hi => ?_, fun i hi => ?_⟩, rfl, rfl, rfl⟩
    · match i, hi with
      | 0, _ | 1, _ | 2, _ | 3, _ | 4, _ | 5, _ | 6, _ => rfl
    · match i, hi with
      | 0, _ | 1, _ | 2, _ | 3, _ | 4, _ | 5, _ | 6, _ => rfl
end Go.Sx

/- Cells: what a crash leaves. -/
set_option linter.unusedVariables false
set_option linter.unusedSimpArgs false
set_option maxRecDepth 100000
namespace Go.Sx
open Go.Proofs
variable {H : Hp} {n : Nat} {x : Nat → Option SO} {d d' : Fd} {i a b c : Nat} {u1 u2 u3 : Bool}
structure CpV (S : List (List Int)) (a0 h r : Nat) (es : List (Value × Value)) : Prop where
  r0 : 0 < r
  r1 : r < 256
  hd : S.getD a0 [] = hd64 (hdC r (encB es).size)
  ch : ∀ k, k < nCh (encB es) → S.getD (a0 + 1 + k) [] = pad64 (bts (chk (encB es) k))
  room : (encB es).size ≤ 64 * (h - 1)
  es : Es es
def CpS (S : List (List Int)) (a0 h r : Nat) (es : List (Value × Value)) : Prop :=
  HdZ (S.getD a0 []) ∧ ((r = 0 ∧ ((S.getD a0 []).getD 7 0 = 0 ∨ (S.getD a0 []).getD 7 0 ≠ (S.getD a0 []).getD 19 0)) ∨ CpV S a0 h r es)
theorem room_ch {I : ByteArray} {h : Nat} (hr : I.size ≤ 64 * (h - 1)) : nCh I ≤ h - 1 := by unfold nCh; omega
theorem CpV.z {S : List (List Int)} {a0 h r : Nat} {es : List (Value × Value)} (c : CpV S a0 h r es) : HdZ (S.getD a0 []) := by rw [c.hd]; exact (hdC_Z c.r1).1
theorem CpV.s {S : List (List Int)} {a0 h r : Nat} {es : List (Value × Value)} (c : CpV S a0 h r es) : CpS S a0 h r es := ⟨c.z, .inr c⟩
theorem CpS.o {a0 h r : Nat} {es : List (Value × Value)} (hh : h ≤ 129) (c : CpS d.seen a0 h r es) : CpO d a0 h r es := by
  obtain ⟨hz, ⟨h0, hn⟩ | v⟩ := c
  · exact .inl ⟨h0, hz.no rfl hn⟩
  · obtain ⟨r0, r1, hd, ch, room, hes⟩ := v
    refine .inr ⟨?_, img_done ch (room_ch room), room, hes⟩
    obtain ⟨h1, h2, h3, h4⟩ := hz.n1 (k := a0) rfl
    obtain ⟨k1, k2, k3, k4⟩ := hdC_Z (k := r) (z := (encB es).size) r1
    refine ⟨h3, h4, ?_, ?_, ?_, r0, by omega⟩
    · rw [h1, hd, k2]; omega
    · exact num_be (k := 4) (by rw [sec_ext hd k1.by_]; exact k4) (by omega)
    · rw [h2, hd, k3]; omega
theorem CpS.congr {S S' : List (List Int)} {a0 h r : Nat} {es : List (Value × Value)} (c : CpS S a0 h r es) (hh : 1 ≤ h) (he : ∀ k, a0 ≤ k → k < a0 + h → S'.getD k [] = S.getD k []) : CpS S' a0 h r es := by
  have h0 := he a0 (Nat.le_refl _) (by omega)
  obtain ⟨hz, hc⟩ := c
  unfold CpS
  rw [h0]
  refine ⟨hz, hc.imp_right fun v => ?_⟩
  obtain ⟨r0, r1, hd, ch, room, hes⟩ := v
  exact ⟨r0, r1, by rw [h0]; exact hd, fun k hk => by have := room_ch room; rw [he _ (by omega) (by omega)]; exact ch k hk, room, hes⟩
theorem z64_eq : z64 = List.replicate 64 0 := rfl
theorem z64_bytes : ∀ y ∈ z64, 0 ≤ y ∧ y ≤ 255 := pad_bytes bts_bytes
theorem z64_Z : HdZ z64 := by
  refine ⟨rfl, z64_bytes, fun i hi => ?_, fun i hi => ?_⟩
  · match i, hi with
    | 0, _ | 1, _ | 2, _ | 3, _ | 4, _ | 5, _ | 6, _ => rfl
  · match i, hi with
    | 0, _ | 1, _ | 2, _ | 3, _ | 4, _ | 5, _ | 6, _ => rfl
theorem z64_get {j : Nat} : z64.getD j 0 = 0 := by
  rw [z64_eq, List.getD_eq_getElem?_getD, List.getElem?_replicate]; split <;> rfl
theorem cps_z {S : List (List Int)} {a0 h : Nat} {es : List (Value × Value)} (he : S.getD a0 [] = z64) : CpS S a0 h 0 es := by
  unfold CpS
  rw [he]
  exact ⟨z64_Z, .inl ⟨rfl, .inl z64_get⟩⟩
theorem done_cpv {S : List (List Int)} {a0 h N : Nat} {es : List (Value × Value)} (hl : a0 + h ≤ S.length) (hh : 2 ≤ h) (hI : (encB es).size ≤ 64 * (h - 1)) (hN : 0 < N ∧ N < 256) (hE : Es es) : CpV (doneS S a0 (hdC N (encB es).size) (encB es)) a0 h N es := by
  have hc := room_ch hI
  exact ⟨hN.1, hN.2, done_at (by omega), fun k hk => done_ch hk (by omega), hI, hE⟩
end Go.Sx

/- Cells: regions; what an opening finds. -/
set_option linter.unusedVariables false
set_option linter.unusedSimpArgs false
set_option maxRecDepth 100000
namespace Go.Sx
open Go.Proofs
variable {H : Hp} {n : Nat} {x : Nat → Option SO} {d d' : Fd} {i a b c : Nat} {u1 u2 u3 : Bool}
theorem srtK_mem' {es : List (Value × Value)} {s : ByteArray} (h : s.data.toList ∈ es.map keyB) : s ∈ srtK es := by
  unfold srtK
  refine List.mem_map.2 ⟨s.data.toList, (List.mergeSort_perm _ _).mem_iff.2 h, ?_⟩
  apply ByteArray.ext
  rfl
theorem lu_key {es : List (Value × Value)} {s : ByteArray} {v : Value} (h : luS es s = some v) : s.data.toList ∈ es.map keyB := by
  induction es with
  | nil => cases h
  | cons e es ih =>
    unfold luS at h
    split at h
    · rename_i hk
      unfold keyIs at hk
      refine List.mem_map.2 ⟨e, List.mem_cons_self .., ?_⟩
      unfold keyB
      split at hk
      · rename_i t ht
        have : t = s := of_decide_eq_true hk
        rw [this] at ht
        rw [ht]
      · cases hk
    · exact List.mem_cons_of_mem _ (ih h)
theorem Es.nil : Es [] := ⟨rfl, fun _ h => absurd h List.not_mem_nil, fun _ h => absurd h List.not_mem_nil, by decide, fun _ h => absurd h List.not_mem_nil, List.nodup_nil⟩
theorem srtE_nil : srtE [] = [] := by
  have : srtK [] = [] := List.length_eq_zero_iff.1 (by rw [srtK_len]; rfl)
  unfold srtE; rw [this]; rfl
theorem keyB_up {es : List (Value × Value)} {s : ByteArray} {v : Value} (hk : keysS es = true) : (upS es s v).map keyB = if s.data.toList ∈ es.map keyB then es.map keyB else es.map keyB ++ [s.data.toList] := by
  induction es with
  | nil => rfl
  | cons e es ih =>
    unfold keysS at hk
    rw [List.all_cons, Bool.and_eq_true] at hk
    unfold upS
    by_cases c : keyIs e.1 s = true
    · rw [if_pos c]
      have he : keyB e = s.data.toList := by
        unfold keyIs at c
        unfold keyB
        split at c
        · rename_i t ht
          have : t = s := of_decide_eq_true c
          rw [this] at ht
          rw [ht]
        · cases c
      rw [if_pos (by rw [List.map_cons, he]; exact List.mem_cons_self ..), List.map_cons, List.map_cons, he]
      rfl
    · have hne : keyB e ≠ s.data.toList := by
        intro he
        apply c
        unfold keyB at he
        have h1 := hk.1
        unfold keyIs
        cases hq : e.1 <;> simp [hq] at h1
        rename_i q
        rw [hq] at he
        have : q = s := ByteArray.ext (Array.toList_inj.1 he)
        exact decide_eq_true this
      rw [if_neg c, List.map_cons, List.map_cons, ih hk.2]
      by_cases hm : s.data.toList ∈ es.map keyB
      · rw [if_pos hm, if_pos (List.mem_cons_of_mem _ hm)]
      · rw [if_neg hm, if_neg (fun h => by rcases List.mem_cons.1 h with e | e; exact hne e.symm; exact hm e)]
        rfl
theorem up_mem {es : List (Value × Value)} {s : ByteArray} {v : Value} : ∀ {e}, e ∈ upS es s v → e = (.string s, v) ∨ e ∈ es := by
  induction es with
  | nil => intro e h; exact .inl (List.mem_singleton.1 h)
  | cons e' es ih =>
    intro e h
    unfold upS at h
    split at h
    · rcases List.mem_cons.1 h with h | h
      · exact .inl h
      · exact .inr (List.mem_cons_of_mem _ h)
    · rcases List.mem_cons.1 h with h | h
      · exact .inr (by rw [h]; exact List.mem_cons_self ..)
      · exact (ih h).imp_right (List.mem_cons_of_mem _)
theorem keysS_up {es : List (Value × Value)} {s : ByteArray} {y : Value} (h : keysS es = true) : keysS (upS es s y) = true := by
  unfold keysS at h ⊢
  rw [List.all_eq_true] at h ⊢
  intro e he
  rcases up_mem he with rfl | he
  · rfl
  · exact h e he
theorem Es.up {es : List (Value × Value)} (h : Es es) {s t : ByteArray} (hs : s.size ≠ 0) (hs2 : s.size ≤ 32) (ht : t.size ≤ 65535) (hl : s.data.toList ∈ es.map keyB ∨ es.length < 64) : Es (upS es s (.agg ⟨[.string t]⟩)) := by
  have hk := keyB_up (s := s) (v := .agg ⟨[.string t]⟩) h.keys
  refine ⟨keysS_up h.keys, fun e he => ?_, fun e he => ?_, ?_, fun e he => ?_, ?_⟩
  · rcases up_mem he with rfl | he
    · show s.data.toList.length ≤ 32
      rw [Array.length_toList]; exact hs2
    · exact h.kl e he
  · rcases up_mem he with rfl | he
    · exact ⟨t, rfl, ht⟩
    · exact h.vals e he
  · have := congrArg List.length hk
    rw [List.length_map] at this
    rw [this]
    have := h.len
    split
    · rw [List.length_map]; omega
    · rename_i hn
      rw [List.length_append, List.length_map, List.length_singleton]
      rcases hl with hl | hl
      · exact absurd hl hn
      · omega
  · rcases up_mem he with rfl | he
    · show s.data.toList ≠ []
      intro e
      apply hs
      have := congrArg List.length e
      rw [Array.length_toList] at this
      exact this
    · exact h.ne e he
  · rw [hk]
    split
    · exact h.nd
    · rename_i hn
      rw [List.nodup_append]
      exact ⟨h.nd, (List.nodup_cons.2 ⟨List.not_mem_nil, List.nodup_nil⟩), fun a ha b hb => by rw [List.mem_singleton.1 hb]; exact fun e => hn (e ▸ ha)⟩
theorem Es.put {es : List (Value × Value)} (h : Es es) (s t : ByteArray) : Es (putEs es s t) := by
  unfold putEs
  split
  · rename_i h0
    unfold putE at h0
    split at h0
    · cases h0
    split at h0
    · cases h0
    split at h0
    · cases h0
    · rename_i c1 c2 c3
      refine h.up (by omega) (by omega) (by omega) ?_
      by_cases hl : es.length < 64
      · exact .inr hl
      · left
        rcases h.lu s with ⟨h1, _⟩ | h1
        · exact absurd ⟨by rw [h1]; rfl, by omega⟩ c3
        · exact lu_key h1
  · exact h
theorem dl_mem {es : List (Value × Value)} {s : ByteArray} : (dlS es s).Sublist es := by
  induction es with
  | nil => exact .slnil
  | cons e es ih =>
    unfold dlS
    split
    · exact List.sublist_cons_self ..
    · exact ih.cons_cons _
theorem Es.drop {es : List (Value × Value)} (h : Es es) (s : ByteArray) : Es (dlS es s) := by
  have hs := dl_mem (es := es) (s := s)
  refine ⟨?_, fun e he => h.kl e (hs.subset he), fun e he => h.vals e (hs.subset he), Nat.le_trans hs.length_le h.len, fun e he => h.ne e (hs.subset he), (hs.map keyB).nodup h.nd⟩
  have hk := h.keys
  unfold keysS at hk ⊢
  rw [List.all_eq_true] at hk ⊢
  exact fun e he => hk e (hs.subset he)
end Go.Sx

/- Cells: commits. -/
set_option linter.unusedVariables false
set_option linter.unusedSimpArgs false
set_option maxRecDepth 100000
namespace Go.Sx
open Go.Proofs
variable {H : Hp} {n : Nat} {x : Nat → Option SO} {d d' : Fd} {i a b c : Nat} {u1 u2 u3 : Bool}
def Reg (S : List (List Int)) (B h N L : Nat) (es : List (Value × Value)) : Prop :=
  L ≤ 1 ∧ CpS S (B + L * h) h N es ∧ ∃ r e', CpS S (B + (1 - L) * h) h r e' ∧ (r < N ∨ (N = 0 ∧ r = 0 ∧ L = 1 ∧ es = []))
theorem Reg.opn {B h N L : Nat} {es : List (Value × Value)} (hh : h ≤ 129) (g : Reg d.seen B h N L es) : ∃ r0 r1 e0 e1, CpO d B h r0 e0 ∧ CpO d (B + h) h r1 e1 ∧ opN r0 r1 = N ∧ opL r0 r1 = L ∧ opE r0 r1 e0 e1 = srtE es := by
  obtain ⟨hL, h1, r, e', h2, h3⟩ := g
  have hc : L = 0 ∨ L = 1 := by omega
  rcases hc with rfl | rfl
  · rw [Nat.zero_mul, Nat.add_zero] at h1
    rw [Nat.sub_zero, Nat.one_mul] at h2
    have h4 : r < N := by omega
    refine ⟨N, r, es, e', h1.o hh, h2.o hh, ?_, ?_, ?_⟩
    · unfold opN; rw [if_neg (by omega)]
    · unfold opL; rw [if_neg (by omega), if_pos (by omega)]
    · unfold opE; rw [if_neg (by omega), if_pos (by omega)]
  · rw [Nat.one_mul] at h1
    rw [Nat.sub_self, Nat.zero_mul, Nat.add_zero] at h2
    refine ⟨r, N, e', es, h2.o hh, h1.o hh, ?_, ?_, ?_⟩
    · unfold opN; split <;> omega
    · unfold opL; split
      · rfl
      · rw [if_neg (by omega)]
    · unfold opE
      rcases h3 with h3 | ⟨rfl, rfl, _, rfl⟩
      · rw [if_pos h3]
      · rw [if_neg (by omega), if_neg (by omega), srtE_nil]
theorem Reg.congr {S S' : List (List Int)} {B h N L : Nat} {es : List (Value × Value)} (g : Reg S B h N L es) (hh : 1 ≤ h) (he : ∀ k, B ≤ k → k < B + 2 * h → S'.getD k [] = S.getD k []) : Reg S' B h N L es := by
  obtain ⟨hL, h1, r, e', h2, h3⟩ := g
  have hc : L = 0 ∨ L = 1 := by omega
  refine ⟨hL, h1.congr hh fun k k1 k2 => he k (by omega) ?_, r, e', h2.congr hh fun k k1 k2 => he k (by omega) ?_, h3⟩
  · rcases hc with rfl | rfl <;> omega
  · rcases hc with rfl | rfl <;> omega
theorem Reg.new {B h k : Nat} (hk : B + 2 * h ≤ k) (hh : 1 ≤ h) : Reg (List.replicate k (zi 64)) B h 0 1 [] := by
  have hz : ∀ j, j < k → (List.replicate k (zi 64)).getD j [] = z64 := fun j hj => by
    rw [List.getD_eq_getElem?_getD, List.getElem?_replicate, if_pos hj]; rfl
  exact ⟨Nat.le_refl _, cps_z (hz _ (by omega)), 0, [], cps_z (hz _ (by omega)), .inr ⟨rfl, rfl, rfl, rfl⟩⟩
theorem inv_good {m : Nat} {P : List (List Int) → List (Nat × List Int) → Prop} {st : Int} {X : List (List Int)} {Y : List (Nat × List Int)} {p : Int × Fd} (h : InvP true m P st X Y p) : p.1 = 0 ∧ GoodP true m st X Y p.2 := by
  rcases h with h | ⟨h, _⟩
  · exact h
  · cases h
theorem goodNew {m : Nat} : GoodP true m 0 (List.replicate m (zi 64)) [] (newD m) := ⟨rfl, rfl, rfl, rfl, by simp [newD], rfl, fun _ => rfl⟩
theorem GoodP.seen' {f0 : Bool} {m : Nat} {st : Int} {X : List (List Int)} (g : GoodP f0 m st X [] d) : d.seen = X := by
  have := g.sn
  unfold Sn at this
  rw [this, g.safe, g.pend]
  rfl
theorem Reg.done {S : List (List Int)} {B h N L : Nat} {es0 es : List (Value × Value)} (g : Reg S B h N L es0) (hl : B + 2 * h ≤ S.length) (hh : 2 ≤ h) (hI : (encB es).size ≤ 64 * (h - 1)) (hN : N < 255) (hE : Es es) :
    Reg (doneS S (B + (1 - L) * h) (hdC (N + 1) (encB es).size) (encB es)) B h (N + 1) (1 - L) es := by
  obtain ⟨hL, h1, r, e', h2, h3⟩ := g
  have hc := room_ch hI
  have hcs : L = 0 ∨ L = 1 := by omega
  refine ⟨by omega, ?_, N, es0, ?_, .inl (by omega)⟩
  · rcases hcs with rfl | rfl
    · exact (done_cpv (a0 := B + (1 - 0) * h) (by omega) hh hI (by omega) hE).s
    · exact (done_cpv (a0 := B + (1 - 1) * h) (by omega) hh hI (by omega) hE).s
  · have e : 1 - (1 - L) = L := by omega
    rw [e]
    refine h1.congr (by omega) fun k k1 k2 => done_ne ?_
    rcases hcs with rfl | rfl <;> omega
end Go.Sx

/- Cells: the document's example. -/
set_option linter.unusedVariables false
set_option linter.unusedSimpArgs false
set_option maxRecDepth 100000
namespace Go.Sx
open Go.Proofs
variable {H : Hp} {n : Nat} {x : Nat → Option SO} {d d' : Fd} {i a b c : Nat} {u1 u2 u3 : Bool} {C C' : Ce}
def kv (k t : ByteArray) : List (Value × Value) := [(.string k, .agg ⟨[.string t]⟩)]
theorem kv_lu {k t : ByteArray} : luS (kv k t) k = some (.agg ⟨[.string t]⟩) := by
  unfold kv luS keyIs
  rw [if_pos (decide_eq_true rfl)]
theorem kv_t {k t : ByteArray} : tOf (kv k t) k = t := by unfold tOf; rw [kv_lu]
theorem kv_es {k t : ByteArray} (h0 : k.size ≠ 0) (hk : k.size ≤ 32) (ht : t.size ≤ 65535) : Es (kv k t) := Es.nil.up (s := k) (t := t) h0 hk ht (.inr (by decide))
theorem kv_srtK {k t : ByteArray} : srtK (kv k t) = [k] := by
  unfold srtK kv
  rw [List.map_cons, List.map_nil, List.mergeSort_singleton]
  rfl
theorem suf_size {es : List (Value × Value)} : ∀ l, (suf es l).size = (l.map fun nm => 4 + nm.size + (tOf es nm).size).sum
  | [] => rfl
  | nm :: l => by
    unfold suf
    simp only [ByteArray.size_append, tx_sz, be_len, suf_size l, List.map_cons, List.sum_cons]
    omega
theorem enc_size {es : List (Value × Value)} : (encB es).size = 2 + ((srtK es).map fun nm => 4 + nm.size + (tOf es nm).size).sum := by
  rw [encB_suf, ByteArray.size_append, tx_sz, be_len, suf_size]
theorem kv_size {k t : ByteArray} : (encB (kv k t)).size = 6 + k.size + t.size := by
  rw [enc_size, kv_srtK]
  simp only [List.map_cons, List.map_nil, List.sum_cons, List.sum_nil, kv_t]
  omega
theorem putE_ok {es : List (Value × Value)} {k t : ByteArray} (h0 : k.size ≠ 0) (hk : k.size ≤ 32) (ht : t.size ≤ 65535) (hl : es.length < 64) : putE es k t = 0 := by
  unfold putE
  rw [if_neg (by omega), if_neg (by omega), if_neg (by omega)]
theorem coR_inv {f0 : Bool} {m : Nat} {st : Int} {S : List (List Int)} (hh : 2 ≤ C.half) (hI : (encB C.now).size ≤ 64 * (C.half - 1)) (g : GoodP f0 m st S [] d) (hl : C.base + 2 * C.half ≤ m) (hL : C.last ≤ 1) :
    InvP f0 m (PhA S (ceTo C) (hdC (C.num + 1) (encB C.now).size) (encB C.now)) (st + 5 + nCh (encB C.now)) (doneS S (ceTo C) (hdC (C.num + 1) (encB C.now).size) (encB C.now)) [] (coQ C d) := by
  have hc := room_ch hI
  unfold coQ
  refine slW_inv (r := C.half - 1) (by rw [hdC_size]; decide) g ?_ hc
  unfold ceTo
  have hcs : C.last = 0 ∨ C.last = 1 := by omega
  rcases hcs with h | h <;> rw [h] <;> omega
theorem coR_good {m : Nat} {st : Int} {S : List (List Int)} (hD : C.dead = false) (hh : 2 ≤ C.half) (hI : (encB C.now).size ≤ 64 * (C.half - 1)) (g : GoodP true m st S [] d) (hl : C.base + 2 * C.half ≤ m) (hL : C.last ≤ 1) :
    ∃ d1, coR C d = (0, { C with last := 1 - C.last, num := C.num + 1, was := C.now }, d1) ∧ GoodP true m (st + 5 + nCh (encB C.now)) (doneS S (ceTo C) (hdC (C.num + 1) (encB C.now).size) (encB C.now)) [] d1 := by
  obtain ⟨h1, h2⟩ := inv_good (coR_inv hh hI g hl hL)
  refine ⟨(coQ C d).2, ?_, h2⟩
  unfold coR
  rw [if_neg (by rw [hD]; decide), if_neg (by omega), if_neg (by rw [h1]; decide)]
theorem coR_pl {m t : Nat} (hP : Pl d m t) (ht : t + 1000 < 1000000) (hI : C.half ≤ 129) : Pl (coR C d).2.2 m (t + 133) := by
  unfold coR
  split
  · exact hP.mono (by omega)
  split
  · exact hP.mono (by omega)
  · rename_i h
    split
    · exact slW_pl hP ht (by omega)
    · exact slW_pl hP ht (by omega)
theorem openR {B h N L : Nat} {es es' : List (Value × Value)} (hD : DevAt H d i a b c) (hB : B ≤ 4096) (hh : 2 ≤ h ∧ h ≤ 129) (hd : d.ok) (ho : d.off = false) (hl : B + 2 * h ≤ d.seen.length) (g : Reg d.seen B h N L es) (he : srtE es = es') (hn : n + 3 ≤ 1000) :
    SpecAt Tryz.prog nCOpen [.ptr i 0, .v (.int .i64 B), .v (.int .i64 h)] H n (.tup [.ptr n 0, .v (.int .i64 0)]) ⟨(n, some ⟨true, cellB ⟨B, h, N, L, false, es', es'⟩ i (n + 1) (n + 2)⟩) :: (n + 1, some ⟨true, .mp (.map es')⟩) :: (n + 2, some ⟨true, .mp (.map es')⟩) :: H.l, H.x⟩ (n + 3) := by
  obtain ⟨r0, r1, e0, e1, h1, h2, h3, h4, h5⟩ := g.opn hh.2
  have := openS (n := n) hD hB hh hd ho hl h1 h2 hn
  unfold opC at this
  rw [h3, h4, h5, he] at this
  exact this
theorem putS' {i D a b c M W : Nat} {name text : ByteArray} {e : Int} {es' : List (Value × Value)} (h : CellAt H C d i D a b c M W) (hE : Es C.now) (he : putE C.now name text = e) (hs : putEs C.now name text = es') :
    SpecAt Tryz.prog nCPut [.ptr i 0, .v (.string name), .v (.string text)] H n (.v (.int .i64 e))
      ⟨(i, some ⟨true, cellB C D M W⟩) :: (D, some ⟨true, devB d a b c⟩) :: (a, some ⟨true, secB d.seen⟩) :: (b, some ⟨true, secB d.safe⟩) :: (c, some ⟨true, .pl (prow d.pend)⟩) :: (M, some ⟨true, .mp (.map es')⟩) :: (W, some ⟨true, .mp (.map C.was)⟩) :: H.l, H.x⟩ n := by
  subst he; subst hs; exact putS h hE
end Go.Sx

/- Cells: the document's list of names with texts, plain. -/
set_option linter.unusedVariables false
set_option linter.unusedSimpArgs false
set_option maxRecDepth 100000
namespace Go.Sx
open Go.Proofs
abbrev PL := List (ByteArray × ByteArray)
def prs (es : List (Value × Value)) : PL := (srtK es).map fun nm => (nm, tOf es nm)
def pcell (p : ByteArray × ByteArray) : List Value := [.string p.1, .string p.2]
def prw (P : PL) : List Value := (P.map pcell).flatten
end Go.Sx

/- Cells: the document's calls. -/
set_option linter.unusedVariables false
set_option linter.unusedSimpArgs false
set_option maxRecDepth 100000
namespace Go.Sx
attribute [local go_sem ↓] bind_mk intsB_mk strsB_mk svB_mk fnVC ob_some vc_skip vc_exit vc_ret vc_seq vc_block kSeq_normal kSeq_exit kSeq_ret kBlock_normal kBlock_exit kBlock_ret vc_reg vc_regD vc_cond condK_true condK_false vc_loop kLoop_exit kLoop_ret kRoll_normal kRoll_exit kRoll_ret vcOps_nil vcOps_cons gd_bool gd_undef put_some put_none vcT_fin vcT_pure vcT_act vcT_acts vcT_stop stab_none stab_some stabM_nil stabM_cons stabO_ld stabO_ldn stabO_slP stabO_b2s fldOf_ai fldOf_agg fldOf_ait fldOf_aggt intsOf_nil intsOf_cons strsOf_nil strsOf_cons c_omap ob_if lk_nil lk_cons ev_t ev_k z_mov z_pick z_bin z_binA z_binB z_binP z_un z_r2s z_conv z_s2b z_b2s z_mkM z_luM z_upM z_lenM lenMk_mp lenMk_nil plsOf_v z_delM asM_so plV_v plV_agg mpOf_mp mpOf_nil mpUp_mp asM_mp luV_ok luV_v z_allocT aggOf_mk z_boxT z_alloc z_bld z_bldI z_rowI z_rowS z_ld z_ldn z_st z_stn asN_ptr asN_fn z_nilck z_fld z_fadr z_idxA z_idxP z_idxS z_idxV z_slS z_slL z_slP z_mk z_lenS z_lenL z_app appC_ints appC_pl appC_sv appC_strs isS_strs loose_ints loose_pl loose_sv z_slM z_callv callvK_fn callvK_f callvK_yl vc_rangeF rfEnd_eq rfGo_none rfGo_ret rfGo_exit yGo_mk yEnd_n yEnd_r yEnd_e yRdy_mk yMid_n putPs_nil putPs_cons leaf_v leaf_ptr leaf_sl leaf_yl leaf_mp z_appS z_appST z_appZ z_cpyS z_mkfn reps_int reps_str z_rowV z_slnil nilK_zero z_cpy z_call asT_tup z_extT z_box boxOf_ai boxOf_agg boxOf_int boxOf_str boxOf_bool boxOf_ptr boxOf_sl sbin_int sbin_str sbinA_mk ae_nil ae_int ae_str sbinB_mk sbinP_nn sbinP_pn sbinP_np i_add i_sub i_mul i_quo i_rem i_and i_or i_xor i_andNot i_shl i_shr i_eql i_neq i_lss i_leq i_gtr i_geq st_add st_eql st_neq st_lss st_leq st_gtr st_geq bo_eql bo_neq pt_eql pt_neq un_neg un_xor un_not asI_mk asB_mk asS_mk asP_mk asSl_mk asBy_mk bnd_none bnd_some get_mk hput_mk hdel_mk kill_eq wrOf_eq rowOf_eq rsvs_0 rsvs_1 rsvs_2 rsvs_3 rsv_t rsv_c1 rsv_cn nt_v nt_ptr nt_sl nt_agg nt_ai get_ints get_strs get_pl get_sv getN_ints getN_sv set_ints set_strs set_sv setN_ints setN_sv part_ints part_strs part_sv cat_ints cat_strs cat_sv over_ints over_strs over_sv ones_ints ones_strs evs_nil evs_cons condK_eqt condK_eqf det_callP V_ns V_nn V_gs V_gn obC_mk fresh_ev freshT_ev freshR_ev setN_plagg setN_intsv setN_svai setN_svagg over_intsv set_pl setN_pl setN_plai getN_pl getN_strs part_pl cat_pl over_pl over_plints z_mm
attribute [local go_sem] initTm ne_eq not_true_eq_false not_false_eq_true true_and and_true List.length_cons List.length_nil Int.toNat_natCast Nat.add_zero Nat.zero_add Nat.mul_one List.getElem?_cons_zero List.drop_zero List.take_length List.take_succ_cons List.take_zero List.take_nil List.drop_succ_cons Option.map_some Nat.le_refl implies_true List.getElem?_cons_succ decide_true decide_false Bool.not_true Bool.not_false beq_self_eq_true Nat.succ_ne_self Nat.one_ne_zero Nat.zero_ne_one vk_mk hk_mk nk_mk tok_eq plsOf_map intsOf_map bodyOf_pl bodyOf_ints bodyOf_strs bodyOf_sv part_aggv part_agg part_ai part_int part_str part_bool part_sl part_ptr part_nil numsOf_map u_int u_str u_bool u_pnil u_sl u_ptr u_oci u_ocs evq_nil evq_cons fillS_nil fillS_cons u_ocb ones_pl cells_sv cells_ints cells_strs cells_pl smms_nil smms_cons smm_min smm_max plsOf_nil List.nil_append List.all_cons List.all_nil Bool.and_self Bool.true_and Bool.and_true zws_len zw_len zi_len List.set_cons_zero List.set_cons_succ List.flatMap_cons List.flatMap_nil List.append_nil
attribute [local go_sem_proc] Nat.reduceEqDiff Nat.reduceAdd Nat.reduceMul Nat.reduceLT Nat.reduceLeDiff Nat.reduceSub Int.reduceToNat Int.reduceLE Int.reduceLT reduceCtorEq Int.reduceEq Int.reduceGT Int.reduceGE Int.reduceNeg
attribute [local go_sem_proc ↓] reduceIte
section
open Go.Proofs
variable {H : Hp} {n : Nat} {x : Nat → Option SO} {i D M W : Nat} {d d' : Fd} {C C' : Ce}
def rcL (C : Ce) (m w D M W : Nat) : Body := .sv [.ptr D 0, .v (.int .i64 C.base), .v (.int .i64 C.half), .sl M 0 m 2, .sl W 0 w 2, .v (.int .i64 C.num), .v (.int .i64 C.last), .v (.bool C.dead)]
def rcellB (C : Ce) (D M W : Nat) : Body := rcL C C.now.length C.was.length D M W
def rowP (es : List (Value × Value)) : Body := .pl (prw (prs es))
end
section
/- Cells: the document's Put, Drop, Undo, Bytes. -/
set_option linter.unusedVariables false
set_option linter.unusedSimpArgs false
set_option maxRecDepth 100000
open Go.Proofs
variable {H : Hp} {n : Nat} {x : Nat → Option SO} {i D M W : Nat} {d d' : Fd} {C C' : Ce}
structure RcAt (H : Hp) (C : Ce) (i D M W : Nat) : Prop where
  cell : H.get i = some ⟨true, rcellB C D M W⟩
  now : ∃ u, H.get M = some ⟨u, rowP C.now⟩
  was : ∃ u, H.get W = some ⟨u, rowP C.was⟩
  nz : (0 < i ∧ 0 < D ∧ 0 < M ∧ 0 < W) ∧ i < 1000 ∧ i ≠ M ∧ i ≠ W
def rcH (C : Ce) (x : Nat → Option SO) : Hp := ⟨[(1, some ⟨true, rcellB C 2 3 4⟩), (3, some ⟨false, rowP C.now⟩), (4, some ⟨false, rowP C.was⟩)], x⟩
def rcP (i D M W : Nat) : List (Nat × Nat) := [(1, i), (2, D), (3, M), (4, W)]
theorem RcAt.sub (h : RcAt H C i D M W) : hpSub (rcP i D M W) H (rcH C x).l := by
  obtain ⟨h1, ⟨u2, h2⟩, ⟨u3, h3⟩, ⟨p1, p2, p3, p4⟩, p5, p6⟩ := h
  exact ⟨sub_wr rfl p1 p5 h1 rfl, sub_ro rfl p3 h2 rfl, sub_ro rfl p4 h3 rfl, trivial⟩
theorem RcAt.ap (h : RcAt H C i D M W) : apartB (rcP i D M W) (rcH C x).l (rcH C x).l = true := by
  obtain ⟨h1, h2, h3, h4, p5, p6, p7⟩ := h
  simp [rcH, rcP, apartB, apart1, rn, lk, p6, p7, Ne.symm p6, Ne.symm p7]
end
section
/- Cells: the document's Commit. -/
set_option linter.unusedVariables false
set_option linter.unusedSimpArgs false
set_option maxRecDepth 100000
open Go.Proofs
variable {H : Hp} {n : Nat} {x : Nat → Option SO} {i D M W a b c : Nat} {d d' : Fd} {C C' : Ce}
end
section
/- Cells: the document's Commit, walked. -/
set_option linter.unusedVariables false
set_option linter.unusedSimpArgs false
set_option maxRecDepth 100000
open Go.Proofs
variable {H : Hp} {n : Nat} {x : Nat → Option SO} {i D M W a b c : Nat} {d d' : Fd} {C C' : Ce}
def rkH (C : Ce) (d : Fd) (x : Nat → Option SO) : Hp := ⟨[(1, some ⟨true, rcellB C 2 5 6⟩), (2, some ⟨true, refB d 3 4⟩), (3, some ⟨true, strB d.safe⟩), (4, some ⟨true, .pl (qrow d.pend)⟩), (5, some ⟨false, rowP C.now⟩), (6, some ⟨false, rowP C.was⟩)], x⟩
end
end Go.Sx
/- Cells: the document's Commit at any heap; a cell and a list of names with texts. -/
set_option linter.unusedVariables false
set_option linter.unusedSimpArgs false
set_option maxRecDepth 100000
namespace Go.Sx
open Go.Proofs
variable {H : Hp} {n : Nat} {x : Nat → Option SO} {i D M W a b c : Nat} {d d' : Fd} {C C' : Ce}
structure RkAt (H : Hp) (C : Ce) (d : Fd) (i D a b M W : Nat) : Prop where
  cell : RcAt H C i D M W
  dev : RefAt H d D a b true true true
  ne : i ≠ D ∧ i ≠ a ∧ i ≠ b ∧ D ≠ M ∧ D ≠ W ∧ a ≠ M ∧ a ≠ W ∧ b ≠ M ∧ b ≠ W
def rkP (i D a b M W : Nat) : List (Nat × Nat) := [(1, i), (2, D), (3, a), (4, b), (5, M), (6, W)]
theorem RkAt.sub (h : RkAt H C d i D a b M W) : hpSub (rkP i D a b M W) H (rkH C d x).l := by
  obtain ⟨⟨h1, ⟨u2, h2⟩, ⟨u3, h3⟩, ⟨p1, p2, p3, p4⟩, p5, p6⟩, ⟨g1, g2, g3, ⟨r1, r2, r3⟩, ⟨q1, q2, q3⟩, n1, n2, n3⟩, _⟩ := h
  exact ⟨sub_wr rfl p1 p5 h1 rfl, sub_wr rfl r1 q1 g1 rfl, sub_wr rfl r2 q2 g2 rfl, sub_wr rfl r3 q3 g3 rfl, sub_ro rfl p3 h2 rfl, sub_ro rfl p4 h3 rfl, trivial⟩
theorem RkAt.ap (h : RkAt H C d i D a b M W) : apartB (rkP i D a b M W) (rkH C d x).l (rkH C d x).l = true := by
  obtain ⟨⟨h1, h2, h3, h4, p5, p6, p7⟩, ⟨g1, g2, g3, _, _, n1, n2, n3⟩, m1, m2, m3, m4, m5, m6, m7, m8, m9⟩ := h
  simp [rkH, rkP, apartB, apart1, rn, lk, p6, p7, Ne.symm p6, Ne.symm p7, n1, n2, n3, Ne.symm n1, Ne.symm n2, Ne.symm n3, m1, m2, m3, m4, m5, m6, m7, m8, m9, Ne.symm m1, Ne.symm m2, Ne.symm m3, Ne.symm m4, Ne.symm m5, Ne.symm m6, Ne.symm m7, Ne.symm m8, Ne.symm m9]
end Go.Sx

/- Boot: the state. -/
set_option linter.unusedVariables false
set_option linter.unusedSimpArgs false
set_option maxRecDepth 100000
namespace Go.Sx
attribute [local go_sem ↓] bind_mk intsB_mk strsB_mk svB_mk fnVC ob_some vc_skip vc_exit vc_ret vc_seq vc_block kSeq_normal kSeq_exit kSeq_ret kBlock_normal kBlock_exit kBlock_ret vc_reg vc_regD vc_cond condK_true condK_false vc_loop kLoop_exit kLoop_ret kRoll_normal kRoll_exit kRoll_ret vcOps_nil vcOps_cons gd_bool gd_undef put_some put_none vcT_fin vcT_pure vcT_act vcT_acts vcT_stop stab_none stab_some stabM_nil stabM_cons stabO_ld stabO_ldn stabO_slP stabO_b2s fldOf_ai fldOf_agg fldOf_ait fldOf_aggt intsOf_nil intsOf_cons strsOf_nil strsOf_cons c_omap ob_if lk_nil lk_cons ev_t ev_k z_mov z_pick z_bin z_binA z_binB z_binP z_un z_r2s z_conv z_s2b z_b2s z_mkM z_luM z_upM z_lenM lenMk_mp lenMk_nil plsOf_v z_delM asM_so plV_v plV_agg mpOf_mp mpOf_nil mpUp_mp asM_mp luV_ok luV_v z_allocT aggOf_mk z_boxT z_alloc z_bld z_bldI z_rowI z_rowS z_ld z_ldn z_st z_stn asN_ptr asN_fn z_nilck z_fld z_fadr z_idxA z_idxP z_idxS z_idxV z_slS z_slL z_slP z_mk z_lenS z_lenL z_app appC_ints appC_pl appC_sv appC_strs isS_strs loose_ints loose_pl loose_sv z_slM z_callv callvK_fn callvK_f callvK_yl vc_rangeF rfEnd_eq rfGo_none rfGo_ret rfGo_exit yGo_mk yEnd_n yEnd_r yEnd_e yRdy_mk yMid_n putPs_nil putPs_cons leaf_v leaf_ptr leaf_sl leaf_yl leaf_mp z_appS z_appST z_appZ z_cpyS z_mkfn reps_int reps_str z_rowV z_slnil nilK_zero z_cpy z_call asT_tup z_extT z_box boxOf_ai boxOf_agg boxOf_int boxOf_str boxOf_bool boxOf_ptr boxOf_sl sbin_int sbin_str sbinA_mk ae_nil ae_int ae_str sbinB_mk sbinP_nn sbinP_pn sbinP_np i_add i_sub i_mul i_quo i_rem i_and i_or i_xor i_andNot i_shl i_shr i_eql i_neq i_lss i_leq i_gtr i_geq st_add st_eql st_neq st_lss st_leq st_gtr st_geq bo_eql bo_neq pt_eql pt_neq un_neg un_xor un_not asI_mk asB_mk asS_mk asP_mk asSl_mk asBy_mk bnd_none bnd_some get_mk hput_mk hdel_mk kill_eq wrOf_eq rowOf_eq rsvs_0 rsvs_1 rsvs_2 rsvs_3 rsv_t rsv_c1 rsv_cn nt_v nt_ptr nt_sl nt_agg nt_ai get_ints get_strs get_pl get_sv getN_ints getN_sv set_ints set_strs set_sv setN_ints setN_sv part_ints part_strs part_sv cat_ints cat_strs cat_sv over_ints over_strs over_sv ones_ints ones_strs evs_nil evs_cons condK_eqt condK_eqf det_callP V_ns V_nn V_gs V_gn obC_mk fresh_ev freshT_ev freshR_ev setN_plagg setN_intsv setN_svai setN_svagg over_intsv set_pl setN_pl setN_plai getN_pl getN_strs part_pl cat_pl over_pl over_plints z_mm
attribute [local go_sem] initTm ne_eq not_true_eq_false not_false_eq_true true_and and_true List.length_cons List.length_nil Int.toNat_natCast Nat.add_zero Nat.zero_add Nat.mul_one List.getElem?_cons_zero List.drop_zero List.take_length List.take_succ_cons List.take_zero List.take_nil List.drop_succ_cons Option.map_some Nat.le_refl implies_true List.getElem?_cons_succ decide_true decide_false Bool.not_true Bool.not_false beq_self_eq_true Nat.succ_ne_self Nat.one_ne_zero Nat.zero_ne_one vk_mk hk_mk nk_mk tok_eq plsOf_map intsOf_map bodyOf_pl bodyOf_ints bodyOf_strs bodyOf_sv part_aggv part_agg part_ai part_int part_str part_bool part_sl part_ptr part_nil numsOf_map u_int u_str u_bool u_pnil u_sl u_ptr u_oci u_ocs evq_nil evq_cons fillS_nil fillS_cons u_ocb ones_pl cells_sv cells_ints cells_strs cells_pl smms_nil smms_cons smm_min smm_max plsOf_nil List.nil_append List.all_cons List.all_nil Bool.and_self Bool.true_and Bool.and_true zws_len zw_len zi_len List.set_cons_zero List.set_cons_succ List.flatMap_cons List.flatMap_nil List.append_nil
attribute [local go_sem_proc] Nat.reduceEqDiff Nat.reduceAdd Nat.reduceMul Nat.reduceLT Nat.reduceLeDiff Nat.reduceSub Int.reduceToNat Int.reduceLE Int.reduceLT reduceCtorEq Int.reduceEq Int.reduceGT Int.reduceGE Int.reduceNeg
attribute [local go_sem_proc ↓] reduceIte
section
open Go.Proofs
variable {H : Hp} {n : Nat} {x : Nat → Option SO} {i D M W a b c : Nat} {d d' : Fd} {C C' : Ce}
structure Sq where
  cf : Int
  tr : Int
  lf : Int
  fl : Int
deriving DecidableEq
def nthQ : Sq := ⟨-1, -1, 0, 0⟩
def sqL (q : Sq) : List SV := [.v (.int .i64 q.cf), .v (.int .i64 q.tr), .v (.int .i64 q.lf), .v (.int .i64 q.fl)]
def sqV (q : Sq) : SV := .agg (sqL q)
def boot4 : ByteArray := ⟨#[98, 111, 111, 116]⟩
def bt (s : ByteArray) (k : Nat) : Int := (bts s).getD k 0
def SndT (s : ByteArray) : Prop := s.size = 4 ∧ bt s 0 ≤ 2 ∧ bt s 1 ≤ 2 ∧ (bt s 0 = 0 ∨ bt s 0 ≠ bt s 1) ∧ bt s 2 ≤ 8 ∧ (bt s 1 ≠ 0 ∨ bt s 2 = 0)
theorem bt_le {s : ByteArray} {k : Nat} : 0 ≤ (bts s).getD k 0 ∧ (bts s).getD k 0 ≤ 255 := by
  rw [List.getD_eq_getElem?_getD]
  cases h : (bts s)[k]? with
  | none => decide
  | some y => exact bts_bytes y (List.mem_of_getElem? h)
instance {s : ByteArray} : Decidable (SndT s) := by unfold SndT; exact inferInstance
def stQ (es : List (Value × Value)) : Sq := if es.length = 1 ∧ SndT (tOf es boot4) then ⟨bt (tOf es boot4) 0 - 1, bt (tOf es boot4) 1 - 1, bt (tOf es boot4) 2, bt (tOf es boot4) 3⟩ else nthQ
def NoX (x : Nat → Option SO) : Prop := x 4001003 = some ⟨false, .sv (sqL nthQ)⟩
theorem soundS {s : ByteArray} : SpecAt Tryz.prog nBsound [.v (.string s)] H n (.v (.bool (decide (SndT s)))) H n := okT.pure tBsound (by
  unfold mBsound
  simp -implicitDefEqProofs only [↓fnVC, initTm]
  simp -implicitDefEqProofs only [go_sem]
  by_cases c1 : s.size = 4
  · have a0 : decide ((s.size : Int) = 4) = true := decide_eq_true (by omega)
    have a1 : (0 : Int) < s.size := by omega
    have a2 : (1 : Int) < s.size := by omega
    have a3 : (2 : Int) < s.size := by omega
    simp -implicitDefEqProofs only [go_sem, a0, a1, a2, a3]
    rw [show decide (SndT s) = (decide ((bts s).getD 0 0 ≤ 2) && (decide ((bts s).getD 1 0 ≤ 2) && ((decide ((bts s).getD 0 0 = 0) || !decide ((bts s).getD 0 0 = (bts s).getD 1 0)) && (decide ((bts s).getD 2 0 ≤ 8) && (!decide ((bts s).getD 1 0 = 0) || decide ((bts s).getD 2 0 = 0)))))) by
      rw [Bool.eq_iff_iff]; simp [SndT, bt, c1]]
    cases e0 : decide ((bts s).getD 0 0 ≤ 2)
    · simp -implicitDefEqProofs only [go_sem, a0, a1, a2, a3, e0]
      rfl
    cases e1 : decide ((bts s).getD 1 0 ≤ 2)
    · simp -implicitDefEqProofs only [go_sem, a0, a1, a2, a3, e0, e1]
      rfl
    cases e2 : decide ((bts s).getD 0 0 = 0) <;> cases e3 : decide ((bts s).getD 0 0 = (bts s).getD 1 0) <;> cases e4 : decide ((bts s).getD 2 0 ≤ 8) <;> cases e5 : decide ((bts s).getD 1 0 = 0) <;> cases e6 : decide ((bts s).getD 2 0 = 0) <;>
      (simp -implicitDefEqProofs only [go_sem, a0, a1, a2, a3, e0, e1, e2, e3, e4, e5, e6]) <;> try rfl
  · have a0 : decide ((s.size : Int) = 4) = false := decide_eq_false (by omega)
    rw [show decide (SndT s) = false from decide_eq_false fun h => c1 h.1]
    simp -implicitDefEqProofs only [go_sem, a0])
structure Bt where
  C : Ce
  d : Fd
  bs : Nat
  r : Nat
  on : Bool
  slot : Int
  ver : Int
def btB (T : Bt) (q s : Nat) : Body := .sv [.ptr q 0, .ptr s 0, .v (.int .i64 T.r), .v (.bool T.on), .v (.int .i64 T.slot), .v (.int .i64 T.ver)]
def btL (T : Bt) (w : Bool) : List (Nat × Option SO) := [(1, some ⟨w, btB T 2 3⟩), (2, some ⟨w, cellB T.C 4 8 9⟩), (3, some ⟨w, Sl.slB 4 T.bs T.r⟩), (4, some ⟨w, devB T.d 5 6 7⟩), (5, some ⟨w, secB T.d.seen⟩), (6, some ⟨w, secB T.d.safe⟩), (7, some ⟨w, .pl (prow T.d.pend)⟩), (8, some ⟨w, .mp (.map T.C.now)⟩), (9, some ⟨w, .mp (.map T.C.was)⟩)]
structure CellRd (H : Hp) (C : Ce) (d : Fd) (i D a b c M W : Nat) : Prop where
  gi : ∃ u, H.get i = some ⟨u, cellB C D M W⟩
  gD : ∃ u, H.get D = some ⟨u, devB d a b c⟩
  ga : ∃ u, H.get a = some ⟨u, secB d.seen⟩
  gb : ∃ u, H.get b = some ⟨u, secB d.safe⟩
  gc : ∃ u, H.get c = some ⟨u, .pl (prow d.pend)⟩
  gM : ∃ u, H.get M = some ⟨u, .mp (.map C.now)⟩
  gW : ∃ u, H.get W = some ⟨u, .mp (.map C.was)⟩
  ne : ([i, D, a, b, c, M, W].all fun k => decide (0 < k)) = true
theorem CellRd.sub_r (h : CellRd H C d i D a b c M W) : hpSub (ceP i D a b c M W) H (ceHr C d x).l := by
  obtain ⟨⟨_, g1⟩, ⟨_, g2⟩, ⟨_, g3⟩, ⟨_, g4⟩, ⟨_, g5⟩, ⟨_, g6⟩, ⟨_, g7⟩, hp⟩ := h
  simp at hp
  exact ⟨sub_ro rfl hp.1 g1 rfl, sub_ro rfl hp.2.1 g2 rfl, sub_ro rfl hp.2.2.1 g3 rfl, sub_ro rfl hp.2.2.2.1 g4 rfl, sub_ro rfl hp.2.2.2.2.1 g5 rfl, sub_ro rfl hp.2.2.2.2.2.1 g6 rfl, sub_ro rfl hp.2.2.2.2.2.2 g7 rfl, trivial⟩
theorem getR {name : ByteArray} (h : CellRd H C d i D a b c M W) (hE : Es C.now) : SpecAt Tryz.prog nCGet [.ptr i 0, .v (.string name)] H n (getV C.now name) H n := by
  have := lift_ro (n := n) (okT.spec tCGet (getW (x := H.x) (d := d) (C := C) (name := name) hE)) (ceP i D a b c M W) rfl rfl rfl (by omega) rfl rfl (h.sub_r (x := H.x)) (by simp [ceHr, apartB, apart1, rn, lk]) (by simp [ceHr, wrNZ, rn, lk]) rfl
  exact this
theorem cNamesR (h : CellRd H C d i D a b c M W) (hE : Es C.now) (hn : n + 1 ≤ 1000) : SpecAt Tryz.prog nCNames [.ptr i 0] H n (.sl n 0 C.now.length 1) ⟨(n, some ⟨true, .strs (srtK C.now)⟩) :: H.l, H.x⟩ (n + 1) := by
  have := lift (n := n) (okT.spec tCNames (cNamesW (x := H.x) (d := d) (C := C) hE)) (ceP i D a b c M W) rfl rfl rfl (by omega) rfl rfl (h.sub_r (x := H.x)) (by simp [ceHr, apartB, apart1, rn, lk]) (by simp [ceHr, wrNZ, rn, lk]) (by omega)
  exact this
theorem stateW {T : Bt} (hE : Es T.C.now) (hx : NoX x) : fnVC CT mBState [.ptr 1 0] ⟨btL T false, x⟩ 10 fun v H' n' => Sub 10 ⟨[(0, sqV (stQ T.C.now))], ⟨[], x⟩, 10⟩ ⟨[(0, v)], H', n'⟩ := by
  have hx' : x 4001003 = some ⟨false, .sv (sqL nthQ)⟩ := hx
  unfold mBState btL btB
  simp -implicitDefEqProofs only [↓fnVC, initTm]
  simp -implicitDefEqProofs only [go_sem]
  refine at_call tCGet (getR (i := 2) (D := 4) (a := 5) (b := 6) (c := 7) (M := 8) (W := 9) (C := T.C) (d := T.d) ⟨⟨_, by rfl⟩, ⟨_, by rfl⟩, ⟨_, by rfl⟩, ⟨_, by rfl⟩, ⟨_, by rfl⟩, ⟨_, by rfl⟩, ⟨_, by rfl⟩, rfl⟩ hE) ?_
  unfold getV
  simp -implicitDefEqProofs only [go_sem]
  refine at_call tCNames (cNamesR (i := 2) (D := 4) (a := 5) (b := 6) (c := 7) (M := 8) (W := 9) (C := T.C) (d := T.d) ⟨⟨_, by rfl⟩, ⟨_, by rfl⟩, ⟨_, by rfl⟩, ⟨_, by rfl⟩, ⟨_, by rfl⟩, ⟨_, by rfl⟩, ⟨_, by rfl⟩, rfl⟩ hE (by decide)) ?_
  simp -implicitDefEqProofs only [go_sem]
  have nth : stQ T.C.now = nthQ → Sub 10 ⟨[(0, sqV (stQ T.C.now))], ⟨[], x⟩, 10⟩ ⟨[(0, sqV nthQ)], ⟨[], x⟩, 10⟩ := fun h => by rw [h]; exact sub_val rfl (by decide) (by decide) rfl
  by_cases c1 : T.C.now.length = 1
  · have a1 : decide ((T.C.now.length : Int) = 1) = true := decide_eq_true (by omega)
    simp -implicitDefEqProofs only [go_sem, a1]
    refine at_call tBsound soundS ?_
    by_cases c2 : SndT (tOf T.C.now boot4)
    · have a2 : decide (SndT (tOf T.C.now ⟨#[98, 111, 111, 116]⟩)) = true := decide_eq_true c2
      have b1 : (0 : Int) < (tOf T.C.now ⟨#[98, 111, 111, 116]⟩).size := by have := c2.1; unfold boot4 at this; omega
      have b2 : (1 : Int) < (tOf T.C.now ⟨#[98, 111, 111, 116]⟩).size := by have := c2.1; unfold boot4 at this; omega
      have b3 : (2 : Int) < (tOf T.C.now ⟨#[98, 111, 111, 116]⟩).size := by have := c2.1; unfold boot4 at this; omega
      have b4 : (3 : Int) < (tOf T.C.now ⟨#[98, 111, 111, 116]⟩).size := by have := c2.1; unfold boot4 at this; omega
      have hb : ∀ k, 0 ≤ (bts (tOf T.C.now ⟨#[98, 111, 111, 116]⟩)).getD k 0 ∧ (bts (tOf T.C.now ⟨#[98, 111, 111, 116]⟩)).getD k 0 ≤ 255 := fun k => bt_le
      have w : ∀ k, IntKind.i64.wrap ((bts (tOf T.C.now ⟨#[98, 111, 111, 116]⟩)).getD k 0) = (bts (tOf T.C.now ⟨#[98, 111, 111, 116]⟩)).getD k 0 := fun k => wrap_i64 (by have := hb k; omega) (by have := hb k; omega)
      have w' : ∀ k, IntKind.i64.wrap ((bts (tOf T.C.now ⟨#[98, 111, 111, 116]⟩)).getD k 0 - 1) = (bts (tOf T.C.now ⟨#[98, 111, 111, 116]⟩)).getD k 0 - 1 := fun k => wrap_i64 (by have := hb k; omega) (by have := hb k; omega)
      simp -implicitDefEqProofs only [go_sem, a1, a2, b1, b2, b3, b4, w, w', splice_zero, splice_succ, List.drop_succ_cons, List.drop_zero, List.drop_nil, List.cons_append, List.nil_append, List.take_succ_cons, List.take_zero, List.length_cons, List.length_nil]
      rw [show stQ T.C.now = ⟨bt (tOf T.C.now boot4) 0 - 1, bt (tOf T.C.now boot4) 1 - 1, bt (tOf T.C.now boot4) 2, bt (tOf T.C.now boot4) 3⟩ from if_pos ⟨c1, c2⟩]
      unfold sqV sqL bt boot4
      refine sub_mk [] rfl rfl rfl ?_
      simp only [tmSub, hpSub, objSub, eqTm, eqHp, rn, lk, SV.ren, SV.renC, SV.renB, SV.renA, ren_ints, ren_strs, ren_pl, ren_svs, SV.v.injEq, Value.int.injEq, Body.ints.injEq, SV.ptr.injEq, SV.sl.injEq, Value.string.injEq, Value.bool.injEq, List.map_cons, List.map_nil, forall_const, Nat.reduceLT, Nat.lt_add_one, imp_self, true_and, and_true, and_self, ob_some, get_mk, lk_cons, ↓reduceIte, Nat.reduceEqDiff, ne_eq, not_true_eq_false, not_false_eq_true, Nat.one_ne_zero, Nat.zero_ne_one, Nat.succ_ne_self, Nat.reduceAdd, Bool.false_eq_true, false_implies, implies_true, reduceCtorEq]
    · have a2 : decide (SndT (tOf T.C.now ⟨#[98, 111, 111, 116]⟩)) = false := decide_eq_false c2
      simp -implicitDefEqProofs only [go_sem, a1, a2, hx', sqL, nthQ, splice_zero, splice_succ, List.drop_succ_cons, List.drop_zero, List.drop_nil, List.cons_append, List.nil_append, List.take_succ_cons, List.take_zero, List.length_cons, List.length_nil]
      rw [show stQ T.C.now = nthQ from if_neg fun h => c2 h.2]
      unfold sqV sqL nthQ
      refine sub_mk [] rfl rfl rfl ?_
      simp only [tmSub, hpSub, objSub, eqTm, eqHp, rn, lk, SV.ren, SV.renC, SV.renB, SV.renA, ren_ints, ren_strs, ren_pl, ren_svs, SV.v.injEq, Value.int.injEq, Body.ints.injEq, SV.ptr.injEq, SV.sl.injEq, Value.string.injEq, Value.bool.injEq, List.map_cons, List.map_nil, forall_const, Nat.reduceLT, Nat.lt_add_one, imp_self, true_and, and_true, and_self, ob_some, get_mk, lk_cons, ↓reduceIte, Nat.reduceEqDiff, ne_eq, not_true_eq_false, not_false_eq_true, Nat.one_ne_zero, Nat.zero_ne_one, Nat.succ_ne_self, Nat.reduceAdd, Bool.false_eq_true, false_implies, implies_true, reduceCtorEq]
  · have a1 : decide ((T.C.now.length : Int) = 1) = false := decide_eq_false (by omega)
    simp -implicitDefEqProofs only [go_sem, a1, hx', sqL, nthQ, splice_zero, splice_succ, List.drop_succ_cons, List.drop_zero, List.drop_nil, List.cons_append, List.nil_append, List.take_succ_cons, List.take_zero, List.length_cons, List.length_nil]
    rw [show stQ T.C.now = nthQ from if_neg fun h => c1 h.1]
    unfold sqV sqL nthQ
    refine sub_mk [] rfl rfl rfl ?_
    simp only [tmSub, hpSub, objSub, eqTm, eqHp, rn, lk, SV.ren, SV.renC, SV.renB, SV.renA, ren_ints, ren_strs, ren_pl, ren_svs, SV.v.injEq, Value.int.injEq, Body.ints.injEq, SV.ptr.injEq, SV.sl.injEq, Value.string.injEq, Value.bool.injEq, List.map_cons, List.map_nil, forall_const, Nat.reduceLT, Nat.lt_add_one, imp_self, true_and, and_true, and_self, ob_some, get_mk, lk_cons, ↓reduceIte, Nat.reduceEqDiff, ne_eq, not_true_eq_false, not_false_eq_true, Nat.one_ne_zero, Nat.zero_ne_one, Nat.succ_ne_self, Nat.reduceAdd, Bool.false_eq_true, false_implies, implies_true, reduceCtorEq]
end
section
/- Boot: keep. -/
set_option linter.unusedVariables false
set_option linter.unusedSimpArgs false
set_option maxRecDepth 100000
open Go.Proofs
variable {H : Hp} {n : Nat} {x : Nat → Option SO} {i D M W a b c : Nat} {d d' : Fd} {C C' : Ce}
def ceU (C : Ce) (d : Fd) : List (Nat × Option SO) := [(1, some ⟨true, cellB { C with now := C.was } 2 8 7⟩), (2, some ⟨true, devB d 3 4 5⟩), (3, some ⟨true, secB d.seen⟩), (4, some ⟨true, secB d.safe⟩), (5, some ⟨true, .pl (prow d.pend)⟩), (6, none), (7, some ⟨true, .mp (.map C.was)⟩), (8, some ⟨true, .mp (.map C.was)⟩)]
theorem undoW : fnVC CT mCUndo [.ptr 1 0] (ceH C d x) 8 fun v H' n' => Sub 8 ⟨[(0, .tup [])], ⟨ceU C d, x⟩, 9⟩ ⟨[(0, v)], H', n'⟩ := by
  unfold mCUndo
  rw [show ceH C d x = ⟨ceL C d, x⟩ from rfl]
  unfold ceL devL cellB
  simp -implicitDefEqProofs only [↓fnVC, initTm]
  simp -implicitDefEqProofs only [go_sem]
  refine at_ext (enters_mk Tryz.func49 rfl rfl) (cloneT (i := 7) (by rfl) rfl (by decide)) ?_
  simp -implicitDefEqProofs only [go_sem]
  refine ⟨rfl, ?_⟩
  unfold ceU cellB
  refine sub_mk [] rfl rfl rfl ?_
  simp only [tmSub, hpSub, objSub, eqTm, eqHp, rn, lk, SV.ren, SV.renC, SV.renB, SV.renA, ren_ints, ren_strs, ren_pl, ren_svs, SV.v.injEq, Value.int.injEq, Body.ints.injEq, SV.ptr.injEq, SV.sl.injEq, Value.string.injEq, Value.bool.injEq, List.map_cons, List.map_nil, forall_const, Nat.reduceLT, Nat.lt_add_one, imp_self, true_and, and_true, and_self, ob_some, get_mk, lk_cons, ↓reduceIte, Nat.reduceEqDiff, ne_eq, not_true_eq_false, not_false_eq_true, Nat.one_ne_zero, Nat.zero_ne_one, Nat.succ_ne_self, Nat.reduceAdd, Bool.false_eq_true, false_implies, implies_true, reduceCtorEq]
  repeat' (first | rfl | apply And.intro)
theorem undoS (h : CellAt H C d i D a b c M W) (hn : n + 1 ≤ 1000) :
    SpecAt Tryz.prog nCUndo [.ptr i 0] H n (.tup []) ⟨(i, some ⟨true, cellB { C with now := C.was } D n W⟩) :: (D, some ⟨true, devB d a b c⟩) :: (a, some ⟨true, secB d.seen⟩) :: (b, some ⟨true, secB d.safe⟩) :: (c, some ⟨true, .pl (prow d.pend)⟩) :: (M, none) :: (W, some ⟨true, .mp (.map C.was)⟩) :: (n, some ⟨true, .mp (.map C.was)⟩) :: H.l, H.x⟩ (n + 1) := by
  have := lift (n := n) (okT.spec tCUndo (undoW (x := H.x) (d := d) (C := C))) (ceP i D a b c M W) rfl rfl rfl (by omega) rfl rfl h.sub h.ap h.nz (by omega)
  exact this
theorem dropS' {name : ByteArray} {es' : List (Value × Value)} (h : CellAt H C d i D a b c M W) (hE : Es C.now) (he : dlS C.now name = es') :
    SpecAt Tryz.prog nCDrop [.ptr i 0, .v (.string name)] H n (.v (.bool (luS C.now name).isSome))
      ⟨(i, some ⟨true, cellB C D M W⟩) :: (D, some ⟨true, devB d a b c⟩) :: (a, some ⟨true, secB d.seen⟩) :: (b, some ⟨true, secB d.safe⟩) :: (c, some ⟨true, .pl (prow d.pend)⟩) :: (M, some ⟨true, .mp (.map es')⟩) :: (W, some ⟨true, .mp (.map C.was)⟩) :: H.l, H.x⟩ n := by
  subst he; exact dropS h hE
def dlN (es : List (Value × Value)) (l : List ByteArray) : List (Value × Value) := l.foldl dlS es
theorem dlN_es {es : List (Value × Value)} (h : Es es) : ∀ l, Es (dlN es l) := by
  intro l
  induction l generalizing es with
  | nil => exact h
  | cons s l ih => exact ih (h.drop s)
theorem dlS_gone {es : List (Value × Value)} {s : ByteArray} (hk : keysS es = true) (hn : (es.map keyB).Nodup) : s.data.toList ∉ (dlS es s).map keyB := by
  induction es with
  | nil => exact List.not_mem_nil
  | cons e es ih =>
    rw [List.map_cons, List.nodup_cons] at hn
    unfold dlS
    have hk' : keysS es = true := by unfold keysS at hk ⊢; rw [List.all_cons, Bool.and_eq_true] at hk; exact hk.2
    split
    · rename_i hc
      have e1 : keyB e = s.data.toList := by
        unfold keyIs at hc
        split at hc
        · rename_i u hu
          unfold keyB
          rw [hu, of_decide_eq_true hc]
        · cases hc
      rw [← e1]; exact hn.1
    · rename_i hc
      rw [List.map_cons, List.mem_cons]
      rintro (h | h)
      · obtain ⟨u, hu⟩ : ∃ u, e.1 = .string u := by
          unfold keysS at hk
          rw [List.all_cons, Bool.and_eq_true] at hk
          have := hk.1
          split at this
          · exact ⟨_, by assumption⟩
          · cases this
        have : u = s := by
          unfold keyB at h
          rw [hu] at h
          exact ByteArray.ext (Array.toList_inj.mp h.symm)
        rw [hu, this] at hc
        exact hc (decide_eq_true rfl)
      · exact ih hk' hn.2 h
theorem dlN_mem {es : List (Value × Value)} : ∀ {l : List ByteArray}, Es es → ∀ e ∈ dlN es l, e ∈ es ∧ ∀ s ∈ l, keyB e ≠ s.data.toList := by
  intro l
  induction l generalizing es with
  | nil => exact fun _ e he => ⟨he, fun _ h => absurd h List.not_mem_nil⟩
  | cons s l ih =>
    intro h e he
    obtain ⟨h1, h2⟩ := ih (h.drop s) e he
    refine ⟨dl_mem.subset h1, fun t ht => ?_⟩
    rcases List.mem_cons.mp ht with rfl | ht
    · intro hc
      obtain ⟨e', g1, g2⟩ : ∃ e' ∈ dlS es t, keyB e' = t.data.toList := ⟨e, h1, hc⟩
      exact dlS_gone h.keys h.nd (List.mem_map.mpr ⟨e', g1, g2⟩)
    · exact h2 t ht
theorem dlN_all {es : List (Value × Value)} (h : Es es) : dlN es (srtK es) = [] := by
  rw [List.eq_nil_iff_forall_not_mem]
  intro e he
  obtain ⟨h1, h2⟩ := dlN_mem h e he
  exact h2 ⟨(keyB e).toArray⟩ (srtK_mem' (List.mem_map_of_mem h1)) rfl
theorem dlN_succ {es : List (Value × Value)} {j : Nat} (hj : j < es.length) : dlS (dlN es ((srtK es).take j)) ((srtK es).getD j .empty) = dlN es ((srtK es).take (j + 1)) := by
  have hl : j < (srtK es).length := by rw [srtK_len]; exact hj
  unfold dlN
  rw [List.take_add_one, List.foldl_append, List.getD_eq_getElem?_getD, List.getElem?_eq_getElem hl]
  rfl
def st4L (q : Sq) : List Int := [IntKind.u8.wrap (IntKind.i64.wrap (q.cf + 1)), IntKind.u8.wrap (IntKind.i64.wrap (q.tr + 1)), IntKind.u8.wrap q.lf, IntKind.u8.wrap q.fl]
def st4 (q : Sq) : ByteArray := tx (st4L q)
def kpC (q : Sq) (C : Ce) : Ce := { C with now := kv boot4 (st4 q) }
def kpF (p : Int × Ce × Fd) (T : Bt) : Int × Bt := (p.1, { T with C := if p.1 = 0 then p.2.1 else { p.2.1 with now := p.2.1.was }, d := p.2.2 })
def kpR (q : Sq) (T : Bt) : Int × Bt := kpF (coR (kpC q T.C) T.d) T
def btN (T : Bt) : List (Nat × Option SO) := [(1, some ⟨true, btB T 2 3⟩), (2, some ⟨true, cellB T.C 4 13 14⟩), (3, some ⟨true, Sl.slB 4 T.bs T.r⟩), (4, some ⟨true, devB T.d 10 11 12⟩), (5, none), (6, none), (7, none), (8, none), (9, none), (10, some ⟨true, secB T.d.seen⟩), (11, some ⟨true, secB T.d.safe⟩), (12, some ⟨true, .pl (prow T.d.pend)⟩), (13, some ⟨true, .mp (.map T.C.now)⟩), (14, some ⟨true, .mp (.map T.C.was)⟩)]
theorem st4_size {q : Sq} : (st4 q).size = 4 := by unfold st4 st4L; rw [tx_sz]; rfl
theorem kv4_es {t : ByteArray} (h : t.size ≤ 65535) : Es (kv boot4 t) := kv_es (by decide) (by decide) h
set_option maxHeartbeats 2000000 in
theorem keepW {T : Bt} {q : Sq} {m t : Nat} (hC : T.C.ok) (hP : Pl T.d m t) (ht : t + 1000 < 1000000) (hx : NoX x) : fnVC CT mBkeep [.ptr 1 0, sqV q] ⟨btL T true, x⟩ 10 fun v H' n' => Sub 10 ⟨[(0, .v (.int .i64 (kpR q T).1))], ⟨btN (kpR q T).2, x⟩, 15⟩ ⟨[(0, v)], H', n'⟩ := by
  have hE := hC.now
  have hlen := hE.len
  unfold mBkeep btL btB sqV sqL
  simp -implicitDefEqProofs only [↓fnVC, initTm]
  simp -implicitDefEqProofs only [go_sem]
  refine at_call tCNames (cNamesR (i := 2) (D := 4) (a := 5) (b := 6) (c := 7) (M := 8) (W := 9) (C := T.C) (d := T.d) ⟨⟨_, by rfl⟩, ⟨_, by rfl⟩, ⟨_, by rfl⟩, ⟨_, by rfl⟩, ⟨_, by rfl⟩, ⟨_, by rfl⟩, ⟨_, by rfl⟩, rfl⟩ hE (by decide)) ?_
  simp -implicitDefEqProofs only [go_sem]
  refine loop_fam (fun (j : Nat) => j ≤ T.C.now.length) (fun j => ⟨[(0, .ptr 1 0), (3, .ptr 10 0), (12, .sl 11 0 T.C.now.length 1), (13, .v (.int .i64 T.C.now.length)), (14, .v (.int .i64 j))], ⟨[(1, some ⟨true, .sv [.ptr 2 0, .ptr 3 0, .v (.int .i64 T.r), .v (.bool T.on), .v (.int .i64 T.slot), .v (.int .i64 T.ver)]⟩), (2, some ⟨true, cellB T.C 4 8 9⟩), (3, some ⟨true, Sl.slB 4 T.bs T.r⟩), (4, some ⟨true, devB T.d 5 6 7⟩), (5, some ⟨true, secB T.d.seen⟩), (6, some ⟨true, secB T.d.safe⟩), (7, some ⟨true, .pl (prow T.d.pend)⟩), (8, some ⟨true, .mp (.map (dlN T.C.now ((srtK T.C.now).take j)))⟩), (9, some ⟨true, .mp (.map T.C.was)⟩), (10, some ⟨true, .sv [.v (.int .i64 q.cf), .v (.int .i64 q.tr), .v (.int .i64 q.lf), .v (.int .i64 q.fl)]⟩), (11, some ⟨true, .strs (srtK T.C.now)⟩)], x⟩, 12⟩) (fun j => T.C.now.length - j) 0 (Nat.zero_le _) ?_ ?_
  · refine sub_mk [] rfl rfl rfl ?_
    simp only [tmSub, hpSub, objSub, eqTm, eqHp, rn, lk, SV.ren, SV.renC, SV.renB, SV.renA, ren_ints, ren_strs, ren_pl, ren_svs, SV.v.injEq, Value.int.injEq, Body.ints.injEq, SV.ptr.injEq, SV.sl.injEq, Value.string.injEq, Value.bool.injEq, List.map_cons, List.map_nil, forall_const, Nat.reduceLT, Nat.lt_add_one, imp_self, true_and, and_true, and_self, ob_some, get_mk, lk_cons, ↓reduceIte, Nat.reduceEqDiff, ne_eq, not_true_eq_false, not_false_eq_true, Nat.one_ne_zero, Nat.zero_ne_one, Nat.succ_ne_self, Nat.reduceAdd, Bool.false_eq_true, false_implies, implies_true, reduceCtorEq]
    repeat' (first | rfl | apply And.intro)
  · intro j hj
    simp -implicitDefEqProofs only [go_sem]
    refine condK_bb (fun e => ?_) (fun e => ?_)
    · have c1 : j < T.C.now.length := by have := of_decide_eq_true e; omega
      have w2 : IntKind.i64.wrap ((j : Int) + 1) = ((j + 1 : Nat) : Int) := by rw [wrap_i64 (by omega) (by omega)]; omega
      have hsl : j < (srtK T.C.now).length := by rw [srtK_len]; exact c1
      simp -implicitDefEqProofs only [go_sem, e]
      refine ⟨⟨by omega, by omega⟩, hsl, ?_⟩
      refine at_call tCDrop (dropS' (i := 2) (D := 4) (a := 5) (b := 6) (c := 7) (M := 8) (W := 9) (C := { T.C with now := dlN T.C.now ((srtK T.C.now).take j) }) (d := T.d) ⟨by rfl, by rfl, by rfl, by rfl, by rfl, by rfl, by rfl, by decide, by rfl, by rfl⟩ (dlN_es hE _) (dlN_succ c1)) ?_
      simp -implicitDefEqProofs only [go_sem, w2]
      refine kLoop_mk (j + 1) (by omega) (by omega) ?_
      refine sub_mk [] rfl rfl rfl ?_
      simp only [tmSub, hpSub, objSub, eqTm, eqHp, rn, lk, SV.ren, SV.renC, SV.renB, SV.renA, ren_ints, ren_strs, ren_pl, ren_svs, SV.v.injEq, Value.int.injEq, Body.ints.injEq, SV.ptr.injEq, SV.sl.injEq, Value.string.injEq, Value.bool.injEq, List.map_cons, List.map_nil, forall_const, Nat.reduceLT, Nat.lt_add_one, imp_self, true_and, and_true, and_self, ob_some, get_mk, lk_cons, ↓reduceIte, Nat.reduceEqDiff, ne_eq, not_true_eq_false, not_false_eq_true, Nat.one_ne_zero, Nat.zero_ne_one, Nat.succ_ne_self, Nat.reduceAdd, Bool.false_eq_true, false_implies, implies_true, reduceCtorEq]
      repeat' (first | rfl | apply And.intro)
    · have c1 : j = T.C.now.length := by have := of_decide_eq_false e; omega
      subst c1
      have g0 : dlN T.C.now ((srtK T.C.now).take T.C.now.length) = [] := by
        rw [← srtK_len (es := T.C.now), List.take_length]; exact dlN_all hE
      rw [g0]
      simp -implicitDefEqProofs only [go_sem, e]
      have pe : putE [] boot4 (st4 q) = 0 := putE_ok (by decide) (by decide) (by rw [st4_size]; decide) (by decide)
      refine at_call tCPut (putS' (i := 2) (D := 4) (a := 5) (b := 6) (c := 7) (M := 8) (W := 9) (C := { T.C with now := [] }) (d := T.d) (name := boot4) (text := st4 q) (es' := kv boot4 (st4 q)) ⟨by rfl, by rfl, by rfl, by rfl, by rfl, by rfl, by rfl, by decide, by rfl, by rfl⟩ Es.nil pe (by unfold putEs; rw [if_pos pe]; rfl)) ?_
      simp -implicitDefEqProofs only [go_sem]
      have hC' : (kpC q T.C).ok := ⟨kv4_es (by rw [st4_size]; decide), hC.was, hC.half, hC.base, hC.last, hC.num⟩
      obtain ⟨⟨e, C', d'⟩, hq⟩ : ∃ p, coR (kpC q T.C) T.d = p := ⟨_, rfl⟩
      refine at_call tCCommit (commitS (i := 2) (D := 4) (a := 5) (b := 6) (c := 7) (M := 8) (W := 9) (C := kpC q T.C) (d := T.d) ⟨by rfl, by rfl, by rfl, by rfl, by rfl, by rfl, by rfl, by decide, by rfl, by rfl⟩ hC' hP ht (by decide) hq) ?_
      simp -implicitDefEqProofs only [go_sem]
      have hk : kpR q T = kpF (e, C', d') T := by unfold kpR; rw [hq]
      rw [hk]
      by_cases c3 : e = 0
      · have b1 : decide (e = 0) = true := decide_eq_true c3
        simp -implicitDefEqProofs only [go_sem, b1]
        unfold kpF
        simp only [if_pos c3]
        unfold btN btB
        trace_state
        refine sub_mk [(10, 13), (11, 14), (12, 15), (13, 8), (14, 16)] rfl rfl rfl ?_
        simp only [tmSub, hpSub, objSub, eqTm, eqHp, rn, lk, SV.ren, SV.renC, SV.renB, SV.renA, ren_ints, ren_strs, ren_pl, ren_svs, SV.v.injEq, Value.int.injEq, Body.ints.injEq, SV.ptr.injEq, SV.sl.injEq, Value.string.injEq, Value.bool.injEq, List.map_cons, List.map_nil, forall_const, Nat.reduceLT, Nat.lt_add_one, imp_self, true_and, and_true, and_self, ob_some, get_mk, lk_cons, ↓reduceIte, Nat.reduceEqDiff, ne_eq, not_true_eq_false, not_false_eq_true, Nat.one_ne_zero, Nat.zero_ne_one, Nat.succ_ne_self, Nat.reduceAdd, Bool.false_eq_true, false_implies, implies_true, reduceCtorEq]
        repeat' (first | rfl | apply And.intro)
      · have b1 : decide (e = 0) = false := decide_eq_false c3
        simp -implicitDefEqProofs only [go_sem, b1]
        refine at_call tCUndo (undoS (i := 2) (D := 4) (a := 13) (b := 14) (c := 15) (M := 8) (W := 16) (C := C') (d := d') ⟨by rfl, by rfl, by rfl, by rfl, by rfl, by rfl, by rfl, by decide, by rfl, by rfl⟩ (by decide)) ?_
        simp -implicitDefEqProofs only [go_sem]
        unfold kpF
        simp only [if_neg c3]
        unfold btN btB
        refine sub_mk [(10, 13), (11, 14), (12, 15), (13, 17), (14, 16)] rfl rfl rfl ?_
        simp only [tmSub, hpSub, objSub, eqTm, eqHp, rn, lk, SV.ren, SV.renC, SV.renB, SV.renA, ren_ints, ren_strs, ren_pl, ren_svs, SV.v.injEq, Value.int.injEq, Body.ints.injEq, SV.ptr.injEq, SV.sl.injEq, Value.string.injEq, Value.bool.injEq, List.map_cons, List.map_nil, forall_const, Nat.reduceLT, Nat.lt_add_one, imp_self, true_and, and_true, and_self, ob_some, get_mk, lk_cons, ↓reduceIte, Nat.reduceEqDiff, ne_eq, not_true_eq_false, not_false_eq_true, Nat.one_ne_zero, Nat.zero_ne_one, Nat.succ_ne_self, Nat.reduceAdd, Bool.false_eq_true, false_implies, implies_true, reduceCtorEq]
        repeat' (first | rfl | apply And.intro)
end
end Go.Sx