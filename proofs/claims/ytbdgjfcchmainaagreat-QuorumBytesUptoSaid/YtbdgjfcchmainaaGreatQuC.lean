/- SHA-256 on numbers, as the kernel reckons it fast, and that it is the model's. -/
import Derived.Test.YtbdgjfcchmainaaGreatLA
import Derived.Test.YtbdgjfcchmainaaGreatQuB

set_option linter.unusedVariables false
set_option linter.unusedSimpArgs false
set_option maxRecDepth 100000
namespace Go.Sx
noncomputable def fc (x : Nat) (f : Nat → Nat) : Nat := Nat.rec (f 0) (fun n _ => f (Nat.succ n)) x
theorem fc_eq (x : Nat) (f : Nat → Nat) : fc x f = f x := by cases x <;> rfl
def am (x : Nat) : Nat := Nat.land x 4294967295
def dbl (x : Nat) : Nat := Nat.mul x 4294967297
def S3 (y i j k : Nat) : Nat := Nat.land (Nat.xor (Nat.xor (Nat.shiftRight y i) (Nat.shiftRight y j)) (Nat.shiftRight y k)) 4294967295
def s2 (x y i j k : Nat) : Nat := Nat.land (Nat.xor (Nat.xor (Nat.shiftRight y i) (Nat.shiftRight y j)) (Nat.shiftRight x k)) 4294967295
def fch (e f g : Nat) : Nat := Nat.xor g (Nat.land e (Nat.xor f g))
def fmj (a b c : Nat) : Nat := Nat.xor (Nat.land a b) (Nat.land c (Nat.xor a b))
def kkN : List Nat := [1116352408, 1899447441, 3049323471, 3921009573, 961987163, 1508970993, 2453635748, 2870763221, 3624381080, 310598401, 607225278, 1426881987, 1925078388, 2162078206, 2614888103, 3248222580, 3835390401, 4022224774, 264347078, 604807628, 770255983, 1249150122, 1555081692, 1996064986, 2554220882, 2821834349, 2952996808, 3210313671, 3336571891, 3584528711, 113926993, 338241895, 666307205, 773529912, 1294757372, 1396182291, 1695183700, 1986661051, 2177026350, 2456956037, 2730485921, 2820302411, 3259730800, 3345764771, 3516065817, 3600352804, 4094571909, 275423344, 430227734, 506948616, 659060556, 883997877, 958139571, 1322822218, 1537002063, 1747873779, 1955562222, 2024104815, 2227730452, 2361852424, 2428436474, 2756734187, 3204031479, 3329325298]
theorem kk_eq : kk = List.map (fun (n : Nat) => (n : Int)) kkN := by decide
noncomputable def RN : List Nat → Nat → Nat → Nat → Nat → Nat → Nat → Nat → Nat → Nat → Nat → Nat → Nat → Nat → Nat → Nat → Nat → Nat → Nat → Nat → Nat → Nat → Nat → Nat → Nat → (Nat → Nat → Nat → Nat → Nat → Nat → Nat → Nat → Nat) → Nat :=
  List.rec (motive := fun _ => Nat → Nat → Nat → Nat → Nat → Nat → Nat → Nat → Nat → Nat → Nat → Nat → Nat → Nat → Nat → Nat → Nat → Nat → Nat → Nat → Nat → Nat → Nat → Nat → (Nat → Nat → Nat → Nat → Nat → Nat → Nat → Nat → Nat) → Nat) (fun a b c d e f g h w0 w1 w2 w3 w4 w5 w6 w7 w8 w9 w10 w11 w12 w13 w14 w15 K => K a b c d e f g h)
    (fun k _ ih a b c d e f g h w0 w1 w2 w3 w4 w5 w6 w7 w8 w9 w10 w11 w12 w13 w14 w15 K => fc (Nat.add (Nat.add (Nat.add (Nat.add h (S3 (dbl e) 6 11 25)) (fch e f g)) k) w0) fun p => fc (am (Nat.add p (Nat.add (S3 (dbl a) 2 13 22) (fmj a b c)))) fun a' => fc (am (Nat.add d p)) fun e' => fc (am (Nat.add (Nat.add (Nat.add w0 (s2 w1 (dbl w1) 7 18 3)) w9) (s2 w14 (dbl w14) 17 19 10))) fun w16 => ih a' a b c e' e f g w1 w2 w3 w4 w5 w6 w7 w8 w9 w10 w11 w12 w13 w14 w15 w16 K)
theorem RN_step {k : Nat} {ks : List Nat} {a b c d e f g h w0 w1 w2 w3 w4 w5 w6 w7 w8 w9 w10 w11 w12 w13 w14 w15 : Nat} {K : Nat → Nat → Nat → Nat → Nat → Nat → Nat → Nat → Nat} : RN (k :: ks) a b c d e f g h w0 w1 w2 w3 w4 w5 w6 w7 w8 w9 w10 w11 w12 w13 w14 w15 K = fc (Nat.add (Nat.add (Nat.add (Nat.add h (S3 (dbl e) 6 11 25)) (fch e f g)) k) w0) fun p => fc (am (Nat.add p (Nat.add (S3 (dbl a) 2 13 22) (fmj a b c)))) fun a' => fc (am (Nat.add d p)) fun e' => fc (am (Nat.add (Nat.add (Nat.add w0 (s2 w1 (dbl w1) 7 18 3)) w9) (s2 w14 (dbl w14) 17 19 10))) fun w16 => RN ks a' a b c e' e f g w1 w2 w3 w4 w5 w6 w7 w8 w9 w10 w11 w12 w13 w14 w15 w16 K := rfl
theorem RN_nil {a b c d e f g h w0 w1 w2 w3 w4 w5 w6 w7 w8 w9 w10 w11 w12 w13 w14 w15 : Nat} {K : Nat → Nat → Nat → Nat → Nat → Nat → Nat → Nat → Nat} : RN [] a b c d e f g h w0 w1 w2 w3 w4 w5 w6 w7 w8 w9 w10 w11 w12 w13 w14 w15 K = K a b c d e f g h := rfl
theorem RN_cons {k : Nat} {ks : List Nat} {a b c d e f g h w0 w1 w2 w3 w4 w5 w6 w7 w8 w9 w10 w11 w12 w13 w14 w15 : Nat} {K : Nat → Nat → Nat → Nat → Nat → Nat → Nat → Nat → Nat} : RN (k :: ks) a b c d e f g h w0 w1 w2 w3 w4 w5 w6 w7 w8 w9 w10 w11 w12 w13 w14 w15 K = RN ks (am ((Nat.add (Nat.add (Nat.add (Nat.add h (S3 (dbl e) 6 11 25)) (fch e f g)) k) w0) + (Nat.add (S3 (dbl a) 2 13 22) (fmj a b c)))) a b c (am (d + (Nat.add (Nat.add (Nat.add (Nat.add h (S3 (dbl e) 6 11 25)) (fch e f g)) k) w0))) e f g w1 w2 w3 w4 w5 w6 w7 w8 w9 w10 w11 w12 w13 w14 w15 (am (Nat.add (Nat.add (Nat.add w0 (s2 w1 (dbl w1) 7 18 3)) w9) (s2 w14 (dbl w14) 17 19 10))) K := by
  rw [RN_step, fc_eq, fc_eq, fc_eq, fc_eq]; rfl
def shN (M i : Nat) : Nat := Nat.land (Nat.shiftRight M i) 4294967295
noncomputable def cmp (M o a b c d e f g h : Nat) (K : Nat → Nat → Nat → Nat → Nat → Nat → Nat → Nat → Nat) : Nat := RN kkN a b c d e f g h (shN M (Nat.add o 480)) (shN M (Nat.add o 448)) (shN M (Nat.add o 416)) (shN M (Nat.add o 384)) (shN M (Nat.add o 352)) (shN M (Nat.add o 320)) (shN M (Nat.add o 288)) (shN M (Nat.add o 256)) (shN M (Nat.add o 224)) (shN M (Nat.add o 192)) (shN M (Nat.add o 160)) (shN M (Nat.add o 128)) (shN M (Nat.add o 96)) (shN M (Nat.add o 64)) (shN M (Nat.add o 32)) (shN M (Nat.add o 0))
  fun a' b' c' d' e' f' g' h' => fc (am (Nat.add a a')) fun a'' => fc (am (Nat.add b b')) fun b'' => fc (am (Nat.add c c')) fun c'' => fc (am (Nat.add d d')) fun d'' => fc (am (Nat.add e e')) fun e'' => fc (am (Nat.add f f')) fun f'' => fc (am (Nat.add g g')) fun g'' => fc (am (Nat.add h h')) fun h'' => K a'' b'' c'' d'' e'' f'' g'' h''
noncomputable def hB (M : Nat) : Nat → Nat → Nat → Nat → Nat → Nat → Nat → Nat → Nat → Nat :=
  Nat.rec (motive := fun _ => Nat → Nat → Nat → Nat → Nat → Nat → Nat → Nat → Nat) (fun a b c d e f g h => (((((((a * 4294967296 + b) * 4294967296 + c) * 4294967296 + d) * 4294967296 + e) * 4294967296 + f) * 4294967296 + g) * 4294967296 + h)) (fun k ih a b c d e f g h => cmp M (Nat.mul 512 k) a b c d e f g h ih)
noncomputable def hN (nb M : Nat) : Nat := fc M fun M => hB M nb 1779033703 3144134277 1013904242 2773480762 1359893119 2600822924 528734635 1541459225
theorem am_eq (x : Nat) : am x = x % 4294967296 := Nat.and_two_pow_sub_one_eq_mod x 32
theorem am_lt (x : Nat) : am x < 4294967296 := by rw [am_eq]; exact Nat.mod_lt _ (by decide)
theorem bv_nat {a : Nat} (h : a < 4294967296) : (BitVec.ofInt IntKind.u32.bits (a : Int)).toNat = a := by
  show (BitVec.ofInt 32 (a : Int)).toNat = a
  rw [BitVec.toNat_ofInt]; show ((a : Int) % 4294967296).toNat = a; omega
theorem wr_nat {a : Nat} (h : a < 4294967296) : IntKind.u32.wrap (a : Int) = a := wrap_u32r (by omega) (by omega)
theorem iand_N {a b : Nat} (ha : a < 4294967296) (hb : b < 4294967296) : iand .u32 a b = ((a &&& b : Nat) : Int) := by
  unfold iand; rw [BitVec.toNat_and, bv_nat ha, bv_nat hb]; exact wr_nat (Nat.lt_of_le_of_lt Nat.and_le_left ha)
theorem ixor_N {a b : Nat} (ha : a < 4294967296) (hb : b < 4294967296) : ixor .u32 a b = ((a ^^^ b : Nat) : Int) := by
  unfold ixor; rw [BitVec.toNat_xor, bv_nat ha, bv_nat hb]; exact wr_nat (Nat.xor_lt_two_pow (n := 32) ha hb)
theorem ior_N {a b : Nat} (ha : a < 4294967296) (hb : b < 4294967296) : ior .u32 a b = ((a ||| b : Nat) : Int) := by
  unfold ior; rw [BitVec.toNat_or, bv_nat ha, bv_nat hb]; exact wr_nat (Nat.or_lt_two_pow (n := 32) ha hb)
theorem ishr_N {a k : Nat} (hk : k ≤ 32) : ishr .u32 a k = ((a >>> k : Nat) : Int) := by
  unfold ishr
  rw [show min (k : Int).toNat IntKind.u32.bits = k from Nat.min_eq_left hk, Int.fdiv_eq_ediv_of_nonneg _ (by exact_mod_cast Nat.zero_le _), Nat.shiftRight_eq_div_pow]
  show (a : Int) / (2 : Int) ^ k = ((a / 2 ^ k : Nat) : Int)
  rw [Int.natCast_ediv, Int.natCast_pow]; rfl
theorem ishl_N {a k : Nat} (hk : k ≤ 32) : ishl .u32 a k = (((a <<< k) % 4294967296 : Nat) : Int) := by
  unfold ishl
  rw [show min (k : Int).toNat IntKind.u32.bits = k from Nat.min_eq_left hk, wrap_u32, Nat.shiftLeft_eq]
  rw [Int.natCast_emod, Int.natCast_mul, Int.natCast_pow]; rfl
theorem rr_N {a k : Nat} (ha : a < 4294967296) (h0 : 0 < k) (hk : k < 32) : rr a k = ((((dbl a) >>> k) % 4294967296 : Nat) : Int) := by
  unfold rr
  rw [ishr_N (by omega), show (32 : Int) - k = ((32 - k : Nat) : Int) by omega, ishl_N (by omega), ior_N (Nat.lt_of_le_of_lt (Nat.shiftRight_le _ _) ha) (Nat.mod_lt _ (by decide))]
  have e1 : dbl a = a <<< 32 ||| a := by
    rw [← Nat.shiftLeft_add_eq_or_of_lt (i := 32) ha, Nat.shiftLeft_eq]; show a * 4294967297 = _; omega
  have e2 : (a <<< 32) >>> k = a <<< (32 - k) := by
    rw [Nat.shiftLeft_eq, Nat.shiftRight_eq_div_pow, Nat.shiftLeft_eq, show (2 : Nat) ^ 32 = 2 ^ (32 - k) * 2 ^ k by rw [← Nat.pow_add]; congr 1; omega, ← Nat.mul_assoc, Nat.mul_div_cancel _ (Nat.two_pow_pos k)]
  have e3 : (a >>> k) % 4294967296 = a >>> k := Nat.mod_eq_of_lt (Nat.lt_of_le_of_lt (Nat.shiftRight_le _ _) ha)
  have e4 : ∀ x y : Nat, (x ||| y) % 4294967296 = x % 4294967296 ||| y % 4294967296 := fun x y => Nat.or_mod_two_pow (n := 32)
  rw [e1, Nat.shiftRight_or_distrib, e2, e4, e3, Nat.or_comm]
theorem xm (x y : Nat) : (x ^^^ y) % 4294967296 = x % 4294967296 ^^^ y % 4294967296 := Nat.xor_mod_two_pow (n := 32)
theorem ml (x : Nat) : x % 4294967296 < 4294967296 := Nat.mod_lt _ (by decide)
theorem S3_N {a i j k : Nat} (ha : a < 4294967296) (hi : 0 < i ∧ i < 32) (hj : 0 < j ∧ j < 32) (hk : 0 < k ∧ k < 32) : ixor .u32 (ixor .u32 (rr a i) (rr a j)) (rr a k) = (S3 (dbl a) i j k : Nat) := by
  rw [rr_N ha hi.1 hi.2, rr_N ha hj.1 hj.2, rr_N ha hk.1 hk.2, ixor_N (ml _) (ml _), ixor_N (Nat.xor_lt_two_pow (n := 32) (ml _) (ml _)) (ml _)]
  show _ = ((am ((dbl a >>> i ^^^ dbl a >>> j) ^^^ dbl a >>> k) : Nat) : Int)
  rw [am_eq, xm, xm]
theorem s2_N {a i j k : Nat} (ha : a < 4294967296) (hi : 0 < i ∧ i < 32) (hj : 0 < j ∧ j < 32) (hk : k ≤ 32) : ixor .u32 (ixor .u32 (rr a i) (rr a j)) (ishr .u32 a k) = (s2 a (dbl a) i j k : Nat) := by
  have h3 : a >>> k < 4294967296 := Nat.lt_of_le_of_lt (Nat.shiftRight_le _ _) ha
  rw [rr_N ha hi.1 hi.2, rr_N ha hj.1 hj.2, ishr_N hk, ixor_N (ml _) (ml _), ixor_N (Nat.xor_lt_two_pow (n := 32) (ml _) (ml _)) h3]
  show _ = ((am ((dbl a >>> i ^^^ dbl a >>> j) ^^^ a >>> k) : Nat) : Int)
  rw [am_eq, xm, xm, Nat.mod_eq_of_lt h3]
theorem fch_lt {e f g : Nat} (he : e < 4294967296) (hg : g < 4294967296) : fch e f g < 4294967296 := Nat.xor_lt_two_pow (n := 32) hg (Nat.lt_of_le_of_lt Nat.and_le_left he)
theorem fch_N {e f g : Nat} (he : e < 4294967296) (hf : f < 4294967296) (hg : g < 4294967296) : chf e f g = (fch e f g : Nat) := by
  unfold chf not32
  have e1 : ixor .u32 (if IntKind.u32.signed = true then -1 else IntKind.u32.max) (e : Int) = ((4294967295 ^^^ e : Nat) : Int) := ixor_N (a := 4294967295) (by decide) he
  rw [e1, iand_N he hf, iand_N (Nat.xor_lt_two_pow (n := 32) (by decide) he) hg, ixor_N (Nat.lt_of_le_of_lt Nat.and_le_left he) (Nat.lt_of_le_of_lt Nat.and_le_right hg)]
  congr 1
  show _ = g ^^^ (e &&& (f ^^^ g))
  refine Nat.eq_of_testBit_eq fun i => ?_
  simp only [Nat.testBit_xor, Nat.testBit_and]
  rw [show (4294967295 : Nat) = 2 ^ 32 - 1 from rfl, Nat.testBit_two_pow_sub_one]
  by_cases h : i < 32
  · simp only [h, decide_true]
    cases e.testBit i <;> cases f.testBit i <;> cases g.testBit i <;> rfl
  · have hg' : g.testBit i = false := Nat.testBit_lt_two_pow (Nat.lt_of_lt_of_le hg (Nat.pow_le_pow_right (n := 2) (by decide) (show 32 ≤ i by omega)))
    have hf' : f.testBit i = false := Nat.testBit_lt_two_pow (Nat.lt_of_lt_of_le hf (Nat.pow_le_pow_right (n := 2) (by decide) (show 32 ≤ i by omega)))
    simp [h, hg', hf']
theorem fmj_lt {a b c : Nat} (ha : a < 4294967296) (hc : c < 4294967296) : fmj a b c < 4294967296 := Nat.xor_lt_two_pow (n := 32) (Nat.lt_of_le_of_lt Nat.and_le_left ha) (Nat.lt_of_le_of_lt Nat.and_le_left hc)
theorem fmj_N {a b c : Nat} (ha : a < 4294967296) (hb : b < 4294967296) (hc : c < 4294967296) : mjf a b c = (fmj a b c : Nat) := by
  unfold mjf
  have hl : ∀ x y : Nat, x < 4294967296 → x &&& y < 4294967296 := fun x y h => Nat.lt_of_le_of_lt Nat.and_le_left h
  rw [iand_N ha hb, iand_N ha hc, iand_N hb hc, ixor_N (hl _ _ ha) (hl _ _ ha), ixor_N (Nat.xor_lt_two_pow (n := 32) (hl _ _ ha) (hl _ _ ha)) (hl _ _ hb)]
  congr 1
  show _ = (a &&& b) ^^^ (c &&& (a ^^^ b))
  refine Nat.eq_of_testBit_eq fun i => ?_
  simp only [Nat.testBit_xor, Nat.testBit_and]
  cases a.testBit i <;> cases b.testBit i <;> cases c.testBit i <;> rfl
theorem S3_lt (y i j k : Nat) : S3 y i j k < 4294967296 := am_lt _
theorem s2_lt (x y i j k : Nat) : s2 x y i j k < 4294967296 := am_lt _
theorem add32_N (a b : Nat) : add32 a b = (am (a + b) : Nat) := by unfold add32; rw [wrap_u32, am_eq]; omega
theorem am_add (a b : Nat) : am (am a + b) = am (a + b) := by simp only [am_eq]; omega
theorem am_add' (a b : Nat) : am (a + am b) = am (a + b) := by simp only [am_eq]; omega
theorem am3 (a b c d : Nat) : am (am (am (a + b) + c) + d) = am (a + b + c + d) := by simp only [am_eq]; omega
theorem am4 (a b c d e : Nat) : am (am (am (am (a + b) + c) + d) + e) = am (a + b + c + d + e) := by simp only [am_eq]; omega
theorem stp_N {a b c d e f g h k w : Nat} (ha : a < 4294967296) (hb : b < 4294967296) (hc : c < 4294967296) (he : e < 4294967296) (hf : f < 4294967296) (hg : g < 4294967296) :
    stp [(a : Int), b, c, d, e, f, g, h] k w = [((am ((Nat.add (Nat.add (Nat.add (Nat.add h (S3 (dbl e) 6 11 25)) (fch e f g)) k) w) + (Nat.add (S3 (dbl a) 2 13 22) (fmj a b c))) : Nat) : Int), a, b, c, ((am (d + (Nat.add (Nat.add (Nat.add (Nat.add h (S3 (dbl e) 6 11 25)) (fch e f g)) k) w)) : Nat) : Int), e, f, g] := by
  have e1 : pf [(a : Int), b, c, d, e, f, g, h] k w = (am ((((h + S3 (dbl e) 6 11 25) + fch e f g) + k) + w) : Nat) := by
    show add32 (add32 (add32 (add32 (h : Int) (sG1 e)) (chf e f g)) k) w = _
    rw [show sG1 (e : Int) = _ from S3_N he (by decide) (by decide) (by decide), fch_N he hf hg, add32_N, add32_N, add32_N, add32_N, am4]
  have e2 : qf [(a : Int), b, c, d, e, f, g, h] = (am (S3 (dbl a) 2 13 22 + fmj a b c) : Nat) := by
    show add32 (sG0 a) (mjf a b c) = _
    rw [show sG0 (a : Int) = _ from S3_N ha (by decide) (by decide) (by decide), fmj_N ha hb hc, add32_N]
  unfold stp
  rw [e1, e2, add32_N, am_add, am_add']
  show [_, (a : Int), b, c, add32 d _, (e : Int), f, g] = _
  rw [add32_N, am_add']
  rfl
theorem kk_get {t : Nat} (h : t < 64) : kk.getD t 0 = ((kkN.getD t 0 : Nat) : Int) := by
  rw [kk_eq, List.getD_eq_getElem?_getD, List.getD_eq_getElem?_getD, List.getElem?_map]
  have : t < kkN.length := h
  rw [List.getElem?_eq_getElem this]; rfl
theorem kk_drop {t : Nat} (h : t < 64) : kkN.drop t = kkN.getD t 0 :: kkN.drop (t + 1) := by
  have : t < kkN.length := h
  rw [List.drop_eq_getElem_cons this, List.getD_eq_getElem?_getD, List.getElem?_eq_getElem this]; rfl
theorem RN_eq {w : Nat → Nat} {V : List Int} {vs : List Int} (hV : ∀ t, t < 64 → V.getD t 0 = (w t : Nat)) (hw : ∀ t, w (t + 16) = am (Nat.add (Nat.add (Nat.add (w t) (s2 (w (t + 1)) (dbl (w (t + 1))) 7 18 3)) (w (t + 9))) (s2 (w (t + 14)) (dbl (w (t + 14))) 17 19 10))) :
    ∀ m t, t + m = 64 → ∀ a b c d e f g h : Nat, Rd vs kk V t = [(a : Int), b, c, d, e, f, g, h] → (a < 4294967296 ∧ b < 4294967296 ∧ c < 4294967296 ∧ d < 4294967296 ∧ e < 4294967296 ∧ f < 4294967296 ∧ g < 4294967296 ∧ h < 4294967296) →
      ∃ a' b' c' d' e' f' g' h' : Nat, Rd vs kk V 64 = [(a' : Int), b', c', d', e', f', g', h'] ∧ ∀ K : Nat → Nat → Nat → Nat → Nat → Nat → Nat → Nat → Nat, RN (kkN.drop t) a b c d e f g h (w t) (w (t + 1)) (w (t + 2)) (w (t + 3)) (w (t + 4)) (w (t + 5)) (w (t + 6)) (w (t + 7)) (w (t + 8)) (w (t + 9)) (w (t + 10)) (w (t + 11)) (w (t + 12)) (w (t + 13)) (w (t + 14)) (w (t + 15)) K = K a' b' c' d' e' f' g' h'
  | 0, t, ht, a, b, c, d, e, f, g, h, hr, _ => by
    obtain rfl : t = 64 := by omega
    exact ⟨a, b, c, d, e, f, g, h, hr, fun K => rfl⟩
  | m + 1, t, ht, a, b, c, d, e, f, g, h, hr, ⟨ha, hb, hc, hd, he, hf, hg, hh⟩ => by
    have h1 : Rd vs kk V (t + 1) = stp (Rd vs kk V t) (kk.getD t 0) (V.getD t 0) := rfl
    rw [hr, kk_get (by omega), hV t (by omega), stp_N ha hb hc he hf hg] at h1
    obtain ⟨a', b', c', d', e', f', g', h', h2, h3⟩ := RN_eq hV hw m (t + 1) (by omega) _ _ _ _ _ _ _ _ h1 ⟨am_lt _, ha, hb, hc, am_lt _, he, hf, hg⟩
    refine ⟨a', b', c', d', e', f', g', h', h2, fun K => ?_⟩
    rw [kk_drop (by omega), RN_cons, ← hw t]
    have h4 := h3 K
    simp only [Nat.add_assoc, Nat.reduceAdd] at h4 ⊢
    exact h4
def nuL (l : List Int) : Nat := l.foldl (fun a b => a * 256 + b.toNat) 0
theorem nuL_go (l : List Int) : ∀ a : Nat, l.foldl (fun a b => a * 256 + b.toNat) a = a * 256 ^ l.length + nuL l := by
  induction l with
  | nil => intro a; simp [nuL]
  | cons x r ih =>
    intro a
    simp only [nuL, List.foldl_cons, List.length_cons]
    rw [ih, ih (0 * 256 + x.toNat), Nat.pow_succ]
    simp only [Nat.zero_mul, Nat.zero_add, Nat.add_mul, Nat.mul_assoc, Nat.mul_comm (256 ^ r.length) 256]
    omega
theorem nuL_app (l r : List Int) : nuL (l ++ r) = nuL l * 256 ^ r.length + nuL r := by
  unfold nuL; rw [List.foldl_append, nuL_go]; rfl
theorem nuL_cons (x : Int) (r : List Int) : nuL (x :: r) = x.toNat * 256 ^ r.length + nuL r := by
  have := nuL_app [x] r
  simpa [nuL] using this
theorem nuL_nil : nuL [] = 0 := rfl
abbrev byt (l : List Int) : Prop := ∀ y ∈ l, 0 ≤ y ∧ y ≤ 255
theorem nuL_lt {l : List Int} (h : byt l) : nuL l < 256 ^ l.length := by
  induction l with
  | nil => simp [nuL]
  | cons x r ih =>
    have h1 := ih fun y hy => h y (List.mem_cons_of_mem _ hy)
    have h2 := h x (List.mem_cons_self ..)
    rw [nuL_cons, List.length_cons, Nat.pow_succ]
    have : x.toNat * 256 ^ r.length ≤ 255 * 256 ^ r.length := Nat.mul_le_mul_right _ (by omega)
    omega
theorem nuL_zero (k : Nat) : nuL (List.replicate k (0 : Int)) = 0 := by
  induction k with
  | zero => rfl
  | succ k ih => rw [List.replicate_succ, nuL_cons, ih]; simp
theorem or_sh {a b k : Nat} (h : b < 2 ^ k) : (a * 2 ^ k) ||| b = a * 2 ^ k + b := by
  rw [← Nat.shiftLeft_eq, Nat.shiftLeft_add_eq_or_of_lt h]
theorem word4 {p q r s : Nat} (hp : p < 256) (hq : q < 256) (hr : r < 256) (hs : s < 256) (ys : List Int) (o : Nat) (h0 : ys.getD o 0 = p) (h1 : ys.getD (o + 1) 0 = q) (h2 : ys.getD (o + 2) 0 = r) (h3 : ys.getD (o + 3) 0 = s) :
    word ys o = ((((p * 256 + q) * 256 + r) * 256 + s : Nat) : Int) := by
  unfold word
  rw [h0, h1, h2, h3, wr_nat (by omega), wr_nat (by omega), wr_nat (by omega), wr_nat (by omega), show (24 : Int) = ((24 : Nat) : Int) from rfl, show (16 : Int) = ((16 : Nat) : Int) from rfl, show (8 : Int) = ((8 : Nat) : Int) from rfl, ishl_N (by decide), ishl_N (by decide), ishl_N (by decide)]
  have e1 : p <<< 24 % 4294967296 = p * 2 ^ 24 := by rw [Nat.shiftLeft_eq]; omega
  have e2 : q <<< 16 % 4294967296 = q * 2 ^ 16 := by rw [Nat.shiftLeft_eq]; omega
  have e3 : r <<< 8 % 4294967296 = r * 2 ^ 8 := by rw [Nat.shiftLeft_eq]; omega
  rw [e1, e2, e3, ior_N (by omega) (by omega), or_sh (by omega), ior_N (by omega) (by omega), show p * 2 ^ 24 + q * 2 ^ 16 = (p * 256 + q) * 2 ^ 16 by omega, or_sh (by omega), ior_N (by omega) (by omega), show (p * 256 + q) * 2 ^ 16 + r * 2 ^ 8 = ((p * 256 + q) * 256 + r) * 2 ^ 8 by omega, or_sh (by omega)]
theorem word_N {ys : List Int} {o z : Nat} (hb : byt ys) (ho : o + 4 + z = ys.length) : word ys o = ((shN (nuL ys) (8 * z) : Nat) : Int) := by
  have hg : ∀ i, i < 4 → ∃ p : Nat, p < 256 ∧ ys.getD (o + i) 0 = p := fun i hi => by
    have hl : o + i < ys.length := by omega
    have := hb _ (List.getElem_mem hl)
    rw [List.getD_eq_getElem?_getD, List.getElem?_eq_getElem hl]
    exact ⟨(ys[o + i]).toNat, by omega, by simp; omega⟩
  obtain ⟨p, hp, h0⟩ := hg 0 (by decide)
  obtain ⟨q, hq, h1⟩ := hg 1 (by decide)
  obtain ⟨r, hr, h2⟩ := hg 2 (by decide)
  obtain ⟨s, hs, h3⟩ := hg 3 (by decide)
  rw [word4 hp hq hr hs ys o h0 h1 h2 h3]
  have hsp : ys = ys.take o ++ ([(p : Int), q, r, s] ++ ys.drop (o + 4)) := by
    refine List.ext_getElem? fun i => ?_
    have hget : ∀ j, j < 4 → ys[o + j]? = some (([(p : Int), q, r, s]).getD j 0) := fun j hj => by
      have hl : o + j < ys.length := by omega
      have hd : ys.getD (o + j) 0 = ys[o + j] := by rw [List.getD_eq_getElem?_getD, List.getElem?_eq_getElem hl]; rfl
      rw [List.getElem?_eq_getElem hl, ← hd]
      match j, hj with
      | 0, _ => exact congrArg some h0
      | 1, _ => exact congrArg some h1
      | 2, _ => exact congrArg some h2
      | 3, _ => exact congrArg some h3
    by_cases hi : i < o
    · rw [List.getElem?_append_left (by rw [List.length_take]; omega), List.getElem?_take_of_lt hi]
    · rw [List.getElem?_append_right (by rw [List.length_take]; omega), List.length_take, show i - min o ys.length = i - o by omega]
      by_cases h4 : i - o < 4
      · rw [List.getElem?_append_left h4, show ys[i]? = ys[o + (i - o)]? by congr 1; omega, hget _ h4]
        match i - o, h4 with
        | 0, _ => rfl
        | 1, _ => rfl
        | 2, _ => rfl
        | 3, _ => rfl
      · rw [List.getElem?_append_right (by show 4 ≤ i - o; omega), List.getElem?_drop]
        congr 1; show _ = o + 4 + (i - o - 4); omega
  have hz : (ys.drop (o + 4)).length = z := by rw [List.length_drop]; omega
  have hn : nuL ys = (nuL (ys.take o) * 256 ^ 4 + nuL [(p : Int), q, r, s]) * 256 ^ z + nuL (ys.drop (o + 4)) := by
    have e : nuL ys = nuL (ys.take o ++ ([(p : Int), q, r, s] ++ ys.drop (o + 4))) := congrArg nuL hsp
    rw [e, nuL_app, nuL_app, List.length_append, hz, show ([(p : Int), q, r, s] : List Int).length = 4 from rfl, Nat.pow_add]
    simp only [Nat.add_mul, Nat.mul_assoc]
    omega
  have hlt : nuL (ys.drop (o + 4)) < 256 ^ z := by rw [← hz]; exact nuL_lt fun y hy => hb y (List.mem_of_mem_drop hy)
  congr 1
  have hd : ∀ A : Nat, (A * 256 ^ z + nuL (ys.drop (o + 4))) / 256 ^ z = A := fun A => by
    rw [Nat.add_comm, Nat.add_mul_div_right _ _ (Nat.pow_pos (by decide)), Nat.div_eq_of_lt hlt, Nat.zero_add]
  show _ = am (nuL ys >>> (8 * z))
  rw [am_eq, hn, Nat.shiftRight_eq_div_pow, Nat.pow_mul, show (2 : Nat) ^ 8 = 256 from rfl, hd]
  simp only [nuL, List.foldl_cons, List.foldl_nil, Int.toNat_natCast]
  omega
def wN (ys : List Int) (o t : Nat) : Nat := ((Ws ys o (t + 1)).getD t 0).toNat
theorem Ws_get (ys : List Int) (o : Nat) : ∀ T t, t < T → (Ws ys o T).getD t 0 = if t < 16 then word ys (o + 4 * t) else nxt (Ws ys o t) t
  | T + 1, t, h => by
    simp only [Ws]
    by_cases e : t = T
    · subst e
      rw [List.getD_eq_getElem?_getD, List.getElem?_append_right (by rw [Ws_len]; exact Nat.le_refl _), Ws_len, Nat.sub_self]; rfl
    · rw [List.getD_eq_getElem?_getD, List.getElem?_append_left (by rw [Ws_len]; omega), ← List.getD_eq_getElem?_getD, Ws_get ys o T t (by omega)]
theorem add32_nn (a b : Int) : 0 ≤ add32 a b ∧ add32 a b < 4294967296 := by unfold add32; rw [wrap_u32]; omega
theorem wN_eq {ys : List Int} {o t T : Nat} (h : t < T) : (Ws ys o T).getD t 0 = (wN ys o t : Nat) ∧ wN ys o t < 4294967296 := by
  have h1 := Ws_get ys o T t h
  have h2 := Ws_get ys o (t + 1) t (Nat.lt_succ_self t)
  unfold wN
  rw [h2, h1]
  split
  · have : 0 ≤ word ys (o + 4 * t) ∧ word ys (o + 4 * t) < 4294967296 := by
      unfold word ior; rw [wrap_u32]; omega
    omega
  · have := add32_nn (add32 (add32 ((Ws ys o t).getD (t - 16) 0) (sg0 ((Ws ys o t).getD (t - 15) 0))) ((Ws ys o t).getD (t - 7) 0)) (sg1 ((Ws ys o t).getD (t - 2) 0))
    unfold nxt
    omega
theorem wN_rec {ys : List Int} {o : Nat} (t : Nat) : wN ys o (t + 16) = am (Nat.add (Nat.add (Nat.add (wN ys o t) (s2 (wN ys o (t + 1)) (dbl (wN ys o (t + 1))) 7 18 3)) (wN ys o (t + 9))) (s2 (wN ys o (t + 14)) (dbl (wN ys o (t + 14))) 17 19 10)) := by
  have h2 := Ws_get ys o (t + 17) (t + 16) (by omega)
  rw [if_neg (by omega)] at h2
  have h3 := (wN_eq (ys := ys) (o := o) (show t + 16 < t + 17 by omega)).1
  rw [h2] at h3
  unfold nxt at h3
  rw [show t + 16 - 16 = t by omega, show t + 16 - 15 = t + 1 by omega, show t + 16 - 7 = t + 9 by omega, show t + 16 - 2 = t + 14 by omega, (wN_eq (show t < t + 16 by omega)).1, (wN_eq (show t + 1 < t + 16 by omega)).1, (wN_eq (show t + 9 < t + 16 by omega)).1, (wN_eq (show t + 14 < t + 16 by omega)).1,
    show sg0 _ = _ from s2_N (wN_eq (show t + 1 < t + 16 by omega)).2 (by decide) (by decide) (by decide), show sg1 _ = _ from s2_N (wN_eq (show t + 14 < t + 16 by omega)).2 (by decide) (by decide) (by decide), add32_N, add32_N, add32_N, am3] at h3
  exact (Int.ofNat_inj.1 h3).symm
theorem wN_first {ys : List Int} {o z t : Nat} (hb : byt ys) (ho : o + 64 + z = ys.length) (ht : t < 16) : wN ys o t = shN (nuL ys) (Nat.add (8 * z) (480 - 32 * t)) := by
  have h2 := Ws_get ys o (t + 1) t (by omega)
  rw [if_pos ht, (wN_eq (show t < t + 1 by omega)).1, word_N (z := z + (60 - 4 * t)) hb (by omega)] at h2
  have := Int.ofNat_inj.1 h2
  rw [this]
  congr 1
  show 8 * (z + (60 - 4 * t)) = 8 * z + (480 - 32 * t)
  omega
theorem cmp_eq {ys : List Int} {o z : Nat} (hb : byt ys) (ho : o + 64 + z = ys.length) {a b c d e f g h : Nat} (hl : a < 4294967296 ∧ b < 4294967296 ∧ c < 4294967296 ∧ d < 4294967296 ∧ e < 4294967296 ∧ f < 4294967296 ∧ g < 4294967296 ∧ h < 4294967296) :
    ∃ a' b' c' d' e' f' g' h' : Nat, blk [(a : Int), b, c, d, e, f, g, h] kk ys o = [(a' : Int), b', c', d', e', f', g', h'] ∧ (a' < 4294967296 ∧ b' < 4294967296 ∧ c' < 4294967296 ∧ d' < 4294967296 ∧ e' < 4294967296 ∧ f' < 4294967296 ∧ g' < 4294967296 ∧ h' < 4294967296) ∧ ∀ K : Nat → Nat → Nat → Nat → Nat → Nat → Nat → Nat → Nat, cmp (nuL ys) (8 * z) a b c d e f g h K = K a' b' c' d' e' f' g' h' := by
  have hW : Wa ys o 64 = Ws ys o 64 := by unfold Wa; simp
  have h0 := RN_eq (w := wN ys o) (V := Wa ys o 64) (vs := [(a : Int), b, c, d, e, f, g, h]) (fun t ht => by rw [hW]; exact (wN_eq ht).1) wN_rec 64 0 rfl a b c d e f g h rfl hl
  obtain ⟨a', b', c', d', e', f', g', h', h1, h2⟩ := h0
  refine ⟨_, _, _, _, _, _, _, _, ?_, ⟨am_lt (a + a'), am_lt (b + b'), am_lt (c + c'), am_lt (d + d'), am_lt (e + e'), am_lt (f + f'), am_lt (g + g'), am_lt (h + h')⟩, fun K => ?_⟩
  · unfold blk
    rw [h1]
    show [add32 a a', add32 b b', add32 c c', add32 d d', add32 e e', add32 f f', add32 g g', add32 h h'] = _
    simp only [add32_N]
  · unfold cmp
    have h3 := h2 fun a' b' c' d' e' f' g' h' => fc (am (Nat.add a a')) fun a'' => fc (am (Nat.add b b')) fun b'' => fc (am (Nat.add c c')) fun c'' => fc (am (Nat.add d d')) fun d'' => fc (am (Nat.add e e')) fun e'' => fc (am (Nat.add f f')) fun f'' => fc (am (Nat.add g g')) fun g'' => fc (am (Nat.add h h')) fun h'' => K a'' b'' c'' d'' e'' f'' g'' h''
    simp only [Nat.zero_add, List.drop_zero] at h3
    rw [wN_first (t := 0) hb ho (by decide), wN_first (t := 1) hb ho (by decide), wN_first (t := 2) hb ho (by decide), wN_first (t := 3) hb ho (by decide), wN_first (t := 4) hb ho (by decide), wN_first (t := 5) hb ho (by decide), wN_first (t := 6) hb ho (by decide), wN_first (t := 7) hb ho (by decide), wN_first (t := 8) hb ho (by decide), wN_first (t := 9) hb ho (by decide), wN_first (t := 10) hb ho (by decide), wN_first (t := 11) hb ho (by decide), wN_first (t := 12) hb ho (by decide), wN_first (t := 13) hb ho (by decide), wN_first (t := 14) hb ho (by decide), wN_first (t := 15) hb ho (by decide)] at h3
    refine Eq.trans h3 ?_
    simp only [fc_eq]
    rfl
def pk8 (l : List Int) : Nat := l.foldl (fun a b => a * 4294967296 + b.toNat) 0
theorem hB_eq {B : List Int} (hb : byt B) : ∀ (k j : Nat), 64 * (j + k) = B.length → ∀ a b c d e f g h : Nat, Hs B j = [(a : Int), b, c, d, e, f, g, h] → (a < 4294967296 ∧ b < 4294967296 ∧ c < 4294967296 ∧ d < 4294967296 ∧ e < 4294967296 ∧ f < 4294967296 ∧ g < 4294967296 ∧ h < 4294967296) → hB (nuL B) k a b c d e f g h = pk8 (Hs B (j + k))
  | 0, j, hj, a, b, c, d, e, f, g, h, hh, _ => by
    rw [Nat.add_zero, hh]
    show ((((((((a * 4294967296 + b) * 4294967296 + c) * 4294967296 + d) * 4294967296 + e) * 4294967296 + f) * 4294967296 + g) * 4294967296 + h)) = _
    simp only [pk8, List.foldl_cons, List.foldl_nil, Int.toNat_natCast, Nat.zero_mul, Nat.zero_add]
  | k + 1, j, hj, a, b, c, d, e, f, g, h, hh, hl => by
    obtain ⟨a', b', c', d', e', f', g', h', h1, h2, h3⟩ := cmp_eq (o := 64 * j) (z := 64 * k) hb (by omega) hl
    have h4 : Hs B (j + 1) = blk (Hs B j) kk B (64 * j) := rfl
    rw [hh, h1] at h4
    have h5 := hB_eq hb k (j + 1) (by omega) _ _ _ _ _ _ _ _ h4 h2
    show cmp (nuL B) (512 * k) a b c d e f g h (hB (nuL B) k) = _
    rw [show 512 * k = 8 * (64 * k) by omega, h3, h5]
    congr 2; omega
theorem be4_N {a : Nat} (h : a < 4294967296) : nuL (be4 a) = a ∧ byt (be4 a) := by
  unfold be4
  rw [show (24 : Int) = ((24 : Nat) : Int) from rfl, show (16 : Int) = ((16 : Nat) : Int) from rfl, show (8 : Int) = ((8 : Nat) : Int) from rfl, ishr_N (by decide), ishr_N (by decide), ishr_N (by decide), wrap_u8, wrap_u8, wrap_u8, wrap_u8]
  simp only [Nat.shiftRight_eq_div_pow]
  constructor
  · simp only [nuL, List.foldl_cons, List.foldl_nil]; omega
  · intro y hy
    simp only [List.mem_cons, List.not_mem_nil, or_false] at hy
    rcases hy with rfl | rfl | rfl | rfl <;> omega
theorem pk8_go (l : List Int) : ∀ a : Nat, l.foldl (fun a b => a * 4294967296 + b.toNat) a = a * 4294967296 ^ l.length + pk8 l := by
  induction l with
  | nil => intro a; simp [pk8]
  | cons x r ih =>
    intro a
    simp only [pk8, List.foldl_cons, List.length_cons]
    rw [ih, ih (0 * 4294967296 + x.toNat), Nat.pow_succ]
    simp only [Nat.zero_mul, Nat.zero_add, Nat.add_mul, Nat.mul_assoc, Nat.mul_comm (4294967296 ^ r.length) 4294967296]
    omega
theorem outb_N {l : List Int} (h : ∀ y ∈ l, 0 ≤ y ∧ y < 4294967296) : nuL (outb l) = pk8 l ∧ byt (outb l) ∧ (outb l).length = 4 * l.length := by
  induction l with
  | nil => exact ⟨rfl, (fun y hy => absurd hy (List.not_mem_nil)), rfl⟩
  | cons x r ih =>
    obtain ⟨h1, h2, h3⟩ := ih fun y hy => h y (List.mem_cons_of_mem _ hy)
    have hx := h x (List.mem_cons_self ..)
    have e : x = ((x.toNat : Nat) : Int) := by omega
    obtain ⟨h4, h5⟩ := be4_N (a := x.toNat) (by omega)
    rw [← e] at h4 h5
    have ho : outb (x :: r) = be4 x ++ outb r := by simp [outb]
    rw [ho]
    refine ⟨?_, ?_, ?_⟩
    · have hp : pk8 (x :: r) = x.toNat * 4294967296 ^ r.length + pk8 r := by
        have := pk8_go r x.toNat
        simpa [pk8] using this
      rw [nuL_app, h1, h4, h3, hp, Nat.pow_mul]
    · intro y hy
      rcases List.mem_append.1 hy with hy | hy
      · exact h5 y hy
      · exact h2 y hy
    · rw [List.length_append, h3, List.length_cons]; show 4 + _ = _; omega
theorem bts_txb {l : List Int} (h : byt l) : bts (tx l) = l := by
  unfold bts tx
  simp only [List.toList_toArray, List.map_map]
  conv => rhs; rw [← List.map_id l]
  refine List.map_congr_left fun y hy => ?_
  have := h y hy
  simp only [Function.comp, UInt8.toNat_ofNat', id]
  omega
theorem hN_eq {ys : List Int} (hb : byt (pad ys)) (nb : Nat) (hn : (pad ys).length = 64 * nb) : nuL (bts (sha ys)) = hN nb (nuL (pad ys)) := by
  have h1 : hN nb (nuL (pad ys)) = hB (nuL (pad ys)) nb 1779033703 3144134277 1013904242 2773480762 1359893119 2600822924 528734635 1541459225 := by unfold hN; rw [fc_eq]
  have h2 := hB_eq hb nb 0 (by omega) _ _ _ _ _ _ _ _ (show Hs (pad ys) 0 = [((1779033703 : Nat) : Int), ((3144134277 : Nat) : Int), ((1013904242 : Nat) : Int), ((2773480762 : Nat) : Int), ((1359893119 : Nat) : Int), ((2600822924 : Nat) : Int), ((528734635 : Nat) : Int), ((1541459225 : Nat) : Int)] from rfl) (by decide)
  rw [Nat.zero_add] at h2
  have h3 : ∀ y ∈ Hs (pad ys) nb, 0 ≤ y ∧ y < 4294967296 := by
    intro y hy
    cases nb with
    | zero => revert y; show ∀ y ∈ iv, _; decide
    | succ k =>
      have h4 : Hs (pad ys) (k + 1) = blk (Hs (pad ys) k) kk (pad ys) (64 * k) := rfl
      rw [h4] at hy
      unfold blk Va at hy
      simp only [List.mem_map, List.mem_range] at hy
      obtain ⟨j, hj, rfl⟩ := hy
      rw [if_pos hj]
      exact add32_nn _ _
  have h5 := outb_N h3
  unfold sha
  rw [hn, Nat.mul_div_cancel_left _ (by decide), bts_txb h5.2.1, h5.1, ← h2, h1]
end Go.Sx

/- The hashes that the example needs, reckoned in the kernel. -/
set_option linter.unusedVariables false
set_option linter.unusedSimpArgs false
set_option maxRecDepth 100000
namespace Go.Sx
open Go.Proofs
def nm (s : ByteArray) : Nat := nuL (bts s)
def tgN (k : Nat) (l : List (Nat × Nat)) : Nat := l.foldl (fun a p => (a * 4294967296 + p.1) * 256 ^ p.1 + p.2) k
noncomputable def hsN (L Z nb m : Nat) : Nat := hN nb ((m * 256 + 128) * 256 ^ (Z + 8) + 8 * L)
theorem u8_bd (a : Int) : 0 ≤ IntKind.u8.wrap a ∧ IntKind.u8.wrap a ≤ 255 := by rw [wrap_u8]; omega
theorem be8_byt (a : Int) : byt (be8 a) := by
  intro y hy
  simp only [be8, List.mem_cons, List.not_mem_nil, or_false] at hy
  rcases hy with rfl | rfl | rfl | rfl | rfl | rfl | rfl | rfl <;> exact u8_bd _
theorem be4_byt (a : Int) : byt (be4 a) := by
  intro y hy
  simp only [be4, List.mem_cons, List.not_mem_nil, or_false] at hy
  rcases hy with rfl | rfl | rfl | rfl <;> exact u8_bd _
theorem byt_app {l r : List Int} (h1 : byt l) (h2 : byt r) : byt (l ++ r) := fun y hy => (List.mem_append.1 hy).elim (h1 y) (h2 y)
theorem byt_one {a : Int} (h : 0 ≤ a ∧ a ≤ 255) : byt [a] := fun y hy => by rw [List.mem_singleton.1 hy]; exact h
theorem byt_zero (k : Nat) : byt (List.replicate k (0 : Int)) := fun y hy => by rw [List.eq_of_mem_replicate hy]; decide
theorem pad_byt {ys : List Int} (h : byt ys) : byt (pad ys) := byt_app (byt_app (byt_app h (byt_one (by decide))) (byt_zero _)) (be8_byt _)
theorem tagb_byt {k : Nat} (hk : k ≤ 255) (ss : List ByteArray) : byt (tagb k ss) := by
  intro y hy
  rcases List.mem_cons.1 hy with e | hy
  · subst e; omega
  · obtain ⟨s, _, hs⟩ := List.mem_flatMap.1 hy
    exact byt_app (be4_byt _) bts_bytes y hs
theorem pad_num {ys : List Int} {L Z : Nat} (hL : ys.length = L) (hZ : Int.toNat ((119 - ((L : Nat) : Int).tmod 64).tmod 64) = Z) (hE : nuL (be8 (IntKind.u64.wrap (IntKind.u64.wrap (L : Nat) * 8))) = 8 * L) :
    nuL (pad ys) = (nuL ys * 256 + 128) * 256 ^ (Z + 8) + 8 * L ∧ (pad ys).length = L + 1 + Z + 8 := by
  unfold pad
  rw [hL, hZ]
  refine ⟨?_, ?_⟩
  · rw [nuL_app, hE, nuL_app, nuL_zero, nuL_app]
    have e1 : nuL [(128 : Int)] = 128 := rfl
    have e2 : (be8 (IntKind.u64.wrap (IntKind.u64.wrap (L : Nat) * 8))).length = 8 := rfl
    rw [e1, e2, List.length_replicate, Nat.add_zero, Nat.pow_add, Nat.mul_assoc]
    rfl
  · simp only [List.length_append, List.length_replicate, hL]; rfl
theorem sizeN {s : ByteArray} (h : s.size < 4294967296) : nuL (be4 (IntKind.u32.wrap (s.size : Nat))) = s.size := by rw [wr_nat h]; exact (be4_N h).1
theorem tgN_app {k : Nat} {l : List (Nat × Nat)} {p : Nat × Nat} : tgN k (l ++ [p]) = (tgN k l * 4294967296 + p.1) * 256 ^ p.1 + p.2 := by unfold tgN; rw [List.foldl_append]; rfl
theorem tagb_num {k : Nat} : ∀ {ss : List ByteArray}, (∀ s ∈ ss, s.size < 4294967296) → ∀ {l : List Int} {a : Nat}, nuL l = a → nuL (l ++ ss.flatMap tagc) = (ss.map fun s => (s.size, nm s)).foldl (fun a p => (a * 4294967296 + p.1) * 256 ^ p.1 + p.2) a
  | [], _, l, a, h => by simp [h]
  | s :: ss, hs, l, a, h => by
    rw [List.flatMap_cons, ← List.append_assoc, List.map_cons, List.foldl_cons]
    refine tagb_num (k := k) (fun t ht => hs t (List.mem_cons_of_mem _ ht)) ?_
    rw [nuL_app, h, tagc_len]
    unfold tagc
    rw [nuL_app, sizeN (hs s (List.mem_cons_self ..)), bts_len, Nat.pow_add]
    show _ = (a * 4294967296 + s.size) * 256 ^ s.size + nuL (bts s)
    rw [Nat.add_mul, Nat.mul_assoc, show (256 : Nat) ^ 4 = 4294967296 from rfl, Nat.add_assoc]
theorem tagH_N {k : Nat} {ss : List ByteArray} (hk : k ≤ 255) (hs : ∀ s ∈ ss, s.size < 4294967296) (L Z nb : Nat) (hL : 1 + (ss.map fun s => 4 + s.size).sum = L) (hZ : Int.toNat ((119 - ((L : Nat) : Int).tmod 64).tmod 64) = Z) (hE : nuL (be8 (IntKind.u64.wrap (IntKind.u64.wrap (L : Nat) * 8))) = 8 * L) (hn : L + 1 + Z + 8 = 64 * nb) :
    nm (tagH k ss) = hsN L Z nb (tgN k (ss.map fun s => (s.size, nm s))) := by
  obtain ⟨h1, h2⟩ := pad_num (ys := tagb k ss) (by rw [tagb_len]; exact hL) hZ hE
  have h3 : nuL (tagb k ss) = tgN k (ss.map fun s => (s.size, nm s)) := by
    have := tagb_num (k := k) hs (l := [(k : Int)]) (a := k) (by simp [nuL])
    exact this
  unfold nm tagH hsN
  rw [hN_eq (pad_byt (tagb_byt hk ss)) nb (by omega), h1, h3]
  rfl
theorem take_num {l : List Int} {a : Nat} (hb : byt l) (h : a ≤ l.length) : nuL (l.take a) = nuL l / 256 ^ (l.length - a) := by
  have e : nuL l = nuL (l.take a ++ l.drop a) := by rw [List.take_append_drop]
  have hd : (l.drop a).length = l.length - a := List.length_drop
  have hlt : nuL (l.drop a) < 256 ^ (l.length - a) := by rw [← hd]; exact nuL_lt fun y hy => hb y (List.mem_of_mem_drop hy)
  rw [e, nuL_app, hd, Nat.add_comm, Nat.add_mul_div_right _ _ (Nat.pow_pos (by decide)), Nat.div_eq_of_lt hlt, Nat.zero_add]
theorem nm_half {s : ByteArray} {a : Nat} (h : s.size = 32) (ha : a ≤ 32) : nm (s.extract 0 a) = nm s / 256 ^ (32 - a) := by
  unfold nm
  rw [bts_ext, List.drop_zero, Nat.sub_zero, take_num bts_bytes (by rw [bts_len]; omega), bts_len, h]
theorem nm_app (a b : ByteArray) : nm (a ++ b) = nm a * 256 ^ b.size + nm b := by unfold nm; rw [bts_app, nuL_app, bts_len]
theorem nm_one {i : Nat} (h : i ≤ 255) : nm (one i) = i := by
  unfold nm one; rw [bts_txb (byt_one (by omega))]; simp [nuL]
theorem nm_two {i : Nat} (h : i ≤ 255) : nm (two i) = i := by
  unfold nm two
  rw [bts_txb (fun y hy => by simp only [List.mem_cons, List.not_mem_nil, or_false] at hy; rcases hy with rfl | rfl <;> omega)]
  simp [nuL]
noncomputable def lnkN (k i j x : Nat) : Nat := hsN 37 18 1 (tgN 33 [(2, k), (1, i), (1, j), (16, x)]) / 340282366920938463463374607431768211456
noncomputable def secN (c k i : Nat) : Nat := hsN 17 38 1 (tgN 32 [(1, c), (2, k), (1, i)]) / 340282366920938463463374607431768211456
theorem lnk_N {k i j : Nat} {s : ByteArray} (hk : k ≤ 255) (hi : i ≤ 255) (hj : j ≤ 255) (hs : s.size = 16) : nm (lnk k i j s) = lnkN k i j (nm s) := by
  unfold lnk lnkN
  rw [nm_half (tagH_size _ _) (by decide)]
  rw [show ((33 : Int)) = ((33 : Nat) : Int) from rfl, tagH_N (k := 33) (by decide) (by
    intro t ht
    simp only [List.mem_cons, List.not_mem_nil, or_false] at ht
    rcases ht with rfl | rfl | rfl | rfl <;> simp only [two_size, one_size, hs] <;> decide) 37 18 1 (by simp only [List.map_cons, List.map_nil, List.sum_cons, List.sum_nil, two_size, one_size, hs, Nat.reduceAdd]) (by decide) (by decide) (by decide)]
  simp only [List.map_cons, List.map_nil, two_size, one_size, hs, nm_two hk, nm_one hi, nm_one hj]
theorem nm_sd {i : Nat} (h : i < 5) : nm (sd i) = 97 + i := by
  have : i = 0 ∨ i = 1 ∨ i = 2 ∨ i = 3 ∨ i = 4 := by omega
  rcases this with rfl | rfl | rfl | rfl | rfl <;> rfl
theorem sec_N {q k i : Nat} (hq : q < 5) (hk : k ≤ 255) (hi : i ≤ 255) : nm (sec (sd q) k i) = secN (97 + q) k i := by
  unfold sec secN
  rw [nm_half (tagH_size _ _) (by decide)]
  rw [show ((32 : Int)) = ((32 : Nat) : Int) from rfl, tagH_N (k := 32) (by decide) (by
    intro t ht
    simp only [List.mem_cons, List.not_mem_nil, or_false] at ht
    rcases ht with rfl | rfl | rfl <;> simp only [two_size, one_size, sd_size] <;> decide) 17 38 1 (by simp only [List.map_cons, List.map_nil, List.sum_cons, List.sum_nil, two_size, one_size, sd_size, Nat.reduceAdd]) (by decide) (by decide) (by decide)]
  simp only [List.map_cons, List.map_nil, two_size, one_size, sd_size, nm_two hk, nm_one hi, nm_sd hq]
noncomputable def chnN (k i f : Nat) : Nat → Nat → Nat := Nat.rec (motive := fun _ => Nat → Nat) (fun x => x) (fun c ih x => fc (ih x) fun y => lnkN k i (Nat.add f c) y)
theorem chn_N {k i f : Nat} {s : ByteArray} (hk : k ≤ 255) (hi : i ≤ 255) (hs : s.size = 16) : ∀ {c : Nat}, f + c ≤ 256 → nm (chn k i f c s) = chnN k i f c (nm s)
  | 0, _ => rfl
  | c + 1, h => by
    show nm (lnk k i (f + c) (chn k i f c s)) = fc (chnN k i f c (nm s)) fun y => lnkN k i (f + c) y
    rw [fc_eq, lnk_N hk hi (by omega) (chn_16 _ _ _ _ _ hs), chn_N hk hi hs (by omega)]
noncomputable def pbN (c k : Nat) : Nat → Nat := Nat.rec (motive := fun _ => Nat) 0 (fun j ih => fc ih fun a => fc (chnN k j 0 15 (secN c k j)) fun b => a * 340282366920938463463374607431768211456 + b)
theorem pb_N {q k : Nat} (hq : q < 5) (hk : k ≤ 255) : ∀ {j : Nat}, j ≤ 18 → nm (pbA (sd q) k j) = pbN (97 + q) k j
  | 0, _ => rfl
  | j + 1, h => by
    show nm (pbA (sd q) k j ++ chn k j 0 15 (sec (sd q) k j)) = fc (pbN (97 + q) k j) fun a => fc (chnN k j 0 15 (secN (97 + q) k j)) fun b => a * 340282366920938463463374607431768211456 + b
    rw [fc_eq, fc_eq, nm_app, pb_N hq hk (by omega), chn_N hk (by omega) (sec_size ..) (by decide), sec_N hq hk (by omega), chn_16 _ _ _ _ _ (sec_size ..)]
noncomputable def pubN (p : Nat) : Nat := hsN 293 18 5 (tgN 35 [(288, p)])
theorem pub_N {s : ByteArray} (hs : s.size = 288) : nm (tagH 35 [s]) = pubN (nm s) := by
  unfold pubN
  rw [show ((35 : Int)) = ((35 : Nat) : Int) from rfl, tagH_N (k := 35) (by decide) (by
    intro t ht; rw [List.mem_singleton.1 ht, hs]; decide) 293 18 5 (by simp only [List.map_cons, List.map_nil, List.sum_cons, List.sum_nil, hs, Nat.reduceAdd]) (by decide) (by decide) (by decide)]
  simp only [List.map_cons, List.map_nil, hs]
noncomputable def topN (a b : Nat) : Nat := hsN 73 46 2 (tgN 37 [(32, a), (32, b)])
theorem top_N {a b : ByteArray} (ha : a.size = 32) (hb : b.size = 32) : nm (tagH 37 [a, b]) = topN (nm a) (nm b) := by
  unfold topN
  rw [show ((37 : Int)) = ((37 : Nat) : Int) from rfl, tagH_N (k := 37) (by decide) (by
    intro t ht
    simp only [List.mem_cons, List.not_mem_nil, or_false] at ht
    rcases ht with rfl | rfl <;> omega) 73 46 2 (by simp only [List.map_cons, List.map_nil, List.sum_cons, List.sum_nil, ha, hb, Nat.reduceAdd]) (by decide) (by decide) (by decide)]
  simp only [List.map_cons, List.map_nil, ha, hb]
noncomputable def idhN (a : Nat) : Nat := hsN 42 13 1 (tgN 38 [(1, 1), (32, a)])
theorem idH_N {a : ByteArray} (ha : a.size = 32) : nm (idH 1 a) = idhN (nm a) := by
  unfold idhN idH
  rw [show ((38 : Int)) = ((38 : Nat) : Int) from rfl, tagH_N (k := 38) (by decide) (by
    intro t ht
    simp only [List.mem_cons, List.not_mem_nil, or_false] at ht
    rcases ht with rfl | rfl
    · rw [one_size]; decide
    · omega) 42 13 1 (by simp only [List.map_cons, List.map_nil, List.sum_cons, List.sum_nil, ha, one_size, Nat.reduceAdd]) (by decide) (by decide) (by decide)]
  simp only [List.map_cons, List.map_nil, ha, one_size, nm_one (show 1 ≤ 255 by decide)]
noncomputable def idN (c : Nat) : Nat := fc (pubN (pbN c 0 18)) fun a => fc (pubN (pbN c 1 18)) fun b => fc (topN a b) idhN
theorem id_N {q : Nat} (hq : q < 5) : nm (idB (sd q)) = idN (97 + q) := by
  unfold idB idN
  rw [idH_N (topB_size _), fc_eq, fc_eq, fc_eq]
  unfold topB
  rw [top_N (pubB_size ..) (pubB_size ..)]
  unfold pubB
  rw [pub_N (pbA_size ..), pub_N (pbA_size ..), pb_N hq (by decide) (Nat.le_refl _), pb_N hq (by decide) (Nat.le_refl _)]
theorem id_a : idN 97 = 14281201545810751530382028697834713106357395480215257179931913842909561890311 := by decide +kernel
theorem id_b : idN 98 = 9558201183896678181727541882644774655269967087219222437290914311093474131365 := by decide +kernel
theorem id_c : idN 99 = 74779855740580976595140983161563957399848003048638735006268165070833565103163 := by decide +kernel
end Go.Sx

/- A signature holds for its text; the one of "t" doesn't for "u". -/
set_option linter.unusedVariables false
set_option linter.unusedSimpArgs false
set_option maxRecDepth 100000
namespace Go.Sx
open Go.Proofs
theorem chn_add (k i : Nat) (s : ByteArray) (a : Nat) : ∀ c, chn k i a c (chn k i 0 a s) = chn k i 0 (a + c) s
  | 0 => rfl
  | c + 1 => by
    show lnk k i (a + c) (chn k i a c (chn k i 0 a s)) = lnk k i (0 + (a + c)) (chn k i 0 (a + c) s)
    rw [chn_add k i s a c, Nat.zero_add]
theorem ext_left {a b : ByteArray} {i j : Nat} (h : j ≤ a.size) : (a ++ b).extract i j = a.extract i j := by
  apply ByteArray.ext
  simp only [ByteArray.data_extract, ByteArray.data_append]
  rw [Array.extract_append]
  have : a.data.size = a.size := rfl
  rw [show j - a.data.size = 0 by omega]
  simp
theorem ext_right {a b : ByteArray} {n m : Nat} (ha : a.size = n) (hb : b.size = m) : (a ++ b).extract n (n + m) = b := by
  apply ByteArray.ext
  apply Array.toList_inj.1
  have h1 : a.data.toList.length = n := by rw [Array.length_toList]; exact ha
  have h2 : b.data.toList.length = m := by rw [Array.length_toList]; exact hb
  have e : ((a ++ b).extract n (n + m)).data.toList = ((a.data.toList ++ b.data.toList).drop n).take m := by
    simp only [ByteArray.data_extract, Array.toList_extract, List.extract_eq_take_drop, ByteArray.data_append, Array.toList_append, Nat.add_sub_cancel_left]
  rw [e, List.drop_left' h1, List.take_of_length_le (by omega)]
theorem sgA_piece (s : ByteArray) (k : Nat) (D : List Int) (j : Nat) : ∀ n, j < n → (sgA s k D n).extract (16 * j) (16 * j + 16) = chn k j 0 (dgt D j) (sec s k j)
  | n + 1, h => by
    have hz := sgA_size s k D n
    show (sgA s k D n ++ chn k n 0 (dgt D n) (sec s k n)).extract _ _ = _
    by_cases e : j = n
    · subst e; exact ext_right hz (chn_16 _ _ _ _ _ (sec_size ..))
    · rw [ext_left (by omega)]; exact sgA_piece s k D j n (by omega)
theorem rcA_sg (s : ByteArray) (k : Nat) (text : ByteArray) : ∀ {j}, j ≤ 18 → rcA k (dig text) (sgn s k text) j = pbA s k j
  | 0, _ => rfl
  | j + 1, h => by
    show rcA k (dig text) (sgn s k text) j ++ rcP k (dig text) (sgn s k text) j = pbA s k j ++ chn k j 0 15 (sec s k j)
    rw [rcA_sg s k text (by omega)]
    congr 1
    have hd := dgt_le text j
    unfold rcP sgn
    rw [sgA_piece s k _ j 18 (by omega), chn_add]
    congr 1; omega
theorem recv_sg (s : ByteArray) (k : Nat) (text : ByteArray) : recv k text (sgn s k text) = pubB s k := by
  unfold recv pubB; rw [rcA_sg s k text (Nat.le_refl _)]
theorem sig_mid (s : ByteArray) (k : Nat) (text : ByteArray) : (sigB s k text).extract 3 291 = sgn s k text := by
  unfold sigB
  rw [ext_left (by simp only [ByteArray.size_append, one_size, two_size, sgn_size]; decide)]
  exact ext_right (n := 3) (m := 288) (by simp only [ByteArray.size_append, one_size, two_size]) (sgn_size ..)
theorem sig_end (s : ByteArray) (k : Nat) (text : ByteArray) : (sigB s k text).extract 291 323 = pubB s (1 - k) := by
  unfold sigB
  exact ext_right (n := 291) (m := 32) (by simp only [ByteArray.size_append, one_size, two_size, sgn_size]) (pubB_size ..)
theorem sig_head {s : ByteArray} {k : Nat} {text : ByteArray} (hk : k < 2) : knOK (sigB s k text) = true ∧ kn2 (sigB s k text) = k := by
  have h : ∀ i, i < 3 → (bts (sigB s k text)).getD i 0 = ([1, 0, (k : Int)]).getD i 0 := fun i hi => by
    have e : bts (sigB s k text) = bts (one 1) ++ (bts (two k) ++ (bts (sgn s k text) ++ bts (pubB s (1 - k)))) := by
      unfold sigB; simp only [bts_app, List.append_assoc]
    have e1 : bts (one 1) = [1] := rfl
    have e2 : bts (two k) = [0, (k : Int)] := bts_txb (fun y hy => by simp only [List.mem_cons, List.not_mem_nil, or_false] at hy; rcases hy with rfl | rfl <;> omega)
    rw [e, e1, e2]
    generalize bts (sgn s k text) ++ bts (pubB s (1 - k)) = R
    have : i = 0 ∨ i = 1 ∨ i = 2 := by omega
    rcases this with rfl | rfl | rfl <;> rfl
  have b0 : byN (sigB s k text) 0 = 1 := by unfold byN; rw [h 0 (by decide)]; rfl
  have b1 : byN (sigB s k text) 1 = 0 := by unfold byN; rw [h 1 (by decide)]; rfl
  have b2 : byN (sigB s k text) 2 = k := by unfold byN; rw [h 2 (by decide)]; simp
  have h2 : kn2 (sigB s k text) = k := by unfold kn2; rw [b1, b2]; omega
  exact ⟨decide_eq_true ⟨b0, by rw [h2]; exact hk⟩, h2⟩
theorem top_sig {s : ByteArray} {k : Nat} {text : ByteArray} (hk : k < 2) : topOf text (sigB s k text) = topB s := by
  unfold topOf
  rw [(sig_head hk).2, sig_mid, sig_end, recv_sg]
  have : k = 0 ∨ k = 1 := by omega
  rcases this with rfl | rfl <;> rfl
theorem ver_sig {s : ByteArray} {k : Nat} {text : ByteArray} (hk : k < 2) : ver (idB s) text (sigB s k text) = 0 := by
  unfold ver
  rw [if_pos (sig_head hk).1, top_sig hk]
  exact if_pos rfl
theorem nuL_inj : ∀ {l r : List Int}, byt l → byt r → l.length = r.length → nuL l = nuL r → l = r
  | [], [], _, _, _, _ => rfl
  | a :: l, b :: r, hl, hr, he, hn => by
    have he' : l.length = r.length := by simpa using he
    have h1 := nuL_lt fun y hy => hl y (List.mem_cons_of_mem _ hy)
    have h2 := nuL_lt fun y hy => hr y (List.mem_cons_of_mem _ hy)
    have ha := hl a (List.mem_cons_self ..)
    have hb := hr b (List.mem_cons_self ..)
    rw [nuL_cons, nuL_cons, he'] at hn
    rw [he'] at h1
    have hp : 0 < 256 ^ r.length := Nat.pow_pos (by decide)
    have e1 : a.toNat = b.toNat := by
      have x1 : (a.toNat * 256 ^ r.length + nuL l) / 256 ^ r.length = a.toNat := by rw [Nat.add_comm, Nat.add_mul_div_right _ _ hp, Nat.div_eq_of_lt h1, Nat.zero_add]
      have x2 : (b.toNat * 256 ^ r.length + nuL r) / 256 ^ r.length = b.toNat := by rw [Nat.add_comm, Nat.add_mul_div_right _ _ hp, Nat.div_eq_of_lt h2, Nat.zero_add]
      rw [← x1, ← x2, hn]
    rw [e1] at hn
    rw [nuL_inj (fun y hy => hl y (List.mem_cons_of_mem _ hy)) (fun y hy => hr y (List.mem_cons_of_mem _ hy)) he' (by omega), show a = b by omega]
noncomputable def digN (c : Nat) : Nat := hsN 6 49 1 (tgN 34 [(1, c)]) / 6277101735386680763835789423207666416102355444464034512896
theorem dig_N {s : ByteArray} (hs : s.size = 1) : nm ((tagH 34 [s]).extract 0 8) = digN (nm s) := by
  unfold digN
  rw [nm_half (tagH_size _ _) (by decide)]
  rw [show ((34 : Int)) = ((34 : Nat) : Int) from rfl, tagH_N (k := 34) (by decide) (by
    intro t ht; rw [List.mem_singleton.1 ht, hs]; decide) 6 49 1 (by simp only [List.map_cons, List.map_nil, List.sum_cons, List.sum_nil, hs, Nat.reduceAdd]) (by decide) (by decide) (by decide)]
  simp only [List.map_cons, List.map_nil, hs]
theorem dig_lit {s : ByteArray} {c : Nat} {l : List Int} (hs : s.size = 1) (hc : nm s = c) (hl : byt l) (hl8 : l.length = 8) (hn : digN c = nuL l) : dig s = dgs l := by
  unfold dig
  congr 1
  refine nuL_inj bts_bytes hl ?_ ?_
  · rw [bts_len, hl8]; exact ext_size _ (by rw [tagH_size]; decide) (by decide)
  · have := dig_N hs
    unfold nm at this
    rw [this, show nuL (bts s) = c from hc, hn]
theorem dig_t : dig ⟨#[116]⟩ = dgs [13, 104, 92, 92, 190, 232, 143, 217] := dig_lit rfl rfl (by decide) rfl (by decide +kernel)
theorem dig_u : dig ⟨#[117]⟩ = dgs [167, 240, 254, 54, 46, 9, 192, 221] := dig_lit rfl rfl (by decide) rfl (by decide +kernel)
def dtN : List Nat := [0, 13, 6, 8, 5, 12, 5, 12, 11, 14, 14, 8, 8, 15, 13, 9, 5, 7]
def duN : List Nat := [10, 7, 15, 0, 15, 14, 3, 6, 2, 14, 0, 9, 12, 0, 13, 13, 6, 11]
theorem dt_eq {j : Nat} (h : j < 18) : dgt (dig ⟨#[116]⟩) j = dtN.getD j 0 := by
  rw [dig_t]
  have := (by decide : ∀ i : Fin 18, dgt (dgs [13, 104, 92, 92, 190, 232, 143, 217]) i.val = dtN.getD i.val 0)
  exact this ⟨j, h⟩
theorem du_eq {j : Nat} (h : j < 18) : dgt (dig ⟨#[117]⟩) j = duN.getD j 0 := by
  rw [dig_u]
  have := (by decide : ∀ i : Fin 18, dgt (dgs [167, 240, 254, 54, 46, 9, 192, 221]) i.val = duN.getD i.val 0)
  exact this ⟨j, h⟩
noncomputable def rcN : Nat → Nat := Nat.rec (motive := fun _ => Nat) 0 (fun j ih => fc ih fun a => fc (chnN 0 j 0 (dtN.getD j 0) (secN 97 0 j)) fun b => fc (chnN 0 j (duN.getD j 0) (15 - duN.getD j 0) b) fun e => a * 340282366920938463463374607431768211456 + e)
theorem rc_N : ∀ {j : Nat}, j ≤ 18 → nm (rcA 0 (dig ⟨#[117]⟩) (sgn (sd 0) 0 ⟨#[116]⟩) j) = rcN j
  | 0, _ => rfl
  | j + 1, h => by
    show nm (rcA 0 (dig ⟨#[117]⟩) (sgn (sd 0) 0 ⟨#[116]⟩) j ++ rcP 0 (dig ⟨#[117]⟩) (sgn (sd 0) 0 ⟨#[116]⟩) j) = fc (rcN j) fun a => fc (chnN 0 j 0 (dtN.getD j 0) (secN 97 0 j)) fun b => fc (chnN 0 j (duN.getD j 0) (15 - duN.getD j 0) b) fun e => a * 340282366920938463463374607431768211456 + e
    have hs16 : (chn 0 j 0 (dgt (dig ⟨#[116]⟩) j) (sec (sd 0) 0 j)).size = 16 := chn_16 _ _ _ _ _ (sec_size ..)
    have hu := dgt_le ⟨#[117]⟩ j
    have ht := dgt_le ⟨#[116]⟩ j
    have hp : rcP 0 (dig ⟨#[117]⟩) (sgn (sd 0) 0 ⟨#[116]⟩) j = chn 0 j (dgt (dig ⟨#[117]⟩) j) (15 - dgt (dig ⟨#[117]⟩) j) (chn 0 j 0 (dgt (dig ⟨#[116]⟩) j) (sec (sd 0) 0 j)) := by
      unfold rcP sgn; rw [sgA_piece _ _ _ j 18 (by omega)]
    rw [fc_eq, fc_eq, fc_eq, nm_app, rc_N (by omega), hp, chn_16 _ _ _ _ _ hs16, chn_N (by decide) (by omega) hs16 (by omega), chn_N (by decide) (by omega) (sec_size ..) (by omega), sec_N (by decide) (by decide) (by omega), dt_eq (by omega), du_eq (by omega)]
noncomputable def badN : Nat := fc (pubN (rcN 18)) fun a => fc (pubN (pbN 97 1 18)) fun b => fc (topN a b) idhN
theorem bad_eq : badN = 72596681756600453856047743061033443480040746086091354405448702127667666862939 := by decide +kernel
theorem bad_N : nm (idH 1 (topOf ⟨#[117]⟩ (sigB (sd 0) 0 ⟨#[116]⟩))) = badN := by
  unfold badN
  rw [idH_N (topOf_size ..), fc_eq, fc_eq, fc_eq]
  unfold topOf
  rw [(sig_head (by decide)).2, if_pos rfl, sig_mid, sig_end]
  rw [top_N (recv_size ..) (pubB_size ..)]
  unfold recv pubB
  rw [pub_N (rcA_size (sgn_size ..) (Nat.le_refl _)), pub_N (pbA_size ..), rc_N (Nat.le_refl _), pb_N (by decide) (by decide) (Nat.le_refl _)]
theorem nm_ne {a b : ByteArray} (h : nm a ≠ nm b) : a ≠ b := fun e => h (by rw [e])
theorem ab_ne : idB (sd 0) ≠ idB (sd 1) := nm_ne (by rw [id_N (by decide), id_N (by decide), id_a, id_b]; decide)
theorem ac_ne : idB (sd 0) ≠ idB (sd 2) := nm_ne (by rw [id_N (by decide), id_N (by decide), id_a, id_c]; decide)
theorem bc_ne : idB (sd 1) ≠ idB (sd 2) := nm_ne (by rw [id_N (by decide), id_N (by decide), id_b, id_c]; decide)
theorem ver_bad : ver (idB (sd 0)) ⟨#[117]⟩ (sigB (sd 0) 0 ⟨#[116]⟩) ≠ 0 := by
  unfold ver
  rw [if_pos (sig_head (by decide)).1, if_neg (nm_ne (by rw [bad_N, bad_eq, id_N (by decide), id_a]; decide))]
  decide
theorem set7L : setL 7 5 = [idB (sd 0), idB (sd 0), idB (sd 1), idB (sd 1), idB (sd 2), idB (sd 2)] := by
  have h0 : bitB 7 0 = true := by decide
  have h1 : bitB 7 1 = true := by decide
  have h2 : bitB 7 2 = true := by decide
  have h3 : bitB 7 3 = false := by decide
  have h4 : bitB 7 4 = false := by decide
  simp only [setL, h0, h1, h2, h3, h4, if_true, Bool.false_eq_true, if_false, List.append_nil, List.nil_append, List.cons_append]
theorem ris_nodup {l : List ByteArray} (h : Ris l) : l.Nodup := h.imp fun h e => by rw [e] at h; exact List.lt_irrefl _ h
theorem ris3 : (rising (setL 7 5)).Perm [idB (sd 0), idB (sd 1), idB (sd 2)] := by
  refine (List.perm_ext_iff_of_nodup (ris_nodup (rising_ris _)) ?_).2 fun s => ?_
  · simp only [List.nodup_cons, List.mem_cons, List.not_mem_nil, or_false, List.nodup_nil, and_true, not_or, not_false_eq_true]
    exact ⟨⟨ab_ne, ac_ne⟩, bc_ne⟩
  · rw [rising_mem, set7L]; simp
theorem okTo_ris {l : List ByteArray} (h : Ris l) (hz : ∀ s ∈ l, s.size = 32) : ∀ {m}, m ≤ l.length → okTo l m = true
  | 0, _ => rfl
  | m + 1, hm => by
    have hg : ∀ i (hi : i < l.length), l.getD i .empty = l[i] := fun i hi => by rw [List.getD_eq_getElem?_getD, List.getElem?_eq_getElem hi]; rfl
    simp only [okTo, okTo_ris h hz (m := m) (by omega), Bool.true_and]
    unfold okAt
    rw [hg m (by omega), decide_eq_true (hz _ (List.getElem_mem _)), Bool.true_and]
    by_cases e : m = 0
    · rw [decide_eq_true e]; rfl
    · rw [hg (m - 1) (by omega), slt_lt, decide_eq_true ((List.pairwise_iff_getElem.1 h) (m - 1) m (by omega) (by omega) (by omega)), Bool.or_true]
theorem len3 : (rising (setL 7 5)).length = 3 := ris3.length_eq
theorem ok3 : okSet (rising (setL 7 5)) 2 = true := by
  unfold okSet
  rw [okTo_ris (rising_ris _) (fun s hs => by
    have := ris3.mem_iff.1 hs
    simp only [List.mem_cons, List.not_mem_nil, or_false] at this
    rcases this with rfl | rfl | rfl <;> exact idB_size _) (Nat.le_refl _), len3]
  decide
theorem eno3 (text : ByteArray) (gs : Sg) : enoB (rising (setL 7 5)) 2 text gs = decide (2 ≤ (([idB (sd 0), idB (sd 1), idB (sd 2)] : List ByteArray).filter fun id => hit id text gs).length) := by
  unfold enoB whoL
  rw [ok3, if_pos rfl, Bool.true_and, (ris3.filter _).length_eq]
  congr 1
  exact propext ⟨fun h => by omega, fun h => by omega⟩
theorem hit_two (id text : ByteArray) (p q : ByteArray × ByteArray) : hit id text [p, q] = (hit1 id text p || hit1 id text q) := by unfold hit; simp
theorem hit1_ne {id text i s : ByteArray} (h : i ≠ id) : hit1 id text (i, s) = false := by unfold hit1; rw [decide_eq_false h]; rfl
theorem hit1_eq {id text s : ByteArray} : hit1 id text (id, s) = decide (ver id text s = 0) := by unfold hit1; simp
theorem eno_yes : enoB (rising (setL 7 5)) 2 ⟨#[116]⟩ [(idB (sd 0), sigB (sd 0) 0 ⟨#[116]⟩), (idB (sd 2), sigB (sd 2) 1 ⟨#[116]⟩)] = true := by
  rw [eno3]
  have h0 : hit (idB (sd 0)) ⟨#[116]⟩ [(idB (sd 0), sigB (sd 0) 0 ⟨#[116]⟩), (idB (sd 2), sigB (sd 2) 1 ⟨#[116]⟩)] = true := by
    rw [hit_two, hit1_eq, ver_sig (by decide)]; rfl
  have h1 : hit (idB (sd 1)) ⟨#[116]⟩ [(idB (sd 0), sigB (sd 0) 0 ⟨#[116]⟩), (idB (sd 2), sigB (sd 2) 1 ⟨#[116]⟩)] = false := by
    rw [hit_two, hit1_ne ab_ne, hit1_ne bc_ne.symm]; rfl
  have h2 : hit (idB (sd 2)) ⟨#[116]⟩ [(idB (sd 0), sigB (sd 0) 0 ⟨#[116]⟩), (idB (sd 2), sigB (sd 2) 1 ⟨#[116]⟩)] = true := by
    rw [hit_two, hit1_ne ac_ne, hit1_eq, ver_sig (by decide)]; rfl
  rw [List.filter_cons, if_pos h0, List.filter_cons, if_neg (by rw [h1]; decide), List.filter_cons, if_pos h2]
  rfl
theorem eno_one : enoB (rising (setL 7 5)) 2 ⟨#[116]⟩ [(idB (sd 0), sigB (sd 0) 0 ⟨#[116]⟩), (idB (sd 0), sigB (sd 0) 0 ⟨#[116]⟩)] = false := by
  rw [eno3]
  have h1 : hit (idB (sd 1)) ⟨#[116]⟩ [(idB (sd 0), sigB (sd 0) 0 ⟨#[116]⟩), (idB (sd 0), sigB (sd 0) 0 ⟨#[116]⟩)] = false := by
    rw [hit_two, hit1_ne ab_ne]; rfl
  have h2 : hit (idB (sd 2)) ⟨#[116]⟩ [(idB (sd 0), sigB (sd 0) 0 ⟨#[116]⟩), (idB (sd 0), sigB (sd 0) 0 ⟨#[116]⟩)] = false := by
    rw [hit_two, hit1_ne ac_ne]; rfl
  refine decide_eq_false ?_
  simp only [List.filter_cons, h1, h2, List.filter_nil, Bool.false_eq_true, if_false]
  split <;> simp
theorem eno_no : enoB (rising (setL 7 5)) 2 ⟨#[117]⟩ [(idB (sd 0), sigB (sd 0) 0 ⟨#[116]⟩), (idB (sd 2), sigB (sd 2) 1 ⟨#[116]⟩)] = false := by
  rw [eno3]
  have h0 : hit (idB (sd 0)) ⟨#[117]⟩ [(idB (sd 0), sigB (sd 0) 0 ⟨#[116]⟩), (idB (sd 2), sigB (sd 2) 1 ⟨#[116]⟩)] = false := by
    rw [hit_two, hit1_eq, hit1_ne ac_ne.symm, decide_eq_false ver_bad]; rfl
  have h1 : hit (idB (sd 1)) ⟨#[117]⟩ [(idB (sd 0), sigB (sd 0) 0 ⟨#[116]⟩), (idB (sd 2), sigB (sd 2) 1 ⟨#[116]⟩)] = false := by
    rw [hit_two, hit1_ne ab_ne, hit1_ne bc_ne.symm]; rfl
  refine decide_eq_false ?_
  rw [List.filter_cons, if_neg (by rw [h0]; decide), List.filter_cons, if_neg (by rw [h1]; decide), List.filter_cons]
  split <;> simp
end Go.Sx

/- The example: two of three keys are enough, one isn't. -/
set_option linter.unusedVariables false
set_option linter.unusedSimpArgs false
set_option maxRecDepth 100000
namespace Go.Sx
attribute [local go_sem ↓] bind_mk intsB_mk strsB_mk svB_mk fnVC ob_some vc_skip vc_exit vc_ret vc_seq vc_block kSeq_normal kSeq_exit kSeq_ret kBlock_normal kBlock_exit kBlock_ret vc_reg vc_regD vc_cond condK_true condK_false vc_loop kLoop_exit kLoop_ret kRoll_normal kRoll_exit kRoll_ret vcOps_nil vcOps_cons gd_bool gd_undef put_some put_none vcT_fin vcT_pure vcT_act vcT_acts vcT_stop stab_none stab_some stabM_nil stabM_cons stabO_ld stabO_ldn stabO_slP stabO_b2s fldOf_ai fldOf_agg fldOf_ait fldOf_aggt intsOf_nil intsOf_cons strsOf_nil strsOf_cons c_omap ob_if lk_nil lk_cons ev_t ev_k z_mov z_pick z_bin z_binA z_binB z_binP z_un z_r2s z_conv z_s2b z_b2s z_mkM z_luM z_upM z_lenM lenMk_mp lenMk_nil plsOf_v z_delM asM_so plV_v plV_agg mpOf_mp mpOf_nil mpUp_mp asM_mp luV_ok luV_v z_allocT aggOf_mk z_boxT z_alloc z_bld z_bldI z_rowI z_rowS z_ld z_ldn z_st z_stn asN_ptr asN_fn z_nilck z_fld z_fadr z_idxA z_idxP z_idxS z_idxV z_slS z_slL z_slP z_mk z_lenS z_lenL z_app appC_ints appC_pl appC_sv appC_strs isS_strs loose_ints loose_pl loose_sv z_slM z_callv callvK_fn callvK_f callvK_yl vc_rangeF rfEnd_eq rfGo_none rfGo_ret rfGo_exit yGo_mk yEnd_n yEnd_r yEnd_e yRdy_mk yMid_n putPs_nil putPs_cons leaf_v leaf_ptr leaf_sl leaf_yl leaf_mp z_appS z_appST z_appZ z_cpyS z_mkfn reps_int reps_str z_rowV z_slnil nilK_zero z_cpy z_call asT_tup z_extT z_box boxOf_ai boxOf_agg boxOf_int boxOf_str boxOf_bool boxOf_ptr boxOf_sl sbin_int sbin_str sbinA_mk ae_nil ae_int ae_str sbinB_mk sbinP_nn sbinP_pn sbinP_np i_add i_sub i_mul i_quo i_rem i_and i_or i_xor i_andNot i_shl i_shr i_eql i_neq i_lss i_leq i_gtr i_geq st_add st_eql st_neq st_lss st_leq st_gtr st_geq bo_eql bo_neq pt_eql pt_neq un_neg un_xor un_not asI_mk asB_mk asS_mk asP_mk asSl_mk asBy_mk bnd_none bnd_some get_mk hput_mk hdel_mk kill_eq wrOf_eq rowOf_eq rsvs_0 rsvs_1 rsvs_2 rsvs_3 rsv_t rsv_c1 rsv_cn nt_v nt_ptr nt_sl nt_agg nt_ai get_ints get_strs get_pl get_sv getN_ints getN_sv set_ints set_strs set_sv setN_ints setN_sv part_ints part_strs part_sv cat_ints cat_strs cat_sv over_ints over_strs over_sv ones_ints ones_strs evs_nil evs_cons condK_eqt condK_eqf det_callP V_ns V_nn V_gs V_gn obC_mk fresh_ev freshT_ev freshR_ev setN_plagg setN_intsv setN_svai setN_svagg over_intsv set_pl setN_pl setN_plai getN_pl getN_strs part_pl cat_pl over_pl over_plints z_mm
attribute [local go_sem] initTm ne_eq not_true_eq_false not_false_eq_true true_and and_true List.length_cons List.length_nil Int.toNat_natCast Nat.add_zero Nat.zero_add Nat.mul_one List.getElem?_cons_zero List.drop_zero List.take_length List.take_succ_cons List.take_zero List.take_nil List.drop_succ_cons Option.map_some Nat.le_refl implies_true List.getElem?_cons_succ decide_true decide_false Bool.not_true Bool.not_false beq_self_eq_true Nat.succ_ne_self Nat.one_ne_zero Nat.zero_ne_one vk_mk hk_mk nk_mk tok_eq plsOf_map intsOf_map bodyOf_pl bodyOf_ints bodyOf_strs bodyOf_sv part_aggv part_agg part_ai part_int part_str part_bool part_sl part_ptr part_nil numsOf_map u_int u_str u_bool u_pnil u_sl u_ptr u_oci u_ocs evq_nil evq_cons fillS_nil fillS_cons u_ocb ones_pl cells_sv cells_ints cells_strs cells_pl smms_nil smms_cons smm_min smm_max plsOf_nil List.nil_append List.all_cons List.all_nil Bool.and_self Bool.true_and Bool.and_true zws_len zw_len zi_len List.set_cons_zero List.set_cons_succ List.flatMap_cons List.flatMap_nil List.append_nil
attribute [local go_sem_proc] Nat.reduceEqDiff Nat.reduceAdd Nat.reduceMul Nat.reduceLT Nat.reduceLeDiff Nat.reduceSub Int.reduceToNat Int.reduceLE Int.reduceLT reduceCtorEq Int.reduceEq Int.reduceGT Int.reduceGE Int.reduceNeg
attribute [local go_sem_proc ↓] reduceIte
section
open Go.Proofs
variable {H : Hp} {n : Nat} {x : Nat → Option SO}
theorem ringS (hn : n + 21 ≤ 1000) : SpecAt Tryz.prog nring7 [] H n (.sl n 0 5 1) ⟨(n, some ⟨true, .sv [.ptr (n + 1) 0, .ptr (n + 5) 0, .ptr (n + 9) 0, .ptr (n + 13) 0, .ptr (n + 17) 0]⟩) :: (keyL (sd 0) (n + 1) ++ (keyL (sd 1) (n + 5) ++ (keyL (sd 2) (n + 9) ++ (keyL (sd 3) (n + 13) ++ (keyL (sd 4) (n + 17) ++ H.l))))), H.x⟩ (n + 21) := by
  have := lift (n := n) (okT.spec tring7 (ringW (x := H.x))) [] rfl rfl rfl (by omega) rfl rfl trivial rfl rfl (by omega)
  exact this
theorem enoS {l : List ByteArray} {ss : List ByteArray} {a b o m : Nat} {gl gs : Sg} {p k : Nat} {text : ByteArray} {need : Int} {u1 u2 : Bool} (ha : H.get a = some ⟨u1, .strs ss⟩) (hb' : H.get b = some ⟨u2, .pl (sgP gs)⟩) (ne : 0 < a ∧ 0 < b)
    (hl : l = (ss.drop o).take m) (hm : o + m ≤ ss.length) (hb : m ≤ 10000000) (hg : gl = (gs.drop p).take k) (hk : p + k ≤ gs.length) (hkb : k ≤ 10000000) (hz : sgZ gl) (ht : text.size ≤ 1000000000) :
    SpecAt Tryz.prog nQEnough [.agg [.sl a o m 1, .v (.int .i64 need)], .v (.string text), .sl b (2 * p) k 2] H n (.v (.bool (enoB l need text gl))) H n := by
  have := lift_ro (n := n) (H := H) (lc := [(1, some ⟨false, .strs ss⟩), (2, some ⟨false, .pl (sgP gs)⟩)]) (okT.spec tQEnough (enoW (x := H.x) (need := need) hl hm hb hg hk hkb hz ht)) [(1, a), (2, b)] rfl rfl rfl (by omega) rfl rfl
    ⟨sub_ro rfl ne.1 ha rfl, sub_ro rfl ne.2 hb' rfl, trivial⟩ (by simp [apartB, apart1, rn, lk]) (by simp [wrNZ, rn, lk]) rfl
  exact this
theorem pl4 {a b c d : ByteArray} : plsOf ([SV.v (.string a), .v (.string b)] ++ [SV.v (.string c), .v (.string d)]) = some [.string a, .string b, .string c, .string d] := rfl
theorem d33 : decide (((3 : Nat) : Int) = 3) = true := rfl
def g02 : Sg := [(idB (sd 0), sigB (sd 0) 0 ⟨#[116]⟩), (idB (sd 2), sigB (sd 2) 1 ⟨#[116]⟩)]
def g00 : Sg := [(idB (sd 0), sigB (sd 0) 0 ⟨#[116]⟩), (idB (sd 0), sigB (sd 0) 0 ⟨#[116]⟩)]
theorem g02z : sgZ g02 := by
  intro g hg
  simp only [g02, List.mem_cons, List.not_mem_nil, or_false] at hg
  rcases hg with rfl | rfl <;> exact sigB_size _ _ _
theorem g00z : sgZ g00 := by
  intro g hg
  simp only [g00, List.mem_cons, List.not_mem_nil, or_false] at hg
  rcases hg with rfl | rfl <;> exact sigB_size _ _ _
set_option maxHeartbeats 4000000 in
theorem countsW : fnVC CT mcounts7 [] ⟨[], x⟩ 1 fun v H' n' => Sub 1 ⟨[(0, .v (.bool true))], ⟨[], x⟩, 1⟩ ⟨[(0, v)], H', n'⟩ := by
  unfold mcounts7
  have hrl := len3
  have hRl : (risR (setL 7 5)).length = 6 := by unfold risR; rw [List.length_append, List.length_replicate, len3, set7L]; rfl
  have hR : rising (setL 7 5) = ((risR (setL 7 5)).drop 0).take 3 := by rw [List.drop_zero]; unfold risR; rw [List.take_left' len3]
  have hmk : mkV (setL 7 5) 2 22 = .tup [.agg [.sl 22 0 3 1, .v (.int .i64 2)], .v (.int .i64 0)] := by unfold mkV; rw [if_pos ok3, len3]
  simp -implicitDefEqProofs only [↓fnVC, initTm]
  simp -implicitDefEqProofs only [go_sem]
  refine at_call tring7 (ringS (by decide)) ?_
  simp only [keyL_app]
  simp -implicitDefEqProofs only [go_sem]
  refine at_call tset7 (setS (i := 1) (bits := 7) (need := 2) ⟨sub_ro rfl (by decide) (by rfl) rfl, sub_ro rfl (by decide) (by rfl) rfl, sub_ro rfl (by decide) (by rfl) rfl, sub_ro rfl (by decide) (by rfl) rfl, sub_ro rfl (by decide) (by rfl) rfl, sub_ro rfl (by decide) (by rfl) rfl, sub_ro rfl (by decide) (by rfl) rfl, sub_ro rfl (by decide) (by rfl) rfl, sub_ro rfl (by decide) (by rfl) rfl, sub_ro rfl (by decide) (by rfl) rfl, sub_ro rfl (by decide) (by rfl) rfl, sub_ro rfl (by decide) (by rfl) rfl, sub_ro rfl (by decide) (by rfl) rfl, sub_ro rfl (by decide) (by rfl) rfl, sub_ro rfl (by decide) (by rfl) rfl, sub_ro rfl (by decide) (by rfl) rfl, sub_ro rfl (by decide) (by rfl) rfl, sub_ro rfl (by decide) (by rfl) rfl, sub_ro rfl (by decide) (by rfl) rfl, sub_ro rfl (by decide) (by rfl) rfl, sub_ro rfl (by decide) (by rfl) rfl, trivial⟩ (by decide) (by decide)) ?_
  rw [hmk]
  simp -implicitDefEqProofs only [go_sem, spA, spB, spC, tk2]
  refine ⟨by decide, by decide, by decide, by decide, ?_⟩
  and_intros
  all_goals refine at_call tKID (kidS (s := sd 0) (i := 2) (a := 3) (b := 4) (c := 5) ⟨⟨_, by rfl⟩, ⟨_, by rfl⟩, ⟨_, by rfl⟩, ⟨_, by rfl⟩, by decide, by decide, by decide, by decide⟩) ?_
  all_goals simp -implicitDefEqProofs only [go_sem]
  and_intros
  all_goals refine at_call tKAt (katS (s := sd 0) (i := 2) (a := 3) (b := 4) (c := 5) (k := 0) (text := ⟨#[116]⟩) ⟨⟨_, by rfl⟩, ⟨_, by rfl⟩, ⟨_, by rfl⟩, ⟨_, by rfl⟩, by decide, by decide, by decide, by decide⟩ (by decide) (by decide) (by decide)) ?_
  all_goals simp -implicitDefEqProofs only [go_sem, spA, spB, spC, tk2]
  and_intros
  all_goals refine at_call tKID (kidS (s := sd 2) (i := 10) (a := 11) (b := 12) (c := 13) ⟨⟨_, by rfl⟩, ⟨_, by rfl⟩, ⟨_, by rfl⟩, ⟨_, by rfl⟩, by decide, by decide, by decide, by decide⟩) ?_
  all_goals simp -implicitDefEqProofs only [go_sem]
  and_intros
  all_goals refine at_call tKAt (katS (s := sd 2) (i := 10) (a := 11) (b := 12) (c := 13) (k := 1) (text := ⟨#[116]⟩) ⟨⟨_, by rfl⟩, ⟨_, by rfl⟩, ⟨_, by rfl⟩, ⟨_, by rfl⟩, by decide, by decide, by decide, by decide⟩ (by decide) (by decide) (by decide)) ?_
  all_goals simp -implicitDefEqProofs only [go_sem, spA, spB, spC, tk2, d33, pl4, List.length_cons, List.length_nil]
  and_intros
  all_goals refine at_call tQEnough (enoS (a := 22) (b := 26) (l := rising (setL 7 5)) (ss := risR (setL 7 5)) (o := 0) (m := 3) (need := 2) (gl := g02) (gs := g02) (p := 0) (k := 2) (text := ⟨#[116]⟩) (by rfl) (by rfl) (by decide) hR (by rw [hRl]; decide) (by decide) rfl (by decide) (by decide) g02z (by decide)) ?_
  all_goals rw [show enoB (rising (setL 7 5)) 2 ⟨#[116]⟩ g02 = true from eno_yes]
  all_goals simp -implicitDefEqProofs only [go_sem, spA, spB, spC, tk2, d33, pl4, List.length_cons, List.length_nil]
  all_goals refine at_call tQEnough (enoS (a := 22) (b := 27) (l := rising (setL 7 5)) (ss := risR (setL 7 5)) (o := 0) (m := 3) (need := 2) (gl := g00) (gs := g00) (p := 0) (k := 2) (text := ⟨#[116]⟩) (by rfl) (by rfl) (by decide) hR (by rw [hRl]; decide) (by decide) rfl (by decide) (by decide) g00z (by decide)) ?_
  all_goals rw [show enoB (rising (setL 7 5)) 2 ⟨#[116]⟩ g00 = false from eno_one]
  all_goals simp -implicitDefEqProofs only [go_sem, spA, spB, spC, tk2, d33, pl4, List.length_cons, List.length_nil]
  all_goals refine at_call tQEnough (enoS (a := 22) (b := 28) (l := rising (setL 7 5)) (ss := risR (setL 7 5)) (o := 0) (m := 3) (need := 2) (gl := g02) (gs := g02) (p := 0) (k := 2) (text := ⟨#[117]⟩) (by rfl) (by rfl) (by decide) hR (by rw [hRl]; decide) (by decide) rfl (by decide) (by decide) g02z (by decide)) ?_
  all_goals rw [show enoB (rising (setL 7 5)) 2 ⟨#[117]⟩ g02 = false from eno_no]
  all_goals simp -implicitDefEqProofs only [go_sem, spA, spB, spC, tk2, d33]
  all_goals exact sub_val rfl (by decide) (by decide) rfl
theorem countsS : SpecAt Tryz.prog ncounts7 [] H n (.v (.bool true)) H n := lift_pure (okT.spec tcounts7 countsW) rfl
end
end Go.Sx