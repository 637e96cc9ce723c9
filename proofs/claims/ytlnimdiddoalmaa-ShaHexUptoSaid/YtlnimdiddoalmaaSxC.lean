/- The walk stops where it can't go on: nothing is looked into behind that. (A rule 'tok_eq' in a simp call turns this on.) -/
import Derived.Test.YtlnimdiddoalmaaSxB

set_option linter.unusedVariables false
set_option linter.unusedSimpArgs false
namespace Go.Sx
variable {C : Tab} {base : Nat} {tm : List (Nat × SV)} {H : Hp} {n : Nat}
def tok1 : Nat := 0
def tok2 : Nat := 0
theorem tok_eq : tok1 = tok2 := by simp [tok1, tok2]
@[congr] theorem tc_ob {α : Type} {x y : Option α} {K : α → Prop} (h : x = y) {tk : Nat} (h0 : tok1 = tk) : ob x K = ob y K := by rw [h]
@[congr] theorem tc_vc {m : MC} {s : St} {K : Ex → St → Prop} {tk : Nat} (h0 : tok1 = tk) : vc C base m s K = vc C base m s K := rfl
@[congr] theorem tc_vcOps {m : List MOp} {K : List (Nat × SV) → Hp → Nat → Prop} {tk : Nat} (h0 : tok1 = tk) : vcOps C m tm H n K = vcOps C m tm H n K := rfl
@[congr] theorem tc_vcT {m : DT} {K : List (Nat × SV) → Hp → Nat → Prop} {tk : Nat} (h0 : tok1 = tk) : vcT C m tm H n K = vcT C m tm H n K := rfl
@[congr] theorem tc_V {m : MOp} {K : List (Nat × SV) → Hp → Nat → Prop} {tk : Nat} (h0 : tok1 = tk) : V C m tm H n K = V C m tm H n K := rfl
@[congr] theorem tc_sop {m : MO} {K : SV → Hp → Nat → Prop} {tk : Nat} (h0 : tok1 = tk) : sop C tm H n m K = sop C tm H n m K := rfl
@[congr] theorem tc_gd {v v' : SV} {w : Bool} {T E : Prop} (h : v = v') {tk : Nat} (h0 : tok1 = tk) : gd v w T E = gd v' w T E := by rw [h]
@[congr] theorem tc_ibin {op : BinOp} {k k' : IntKind} {x y : Int} {K : SV → Prop} {tk : Nat} (h0 : tok1 = tk) : ibin op k x k' y K = ibin op k x k' y K := rfl
@[congr] theorem tc_sbin {op : BinOp} {a b : SV} {K : SV → Prop} {tk : Nat} (h0 : tok1 = tk) : sbin op a b K = sbin op a b K := rfl
@[congr] theorem tc_sbinB {op : BinOp} {a b : SV} {K : SV → Prop} {tk : Nat} (h0 : tok1 = tk) : sbinB op a b K = sbinB op a b K := rfl
@[congr] theorem tc_sbinP {op : BinOp} {a b : SV} {K : SV → Prop} {tk : Nat} (h0 : tok1 = tk) : sbinP op a b K = sbinP op a b K := rfl
@[congr] theorem tc_strbin {op : BinOp} {a b : ByteArray} {K : SV → Prop} {tk : Nat} (h0 : tok1 = tk) : strbin op a b K = strbin op a b K := rfl
@[congr] theorem tc_boolbin {op : BinOp} {a b : Bool} {K : SV → Prop} {tk : Nat} (h0 : tok1 = tk) : boolbin op a b K = boolbin op a b K := rfl
@[congr] theorem tc_ptrbin {op : BinOp} {a : Bool} {K : SV → Prop} {tk : Nat} (h0 : tok1 = tk) : ptrbin op a K = ptrbin op a K := rfl
@[congr] theorem tc_sun {op : UnOp} {a : SV} {K : SV → Prop} {tk : Nat} (h0 : tok1 = tk) : sun op a K = sun op a K := rfl
@[congr] theorem tc_asI {a : SV} {K : Int → Prop} {tk : Nat} (h0 : tok1 = tk) : asI a K = asI a K := rfl
@[congr] theorem tc_asB {a : SV} {K : Bool → Prop} {tk : Nat} (h0 : tok1 = tk) : asB a K = asB a K := rfl
@[congr] theorem tc_asS {a : SV} {K : ByteArray → Prop} {tk : Nat} (h0 : tok1 = tk) : asS a K = asS a K := rfl
@[congr] theorem tc_asP {a : SV} {K : Nat → Nat → Prop} {tk : Nat} (h0 : tok1 = tk) : asP a K = asP a K := rfl
@[congr] theorem tc_asSl {a : SV} {K : Nat → Nat → Nat → Nat → Prop} {tk : Nat} (h0 : tok1 = tk) : asSl a K = asSl a K := rfl
@[congr] theorem tc_asBy {a : Body} {K : List Int → Prop} {tk : Nat} (h0 : tok1 = tk) : asBy a K = asBy a K := rfl
@[congr] theorem tc_get {b b' : Body} {o o' : Nat} {K : SV → Prop} (h : b = b') (h2 : o = o') {tk : Nat} (h0 : tok1 = tk) : b.get o K = b'.get o' K := by rw [h, h2]
@[congr] theorem tc_getN {b b' : Body} {o o' m : Nat} {K : SV → Prop} (h : b = b') (h2 : o = o') {tk : Nat} (h0 : tok1 = tk) : b.getN o m K = b'.getN o' m K := by rw [h, h2]
@[congr] theorem tc_set {b b' : Body} {o o' : Nat} {a : SV} {K : Body → Prop} (h : b = b') (h2 : o = o') {tk : Nat} (h0 : tok1 = tk) : b.set o a K = b'.set o' a K := by rw [h, h2]
@[congr] theorem tc_setN {b b' : Body} {o o' m : Nat} {a : SV} {K : Body → Prop} (h : b = b') (h2 : o = o') {tk : Nat} (h0 : tok1 = tk) : b.setN o m a K = b'.setN o' m a K := by rw [h, h2]
@[congr] theorem tc_part {b b' : Body} {o o' m m' : Nat} {K : Body → Prop} (h : b = b') (h2 : o = o') (h3 : m = m') {tk : Nat} (h0 : tok1 = tk) : b.part o m K = b'.part o' m' K := by rw [h, h2, h3]
@[congr] theorem tc_cat {b b' c c' : Body} {K : Body → Prop} (h : b = b') (h2 : c = c') {tk : Nat} (h0 : tok1 = tk) : b.cat c K = b'.cat c' K := by rw [h, h2]
@[congr] theorem tc_over {b b' c c' : Body} {o o' : Nat} {K : Body → Prop} (h : b = b') (h2 : o = o') (h3 : c = c') {tk : Nat} (h0 : tok1 = tk) : b.over o c K = b'.over o' c' K := by rw [h, h2, h3]
@[congr] theorem tc_rowOf {i o m o' m' : Nat} {e : Body} {K : Body → Prop} (h2 : o = o') (h3 : m = m') {tk : Nat} (h0 : tok1 = tk) : rowOf H i o m e K = rowOf H i o' m' e K := by rw [h2, h3]
@[congr] theorem tc_fresh {b : Body} {K : Hp → Nat → Prop} {tk : Nat} (h0 : tok1 = tk) : fresh H n b K = fresh H n b K := rfl
@[congr] theorem tc_fldOf {a a' : SV} {off m : Nat} {ag : Bool} {K : SV → Prop} (h : a = a') {tk : Nat} (h0 : tok1 = tk) : fldOf a off m ag K = fldOf a' off m ag K := by rw [h]
@[congr] theorem tc_bnd {x : Option MA} {d : Int} {K : Int → Prop} {tk : Nat} (h0 : tok1 = tk) : bnd tm x d K = bnd tm x d K := rfl
@[congr] theorem tc_rsv {r : MR} {K : SV → Prop} {tk : Nat} (h0 : tok1 = tk) : rsv tm H r K = rsv tm H r K := rfl
@[congr] theorem tc_rsvs {r : List MR} {K : SV → Prop} {tk : Nat} (h0 : tok1 = tk) : rsvs tm H r K = rsvs tm H r K := rfl
@[congr] theorem tc_notTup {v : SV} {K : Prop} {tk : Nat} (h0 : tok1 = tk) : notTup v K = notTup v K := rfl
@[congr] theorem tc_stab {m : MOp} {H' : Hp} {tk : Nat} (h0 : tok1 = tk) : stab m tm H H' = stab m tm H H' := rfl
@[congr] theorem tc_kSeq {y : MC} {K : Ex → St → Prop} {e : Ex} {s : St} {tk : Nat} (h0 : tok1 = tk) : kSeq C base y K e s = kSeq C base y K e s := rfl
@[congr] theorem tc_kBlock {id : Nat} {K : Ex → St → Prop} {e : Ex} {s : St} {tk : Nat} (h0 : tok1 = tk) : kBlock id K e s = kBlock id K e s := rfl
@[congr] theorem tc_condK {b b' : Bool} {S T : Prop} (h : b = b') {tk : Nat} (h0 : tok1 = tk) : condK b S T = condK b' S T := by rw [h]
@[congr] theorem tc_Loops {body : St → (Ex → St → Prop) → Prop} {s : St} {K : Ex → St → Prop} {tk : Nat} (h0 : tok1 = tk) : Loops base body s K = Loops base body s K := rfl
@[congr] theorem tc_LoopU {body : St → (Ex → St → Prop) → Prop} {k : Nat} {s : St} {K : Ex → St → Prop} {tk : Nat} (h0 : tok1 = tk) : LoopU base body k s K = LoopU base body k s K := rfl
@[congr] theorem tc_kLoop {α : Type} {p : α → Prop} {I : α → St} {μ : α → Nat} {a : α} {K : Ex → St → Prop} {e : Ex} {s : St} {tk : Nat} (h0 : tok1 = tk) : kLoop base p I μ a K e s = kLoop base p I μ a K e s := rfl
@[congr] theorem tc_kRoll {body : St → (Ex → St → Prop) → Prop} {k : Nat} {K : Ex → St → Prop} {e : Ex} {s : St} {tk : Nat} (h0 : tok1 = tk) : kRoll base body k K e s = kRoll base body k K e s := rfl
@[congr] theorem tc_asN {a : SV} {K : SV → Prop} {tk : Nat} (h0 : tok1 = tk) : asN a K = asN a K := rfl
@[congr] theorem tc_asT {a : SV} {m : Nat} {K : SV → Prop} {tk : Nat} (h0 : tok1 = tk) : asT a m K = asT a m K := rfl
@[congr] theorem tc_boxOf {a : SV} {K : Body → Prop} {tk : Nat} (h0 : tok1 = tk) : boxOf a K = boxOf a K := rfl
/-! A value, a heap, a number: in its own form ahead of what comes next. -/
def vk (v : SV) (K : SV → Prop) : Prop := K v
def hk (H : Hp) (K : Hp → Prop) : Prop := K H
def nk (n : Nat) (K : Nat → Prop) : Prop := K n
@[congr] theorem tc_vk {v v' : SV} {K : SV → Prop} (h : v = v') {tk : Nat} (h0 : tok1 = tk) : vk v K = vk v' K := by rw [h]
@[congr] theorem tc_hk {v v' : Hp} {K : Hp → Prop} (h : v = v') {tk : Nat} (h0 : tok1 = tk) : hk v K = hk v' K := by rw [h]
@[congr] theorem tc_nk {v v' : Nat} {K : Nat → Prop} (h : v = v') {tk : Nat} (h0 : tok1 = tk) : nk v K = nk v' K := by rw [h]
theorem vk_mk {v : SV} {K : SV → Prop} : vk v K = K v := rfl
theorem hk_mk {v : Hp} {K : Hp → Prop} : hk v K = K v := rfl
theorem nk_mk {v : Nat} {K : Nat → Prop} : nk v K = K v := rfl
def obC (x : Option (SV × Hp × Nat)) (K : SV → Hp → Nat → Prop) : Prop := ob x fun r => K r.1 r.2.1 r.2.2
@[congr] theorem tc_obC {x y : Option (SV × Hp × Nat)} {K : SV → Hp → Nat → Prop} (h : x = y) {tk : Nat} (h0 : tok1 = tk) : obC x K = obC y K := by rw [h]
theorem obC_mk {v : SV} {H' : Hp} {n' : Nat} {K : SV → Hp → Nat → Prop} : obC (some (v, H', n')) K = K v H' n' := rfl
theorem obC_of {x : Option (SV × Hp × Nat)} {v : SV} {H' : Hp} {n' : Nat} {K : SV → Hp → Nat → Prop} (h : x = some (v, H', n')) (hk : K v H' n') : obC x K := by rw [h]; exact hk
theorem p_call {f : Nat} {args : List MA} {K : SV → Hp → Nat → Prop} : sop C tm H n (.call f args) K = ob (evs tm args) fun l => obC (C f l H n) K := rfl
theorem fresh_ev {b : Body} {K : Hp → Nat → Prop} : fresh H n b K = (n < 1000 ∧ hk (H.put n ⟨true, b⟩) fun H => nk (n + 1) fun n => K H n) := rfl
theorem V_ns {d : Nat} {o : MO} {K : List (Nat × SV) → Hp → Nat → Prop} : V C ⟨some d, o, none⟩ tm H n K = sop C tm H n o fun v H' n' => vk v fun v => hk H' fun H' => nk n' fun n' => K ((d, v) :: tm) H' n' := rfl
theorem V_nn {o : MO} {K : List (Nat × SV) → Hp → Nat → Prop} : V C ⟨none, o, none⟩ tm H n K = sop C tm H n o fun v H' n' => hk H' fun H' => nk n' fun n' => K tm H' n' := rfl
theorem V_gs {d : Nat} {o : MO} {t : Nat} {want : Bool} {K : List (Nat × SV) → Hp → Nat → Prop} : V C ⟨some d, o, some (t, want)⟩ tm H n K = ob (lk tm t) fun g => gd g want (sop C tm H n o fun v H' n' => vk v fun v => hk H' fun H' => nk n' fun n' => K ((d, v) :: tm) H' n') (K ((d, .v undef) :: tm) H n) := rfl
theorem V_gn {o : MO} {t : Nat} {want : Bool} {K : List (Nat × SV) → Hp → Nat → Prop} : V C ⟨none, o, some (t, want)⟩ tm H n K = ob (lk tm t) fun g => gd g want (sop C tm H n o fun v H' n' => hk H' fun H' => nk n' fun n' => K tm H' n') (K tm H n) := rfl
theorem condK_dd {p : Prop} [Decidable p] {S T : Prop} (h1 : decide p = true → S) (h2 : decide p = false → T) : condK (decide p) S T := ⟨h1, h2⟩
theorem condK_nd {p : Prop} [Decidable p] {S T : Prop} (h1 : decide p = false → S) (h2 : decide p = true → T) : condK (!decide p) S T := by rw [condK_not]; exact ⟨h2, h1⟩
theorem condK_bb {b : Bool} {S T : Prop} (h1 : b = true → S) (h2 : b = false → T) : condK b S T := ⟨h1, h2⟩
end Go.Sx
