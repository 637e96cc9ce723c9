/- Tables of contracts; contracts of simple shapes. -/
import Derived.Test.YtbdgjfcchmainaaGreatSxB
import Derived.ChangeSame
import Derived.ProofKit
import Derived.OpenShut
import Derived.JoinedCond
import Derived.SliceStrings
import Derived.Deep.Slices
import Derived.Below

set_option linter.unusedVariables false
set_option linter.unusedSimpArgs false
namespace Go.Sx
variable {P : Program} {F : Nat → Prop} {w0 w : World} {ρ : Nat → Loc} {n : Nat} {H : Hp} {tm : List (Nat × SV)} {a : Act} {C : Tab}
def Tab.none (P : Program) : Tab := ⟨fun _ _ _ _ _ => False, fun i => SpecY P i, isLoop P⟩
def Tab.add (C : Tab) (f : Nat) (c : PT) : Tab := { C with f := fun g => if g = f then c else C.f g }
structure OKT (P : Program) (C : Tab) : Prop where
  tab : TabOK P C
  ent : Enters P C
  lps : LpsOK P C
  isl : IsLoops P C
  mix : P.follows .mixedOrders = true
theorem OKT.none (h : P.follows .mixedOrders = true) : OKT P (Tab.none P) := ⟨⟨fun f args H n K h => h.elim, fun i => specY_ok⟩, fun f l H n K h => h.elim, fun _ _ _ _ _ h => h, fun _ _ _ _ _ h => h, h⟩
theorem enters_of {f : Nat} {m : MFn} (hm : trFn P f = some m) : ∃ fn, P.funcs[f]? = some fn ∧ fn.body.isSome = true ∧ (fn.name != "runtime.NumGoroutine") = true := by
  unfold trFn at hm
  split at hm
  · cases hm
  rename_i fn hf
  split at hm
  · cases hm
  rename_i c hc
  split at hm
  case h_2 => cases hm
  split at hm
  case isFalse => cases hm
  rename_i hn
  exact ⟨fn, hf, by rw [hc]; rfl, hn⟩
theorem OKT.addE {f : Nat} {c : PT} (h : OKT P C) (he : ∃ fn, P.funcs[f]? = some fn ∧ fn.body.isSome = true ∧ (fn.name != "runtime.NumGoroutine") = true) (hc : CtrOK P f c) : OKT P (C.add f c) := by
  refine ⟨⟨fun g => ?_, h.tab.y⟩, fun g l H n r hr => ?_, h.lps, h.isl, h.mix⟩
  · by_cases e : g = f
    · subst e; unfold Tab.add; simp only [if_true]; exact hc
    · unfold Tab.add; simp only [e, if_false]; exact h.tab.f g
  · unfold Tab.add at hr
    by_cases e : g = f
    · subst e; exact he
    · simp only [e, if_false] at hr; exact h.ent g l H n r hr
theorem OKT.add {f : Nat} {c : Ctr} {m : MFn} (h : OKT P C) (hm : trFn P f = some m) (hc : ∀ args H n v H' n', c args H n = some (v, H', n') → SpecAt P f args H n v H' n') : OKT P (C.add f (det c)) :=
  h.addE (enters_of hm) (ctrOK_of hc)
theorem OKT.all {f : Nat} {m : MFn} (h : OKT P C) (hm : trFn P f = some m) : OKT P (C.add f (SpecK P f)) := h.addE (enters_of hm) specK_ok
theorem call_in {C' : Tab} {f : Nat} {m : MFn} {l : List SV} {K : SV → Hp → Nat → Prop} (h : OKT P C') (hm : trFn P f = some m) (hC : C f = SpecK P f) (hv : fnVC C' m l H n K) : callK (C f) l H n K := by
  rw [hC]
  refine ⟨K, ⟨enters_of hm, fun F w0 w ρ xs hH hz hl => (fn_sound h.tab h.ent h.lps h.mix hm hH hz hl hv).mono ?_⟩, fun _ _ _ h => h⟩
  rintro e w' ⟨x, v, H', n', ρ', hK, h⟩
  exact ⟨x, v, H', n', ρ', hK, h⟩
theorem call_at {f : Nat} {m : MFn} {l : List SV} {v : SV} {H' : Hp} {n' : Nat} {K : SV → Hp → Nat → Prop} (hm : trFn P f = some m) (hC : C f = SpecK P f) (hs : SpecAt P f l H n v H' n') (hK : K v H' n') : callK (C f) l H n K := by
  rw [hC]
  refine ⟨K, ⟨enters_of hm, fun F w0 w ρ xs hH hz hl => (hs F w0 w ρ xs hH hz hl).mono ?_⟩, fun _ _ _ h => h⟩
  rintro e w' ⟨x, ρ', rfl, h⟩
  exact ⟨x, v, H', n', ρ', hK, rfl, h⟩
theorem OKT.spec {f : Nat} {m : MFn} {args : List SV} {v : SV} {H' : Hp} {n' : Nat} (h : OKT P C) (hm : trFn P f = some m)
    (hv : fnVC C m args H n fun v1 H1 n1 => Sub n ⟨[(0, v)], H', n'⟩ ⟨[(0, v1)], H1, n1⟩) : SpecAt P f args H n v H' n' := spec_of_vc h.tab h.ent h.lps h.mix hm hv
theorem OKT.pure {f : Nat} {m : MFn} {args : List SV} {v : SV} (h : OKT P C) (hm : trFn P f = some m)
    (hv : fnVC C m args H n fun v1 H1 n1 => v1 = v ∧ H1 = H ∧ n1 = n) : SpecAt P f args H n v H n := by
  intro F w0 w ρ xs hH hz hl
  refine (fn_sound h.tab h.ent h.lps h.mix hm hH hz hl hv).mono ?_
  rintro e w' ⟨x, v1, H1, n1, ρ1, ⟨rfl, rfl, rfl⟩, rfl, hr, hlt, hH1, hx, hn⟩
  exact ⟨x, ρ1, rfl, hr, hlt, hH1, hx, hn⟩
theorem renA_nil : ∀ c : SV, c.renA [] = c := fun c => by cases c <;> rfl
theorem renB_nil : ∀ c : SV, c.renB [] = c := fun c => by
  cases c
  case fn f caps => simp only [SV.renB]; rw [List.map_congr_left (fun x _ => renA_nil x), List.map_id']
  all_goals rfl
theorem renC_nil : ∀ c : SV, c.renC [] = c := fun c => by
  cases c
  case agg cs => simp only [SV.renC]; rw [List.map_congr_left (fun x _ => renB_nil x), List.map_id']
  case fn f caps => exact renB_nil (.fn f caps)
  all_goals rfl
theorem ren_nil : ∀ c : SV, c.ren [] = c := fun c => by
  cases c
  case tup cs => simp only [SV.ren]; rw [List.map_congr_left (fun x _ => renC_nil x), List.map_id']
  case agg cs => exact renC_nil (.agg cs)
  case fn f caps => exact renB_nil (.fn f caps)
  all_goals rfl
theorem lift_ro {f nc : Nat} {argsc : List SV} {v : SV} {lc : List (Nat × Option SO)} (hs : SpecAt P f argsc ⟨lc, H.x⟩ nc v ⟨[], H.x⟩ nc) (π : List (Nat × Nat))
    (hcan : canon nc nc lc [] = true) (hd : dense nc lc = true) (hargs : argsc.all (ltT nc) = true) (hnc : 0 < nc) (hwf : wfHp nc lc = true)
    (hπ : okπ 1 π = true) (hsub : hpSub π H lc) (hap : apartB π lc lc = true) (hnz : wrNZ π lc = true) (hv : v.ren π = v) :
    SpecAt P f (argsc.map (SV.ren π)) H n v H n := by
  have := lift hs π hcan hd hargs hnc hwf hπ hsub hap hnz (n := n) (by omega)
  simp only [Nat.sub_self, newIds, Nat.add_zero, hv] at this
  exact this
theorem lift_pure {f : Nat} {args : List SV} {v : SV} (hs : SpecAt P f args ⟨[], H.x⟩ 1 v ⟨[], H.x⟩ 1) (hargs : args.all (ltT 1) = true) : SpecAt P f args H n v H n := by
  have := lift_ro (n := n) hs [] rfl rfl hargs (by omega) rfl rfl trivial rfl rfl (ren_nil v)
  rwa [List.map_congr_left (fun x _ => ren_nil x), List.map_id'] at this
def rowAt (H : Hp) (i : Nat) (e : Body) : Option Body := if i = 0 then some e else (H.get i).map (·.b)
theorem rowAt_sub {π : List (Nat × Nat)} {i j : Nat} {e b : Body} (h : rowAt H j e = some b) (hi : rn π i = j) (he : e.cells = [] ∧ ∀ es, e ≠ .mp es) (hb : b.ren π = b) : objSub π H i ⟨false, b⟩ := by
  unfold objSub
  unfold rowAt at h
  rw [hi]
  by_cases h0 : j = 0
  · rw [if_pos h0] at h ⊢; cases h; exact he
  · rw [if_neg h0] at h ⊢
    rw [Option.map_eq_some_iff] at h
    obtain ⟨o, h1, h2⟩ := h
    rw [h1]
    exact ⟨fun h => (by cases h), fun h => (by cases h), (by rw [h2]; exact hb.symm)⟩
theorem lift_read {f : Nat} {pre : List Value} {i o m z : Nat} {e b : Body} {v : Value} (h : rowAt H i e = some b) (he : e.cells = [] ∧ ∀ es, e ≠ .mp es) (hb : ∀ π, b.ren π = b) (hlt : b.lt 2 = true)
    (hs : SpecAt P f (pre.map .v ++ [.sl 1 o m z]) ⟨[(1, some ⟨false, b⟩)], H.x⟩ 2 (.v v) ⟨[], H.x⟩ 2) : SpecAt P f (pre.map .v ++ [.sl i o m z]) H n (.v v) H n := by
  have := lift_ro (n := n) hs [(1, i)] (by simp [canon, wrAt, lk]) (by simp [dense, lk, List.range, List.range.loop]) (by simp [ltT, ltC, ltB, ltA, idOK, Function.comp_def]) (by omega) (by simp [wfHp, hlt]) (by simp [okπ]) ⟨rowAt_sub h (by simp [rn, lk]) he (hb _), trivial⟩ (by simp [apartB]) (by simp [wrNZ]) rfl
  simpa [SV.ren, SV.renC, SV.renB, SV.renA, rn, lk, Function.comp_def] using this
end Go.Sx

/- Numbers, and rows of them. -/
set_option linter.unusedVariables false
set_option linter.unusedSimpArgs false
namespace Go.Sx
theorem wrap_u8 (n : Int) : IntKind.u8.wrap n = n % 256 := by simp [IntKind.wrap, IntKind.signed, IntKind.bits]
theorem wrap_u16 (n : Int) : IntKind.u16.wrap n = n % 65536 := by simp [IntKind.wrap, IntKind.signed, IntKind.bits]
theorem wrap_u32 (n : Int) : IntKind.u32.wrap n = n % 4294967296 := by simp [IntKind.wrap, IntKind.signed, IntKind.bits]
theorem wrap_u64 (n : Int) : IntKind.u64.wrap n = n % 18446744073709551616 := by simp [IntKind.wrap, IntKind.signed, IntKind.bits]
theorem wrap_i64 {n : Int} (h1 : -9223372036854775808 ≤ n) (h2 : n ≤ 9223372036854775807) : IntKind.i64.wrap n = n := by
  have e : IntKind.i64.wrap n = if 9223372036854775808 ≤ n % 18446744073709551616 then n % 18446744073709551616 - 18446744073709551616 else n % 18446744073709551616 := by
    simp [IntKind.wrap, IntKind.signed, IntKind.bits]
  rw [e]
  split <;> omega
theorem wrap_u8r {n : Int} (h1 : 0 ≤ n) (h2 : n ≤ 255) : IntKind.u8.wrap n = n := by rw [wrap_u8]; omega
theorem wrap_u32r {n : Int} (h1 : 0 ≤ n) (h2 : n ≤ 4294967295) : IntKind.u32.wrap n = n := by rw [wrap_u32]; omega
theorem wrap_u64r {n : Int} (h1 : 0 ≤ n) (h2 : n ≤ 18446744073709551615) : IntKind.u64.wrap n = n := by rw [wrap_u64]; omega
theorem wrap_nn {k : IntKind} (h : k.signed = false) (n : Int) : 0 ≤ k.wrap n := by
  cases k <;> simp [IntKind.signed] at h <;> simp only [wrap_u8, wrap_u16, wrap_u32, wrap_u64] <;> omega
theorem iand_nn {k : IntKind} (h : k.signed = false) (x y : Int) : 0 ≤ iand k x y := wrap_nn h _
theorem ior_comm (k : IntKind) (x y : Int) : ior k x y = ior k y x := by unfold ior; rw [BitVec.or_comm]
theorem set_mid {α : Type} (l m : List α) (x y : α) : (l ++ x :: m).set l.length y = l ++ y :: m := by simp
def intsB (k : IntKind) (b : Body) : Option (List Int) := match b with
  | .ints k' ys => if k' = k then some ys else none
  | _ => none
def strsB (b : Body) : Option (List ByteArray) := match b with
  | .strs ys => some ys
  | _ => none
def svB (b : Body) : Option (List SV) := match b with
  | .sv cs => some cs
  | _ => none
theorem intsB_mk {k : IntKind} {ys : List Int} : intsB k (.ints k ys) = some ys := by simp [intsB]
theorem strsB_mk {ys : List ByteArray} : strsB (.strs ys) = some ys := rfl
theorem svB_mk {ys : List SV} : svB (.sv ys) = some ys := rfl
theorem bind_mk {α β : Type} {a : α} {f : α → Option β} : (some a).bind f = f a := rfl
theorem intsB_some {k : IntKind} {b : Body} {ys : List Int} (h : intsB k b = some ys) : b = .ints k ys := by
  unfold intsB at h
  split at h
  · split at h
    · rename_i e; subst e; cases h; rfl
    · cases h
  · cases h
theorem strsB_some {b : Body} {ys : List ByteArray} (h : strsB b = some ys) : b = .strs ys := by
  unfold strsB at h
  split at h
  · cases h; rfl
  · cases h
theorem svB_some {b : Body} {ys : List SV} (h : svB b = some ys) : b = .sv ys := by
  unfold svB at h
  split at h
  · cases h; rfl
  · cases h
theorem ob_of {α : Type} {x : Option α} {a : α} {K : α → Prop} (h : x = some a) (hk : K a) : ob x K := by rw [h]; exact hk
theorem sub_mk {base : Nat} {t s : St} (π : List (Nat × Nat)) (h1 : okπ base π = true) (hx : t.hp.x = s.hp.x) (h5 : (apartB π t.hp.l t.hp.l && wfHp t.nx t.hp.l && wfTm t.nx t.tm && decide (base ≤ t.nx) && decide (t.nx ≤ 1000)) = true) (h2 : tmSub π s.tm t.tm ∧ hpSub π s.hp t.hp.l) : Sub base t s := by
  simp only [Bool.and_eq_true, decide_eq_true_eq] at h5
  exact ⟨π, h1, h2.1, hx, h2.2, h5.1.1.1.1, h5.1.1.1.2, h5.1.1.2, h5.1.2, h5.2⟩
theorem rn_nil (i : Nat) : rn [] i = i := rfl
theorem Body.ren_nil (b : Body) : b.ren [] = b := by
  rcases b with _ | _ | _ | _ | (_ | ⟨L, st, pd, tm⟩) <;> simp [Body.ren]
  · rw [List.map_congr_left (fun x _ => renB_nil x), List.map_id']
  · rw [List.map_congr_left (g := id) (fun x _ => by simp [Sx.ren_nil]), List.map_id]
  · rfl
theorem ren_ints {π : List (Nat × Nat)} {k : IntKind} {ys : List Int} : (Body.ints k ys).ren π = .ints k ys := rfl
theorem ren_strs {π : List (Nat × Nat)} {ys : List ByteArray} : (Body.strs ys).ren π = .strs ys := rfl
theorem ren_pl {π : List (Nat × Nat)} {ys : List Value} : (Body.pl ys).ren π = .pl ys := rfl
theorem ren_svs {π : List (Nat × Nat)} {ys : List SV} : (Body.sv ys).ren π = .sv (ys.map (SV.renB π)) := rfl
def eqTm (tm : List (Nat × SV)) : List (Nat × SV) → Prop
  | [] => True
  | (t, v) :: r => ob (lk tm t) (fun u => u = v) ∧ eqTm tm r
def eqHp (s : Hp) : List (Nat × Option SO) → Prop
  | [] => True
  | (i, some o) :: r => (ob (s.get i) fun o' => (o.wr = true → o'.wr = true) ∧ o'.b = o.b) ∧ eqHp s r
  | (_, none) :: r => eqHp s r
theorem apartB_nil {all l : List (Nat × Option SO)} : apartB [] all l = true := by
  have h1 : ∀ (i : Nat) (l : List (Nat × Option SO)), apart1 [] i l = true := fun i l => by
    induction l with
    | nil => rfl
    | cons p r ih =>
      obtain ⟨j, o⟩ := p
      cases o <;> simp [apart1, ih, rn_nil]
      exact Decidable.em _
  induction l with
  | nil => rfl
  | cons p r ih =>
    obtain ⟨j, o⟩ := p
    cases o <;> simp [apartB, ih, h1]
theorem sub0 {base : Nat} {t s : St} (hx : t.hp.x = s.hp.x) (h5 : (wfHp t.nx t.hp.l && wfTm t.nx t.tm && decide (base ≤ t.nx) && decide (t.nx ≤ 1000)) = true) (h2 : eqTm s.tm t.tm ∧ eqHp s.hp t.hp.l) : Sub base t s := by
  simp only [Bool.and_eq_true, decide_eq_true_eq] at h5
  obtain ⟨⟨⟨hw, ht⟩, hb⟩, h1000⟩ := h5
  refine sub_mk [] rfl hx (by simp [apartB_nil, hw, ht, hb, h1000]) ⟨?_, ?_⟩
  · have : ∀ {l : List (Nat × SV)}, eqTm s.tm l → tmSub [] s.tm l := fun {l} h => by
      induction l with
      | nil => trivial
      | cons p r ih =>
        obtain ⟨k, v⟩ := p
        exact ⟨ob_mono (fun u hu => by rw [ren_nil]; exact hu) h.1, ih h.2⟩
    exact this h2.1
  · have : ∀ {l : List (Nat × Option SO)}, wfHp t.nx l = true → eqHp s.hp l → hpSub [] s.hp l := fun {l} hw h => by
      induction l with
      | nil => trivial
      | cons p r ih =>
        obtain ⟨k, o⟩ := p
        cases o with
        | none => simp only [wfHp, Bool.and_eq_true] at hw; exact ih hw.2 h
        | some o =>
          simp only [wfHp, Bool.and_eq_true, decide_eq_true_eq] at hw
          refine ⟨?_, ih hw.2 h.2⟩
          unfold objSub
          rw [rn_nil, if_neg (by omega)]
          exact ⟨fun _ => by omega, ob_mono (fun o' ho => ⟨ho.1, by rw [Body.ren_nil]; exact ho.2⟩) h.1⟩
    exact this hw h2.2
theorem sub_val {base nb n1 : Nat} {v v1 : SV} {x : Nat → Option SO} {l : List (Nat × Option SO)} (hl : ltT nb v = true) (hb : base ≤ nb) (h1000 : nb ≤ 1000) (h : v1 = v) : Sub base ⟨[(0, v)], ⟨[], x⟩, nb⟩ ⟨[(0, v1)], ⟨l, x⟩, n1⟩ :=
  sub_mk [] rfl rfl (by simp [apartB, wfHp, wfTm, hl, hb, h1000]) ⟨⟨by simp [lk, ob, h, ren_nil], trivial⟩, trivial⟩
end Go.Sx

/- From the walk to a row: what is left as it was. -/
set_option linter.unusedVariables false
set_option linter.unusedSimpArgs false
namespace Go.Sx
open Go.ChangeShapes Go.WideShapes
theorem keptBut_of {W W' : World} {may : MemPlace → Prop} (hos : W'.os = W.os) (hout : W'.output = W.output) (hk : ∀ b, b < W.heap.size → W'.heap[b]? = W.heap[b]?) : W.keptBut W' may := by
  refine ⟨hos, hout, fun i hi => ?_⟩
  rw [hk i hi]
  cases h : W.heap[i]? with
  | none => rfl
  | some o => cases o <;> first
    | rfl
    | exact ⟨rfl, rfl, rfl, fun _ _ => rfl⟩
    | exact .inr ⟨rfl, rfl⟩
theorem post_kept {H : Type} {enc : TypeId × Value → H} {P : Program} {f : Func} {s : ChangeSpec} {apart fresh handsOn again : Bool} {W W' : World} {args : Array Value} {v : Value} {ds gs : List (DataW H)} {before pa pv : List MemPlace}
    (hW : DataW.Whole enc P f.params.toList s.vars apart W args.toList ds gs before)
    (hres : ∀ (b : Nat) (sp : Nat → Bool) (hd : Bool), DataW.TrodAll enc P W' b sp hd f.resultTypes.toList (v.resultList f.resultTypes.size) (s.fn H (ds ++ gs)).results [])
    (hargs : ∀ sp : Nat → Bool, (∀ p ∈ before, sp p.block = true) → DataW.TrodAll enc P W' 0 sp true f.params.toList args.toList (s.fn H (ds ++ gs)).args pa)
    (hvars : ∀ sp : Nat → Bool, (∀ p ∈ before, sp p.block = true) → DataW.TrodVars enc P W' sp s.vars (s.fn H (ds ++ gs)).vars pv)
    (hps : before = pa ++ pv) (hos : W'.os = W.os) (hout : W'.output = W.output) (hkeep : ∀ b, b < W.heap.size → W'.heap[b]? = W.heap[b]?)
    (hok : ∀ (j : Nat) (t : TypeId) (r : Value), f.resultTypes[j]? = some t → (v.resultList f.resultTypes.size)[j]? = some r → Value.okWide P W' .any 0 t r) :
    s.post enc P f apart fresh handsOn again W args v W' := by
  have hlt : ∀ p ∈ before, p.block < W.heap.size := fun p hp => hW.lt p hp
  have hold : ∀ p ∈ before, (fun b => decide (b < W.heap.size)) p.block = true := fun p hp => by simpa using hW.lt p hp
  refine ⟨ds, gs, before, [], pa, pv, hW, hres _ _ _, hargs _ hold, hvars _ hold, World.keptBut_mono (fun p hp => ⟨hp, ?_⟩) (keptBut_of (may := (· ∈ before)) hos hout hkeep), fun _ => ?_⟩
  · rw [hps, List.mem_append] at hp
    exact Or.inr hp
  · obtain ⟨_, _, _, _, _, hz, hn⟩ := hW
    refine ⟨hok, _, _, ([] ++ pa) ++ pv, ⟨[] ++ pa, pv, trodAll_append (hargs _ (fun _ _ => rfl)) (hres _ _ _), hvars _ (fun _ _ => rfl), rfl, ?_, ?_⟩, ?_⟩
    · intro b off hp
      have hb : (MemPlace.cell b off) ∈ before := by rw [hps]; simpa using hp
      have e : W'.heap[b]? = W.heap[b]? := hkeep b (hlt _ hb)
      have := hz b off hb
      unfold World.frozen? at this ⊢
      simp only [e]
      exact this
    · intro ha
      have := hn ha
      rw [hps] at this
      simpa using this
    · intro p hp _
      rw [hps]
      simpa using hp
def ρ00 (i : Nat) : Loc := if 4001003 ≤ i then ⟨some ((i - 4001003) / 4), 0, 0, false, none⟩ else ⟨none, 0, 0, false, none⟩
theorem ρ00_sh {i : Nat} : (ρ00 i).sh = none := by unfold ρ00; split <;> rfl
theorem ρ00_gl : GlR ρ00 := fun g _ => by
  have e : ρ00 (gId g) = ⟨some g, 0, 0, false, none⟩ := by
    unfold ρ00 gId
    rw [if_pos (by omega), show (4001003 + 4 * g - 4001003) / 4 = g by omega]
  rw [e]; exact ⟨rfl, rfl⟩
theorem hrel_init (W : World) : HRel (· < W.heap.size) W ρ00 1 ⟨[], fun _ => none⟩ W :=
  { os := rfl, tape := rfl, output := rfl, size := Nat.le_refl _, keep := fun _ _ => rfl, old := fun _ h => h, nil := ⟨rfl, rfl⟩, pos := by omega
    obj := fun i s h => (by cases h), lt := fun i s h => (by cases h), own := fun i s b h => (by cases h), inj := fun i j s s' b _ h => (by cases h), live := fun i s b h => (by cases h), xok := fun i s h => (by cases h), shp := fun i T c b h => (by rw [ρ00_sh] at h; cases h), shk := ShKeep.refl _, gl := ρ00_gl }
theorem exOK_ro {l : Loc} {b : Body} (h : l.ex = false) : exOK l false b := by
  intro _
  split
  · exact fun e => by cases e
  · exact h
theorem hrel_in {F : Nat → Prop} {W : World} {ρ : Nat → Loc} {n : Nat} {H : Hp} (h : HRel F W ρ n H W) (hn : n < 1000) (b : Body) (l : Loc) (hb : b.lt n = true) (hok : ObjOK ρ W l ⟨false, b⟩) (hlive : ∀ k, l.blk = some k → k < W.heap.size)
    (hro : ∀ i s, H.get i = some s → s.wr = false) (hlsh : l.sh = none := by rfl) : HRel F W (upd ρ n l) (n + 1) (H.put n ⟨false, b⟩) W := by
  have hx : Ext n ρ (upd ρ n l) := Ext.upd hn
  have hidn : idOK n n = false := by unfold idOK; simp; omega
  have hr : ∀ i, i ≠ n → upd ρ n l i = ρ i := fun i hi => by simp [upd, hi]
  refine ⟨rfl, rfl, rfl, Nat.le_refl _, fun _ _ => rfl, h.old, ?_, by omega, ?_, ?_, ?_, ?_, ?_, h.xput hn, h.shp.upd fun T c b e1 _ => (by rw [hlsh] at e1; cases e1), h.shk, h.gl.upd hn⟩
  · rw [hr 0 (by have := h.pos; omega)]; exact h.nil
  · intro i s hi
    rw [Hp.get_put] at hi
    split at hi
    · rename_i e; subst e; cases hi; rw [upd_same]; exact ObjOK.ext hx hb hok
    · rename_i e; rw [hr i (Ne.symm e)]; exact ObjOK.ext hx (h.lt i s hi).2 (h.obj i s hi)
  · intro i s hi
    rw [Hp.get_put] at hi
    split at hi
    · rename_i e; subst e; cases hi; exact ⟨by unfold idOK; simp, Body.lt_mono (Nat.le_succ _) hb⟩
    · exact ⟨idOK_mono (Nat.le_succ _) (h.lt i s hi).1, Body.lt_mono (Nat.le_succ _) (h.lt i s hi).2⟩
  · intro i s k hi hw
    rw [Hp.get_put] at hi
    split at hi
    · cases hi; cases hw
    · rw [hro i s hi] at hw; cases hw
  · intro i j s s' k hij hi hj hw
    rw [Hp.get_put] at hi
    split at hi
    · cases hi; cases hw
    · rw [hro i s hi] at hw; cases hw
  · intro i s k hi hk
    rw [Hp.get_put] at hi
    split at hi
    · rename_i e; subst e; rw [upd_same] at hk; exact hlive k hk
    · rename_i e; rw [hr i (Ne.symm e)] at hk; exact h.live i s k hi hk
theorem law_calls {P : Program} {f : Nat} {args : List SV} {H H' : Hp} {n n' : Nat} {v : Value} {W : World} {ρ : Nat → Loc} {xs : List Value} (hs : SpecAt P f args H n (.v v) H' n') (hH : HRel (· < W.heap.size) W ρ n H W) (hz : All2 (rel ρ) args xs) (hl : args.all (ltT n) = true) :
    Calls P f xs.toArray W fun e W' => e = .returned v ∧ W'.os = W.os ∧ W'.output = W.output ∧ ∀ b, b < W.heap.size → W'.heap[b]? = W.heap[b]? :=
  (hs _ W W ρ xs hH hz hl).mono fun e W' ⟨x, ρ', he, hr, _, hH', _, _⟩ => by
    rw [rel_v] at hr; subst hr
    exact ⟨he, hH'.os, hH'.output, hH'.keep⟩
end Go.Sx

/- A law's row: it answers true, and its arguments read as they did. -/
set_option linter.unusedVariables false
set_option linter.unusedSimpArgs false
namespace Go.Sx
open Go.ChangeShapes Go.WideShapes Go.ChangeAt Go.RowKit
theorem law_below {P : Program} {f : Nat} {args : List SV} {H H' : Hp} {n n' : Nat} {v : Value} {W : World} {ρ : Nat → Loc} {xs : List Value} (hs : SpecAt P f args H n (.v v) H' n') (hH : HRel (· < W.heap.size) W ρ n H W) (hz : All2 (rel ρ) args xs) (hl : args.all (ltT n) = true) :
    Calls P f xs.toArray W fun e W' => e = .returned v ∧ Below W.heap.size W W' :=
  (hs _ W W ρ xs hH hz hl).mono fun e W' ⟨x, ρ', he, hr, _, hH', _, _⟩ => by
    rw [rel_v] at hr; subst hr
    exact ⟨he, hH'.os, hH'.tape, hH'.output, hH'.size, hH'.keep⟩
theorem trodAll_stays {H : Type} {enc : TypeId × Value → H} {P : Program} {W W' : World} (hl : laidOutB P = true) (hb : Below W.heap.size W W') {sp : Nat → Bool} : ∀ {ts : List TypeId} {vs : List Value} {ds : List (DataW H)} {ps : List MemPlace},
    (ts.all fun t => P.readableRec t && decide (t < P.types.size)) = true → DataW.TrodAll enc P W 0 (fun _ => true) true ts vs ds ps → (∀ p ∈ ps, p.block < W.heap.size) → (∀ p ∈ ps, sp p.block = true) → DataW.TrodAll enc P W' 0 sp true ts vs ds ps
  | [], vs, ds, ps, _, h, _, _ => by
    obtain ⟨rfl, rfl, rfl⟩ := trodAll_nil h
    exact trodAll_mk0
  | t :: ts, vs, ds, ps, hr, h, hlt, hsp => by
    obtain ⟨v, vs, d, ds, p, q, rfl, rfl, rfl, h0, r⟩ := trodAll_cons h
    simp only [List.all_cons, Bool.and_eq_true, decide_eq_true_eq] at hr
    refine trodAll_cons_mk (WideElems.Trod_stays hl hr.1.1 hr.1.2 h0 (fun x hx => hb.same (hlt x (List.mem_append_left _ hx))) (fun x hx => hsp x (List.mem_append_left _ hx))) ?_
    exact trodAll_stays hl hb hr.2 r (fun x hx => hlt x (List.mem_append_right _ hx)) (fun x hx => hsp x (List.mem_append_right _ hx))
theorem law_post {H : Type} {enc : TypeId × Value → H} {P : Program} {f : Func} {s : ChangeSpec} {W W' : World} {args : Array Value} {ds gs : List (DataW H)} {before : List MemPlace} {tb : TypeId}
    (hW : DataW.Whole enc P f.params.toList s.vars false W args.toList ds gs before) (hvars : s.vars = [])
    (hfn : s.fn H ds = { results := [.lit (.bool true)], args := ds }) (hl : laidOutB P = true)
    (hr : (f.params.toList.all fun t => P.readableRec t && decide (t < P.types.size)) = true) (hres : f.resultTypes = #[tb]) (hb : P.underlying tb = some .bool) (hB : Below W.heap.size W W') :
    s.post enc P f false true false false W args (.bool true) W' := by
  have hlt : ∀ p ∈ before, p.block < W.heap.size := fun p hp => hW.lt p hp
  have hW2 := hW
  obtain ⟨p, q, hA, hV, rfl, hfz, hnd⟩ := hW2
  rw [hvars] at hV
  obtain ⟨rfl, rfl⟩ := trodVars_none hV
  have hfn' : s.fn H (ds ++ []) = { results := [.lit (.bool true)], args := ds } := by rw [List.append_nil]; exact hfn
  refine post_kept (pa := p) (pv := []) hW ?_ ?_ ?_ (by simp) hB.os hB.output hB.block ?_
  · intro b sp hd
    rw [hfn', hres]
    exact trodAll_cons_mk (shut_bool hb _) trodAll_mk0
  · intro sp hsp
    rw [hfn']
    exact trodAll_stays hl hB hr hA (fun x hx => hlt x (by simpa using hx)) (fun x hx => hsp x (by simpa using hx))
  · intro sp hsp
    rw [hvars, hfn']
    rfl
  · exact ok_one hres rfl (okWide_bool_mk hb _)
end Go.Sx

/- What comes in: slices of strings. -/
set_option linter.unusedVariables false
set_option linter.unusedSimpArgs false
namespace Go.Sx
open Go.ChangeShapes Go.WideShapes Go.ChangeAt Go.RowKit
theorem spot_none {P : Program} {W : World} {b0 : Nat} {t e : TypeId} {a : Addr} {len cap : Nat} (ht : P.underlying t = some (.slice e)) (h : Value.okWide P W .any b0 t (.slice (some a) len cap)) : a.spot = none ∧ ∃ c T fr, W.heap[a.block]? = some (.cells c T fr) := by
  simp only [Value.okWide, ht, Cell.okWide, Cell.ok] at h
  obtain ⟨_, _, _, hs, row, cells, hsh, _⟩ := h
  refine ⟨hs, ?_⟩
  unfold World.shape? at hsh
  split at hsh
  · rename_i c T fr hb; exact ⟨c, T, fr, hb⟩
  · cases hsh
theorem add_spot {a : Addr} (h : a.spot = none) (i : Nat) : (a.add i).spot = none ∧ (a.add i).block = a.block ∧ (a.add i).off = a.off + i := by
  unfold Addr.add
  split
  · rename_i e; subst e; exact ⟨h, rfl, rfl⟩
  · exact ⟨rfl, rfl, rfl⟩
theorem cell_at {W : World} {a : Addr} {c : Array Value} {T : TypeId} {fr : Nat × Nat} (hs : a.spot = none) (hb : W.heap[a.block]? = some (.cells c T fr)) (i : Nat) : W.cell? (a.add i) = c[a.off + i]? := by
  obtain ⟨h1, h2, h3⟩ := add_spot hs i
  unfold World.cell?
  rw [h2, hb, h1, h3]; rfl
theorem in_strs {H : Type} {enc : TypeId × Value → H} {P : Program} {W : World} {b0 : Nat} {t e : TypeId} {v : Value} {d : DataW H} {ps : List MemPlace} {ρ : Nat → Loc} {n : Nat} {Hs : Hp}
    (ht : P.underlying t = some (.slice e)) (he : P.underlying e = some .string) (hc : P.cellsOf e = 1) (hval : Value.okWide P W .any b0 t v)
    (h0 : DataW.Trod enc P W 0 (fun _ => true) true t v d ps) (hH : HRel (· < W.heap.size) W ρ n Hs W) (hn : n < 1000) (hro : ∀ i s, Hs.get i = some s → s.wr = false) :
    ∃ l ss m, HRel (· < W.heap.size) W (upd ρ n l) (n + 1) (Hs.put n ⟨false, .strs ss⟩) W ∧ (∀ i s, (Hs.put n ⟨false, .strs ss⟩).get i = some s → s.wr = false) ∧ slrel l 0 m 1 v ∧ m ≤ ss.length ∧
      ((d = .nil ∧ ss = []) ∨ d = .slice (strs (ss.take m)) (strs (ss.drop m))) := by
  have hro' : ∀ ss, ∀ i s, (Hs.put n ⟨false, .strs ss⟩).get i = some s → s.wr = false := by
    intro ss i s h
    rw [Hp.get_put] at h
    split at h
    · cases h; rfl
    · exact hro i s h
  obtain ⟨a0, len, cap, rfl⟩ := okWide_slice ht hval
  obtain ⟨fuel, hf⟩ := h0
  rcases open_strings ht he hc hf with ⟨hcs, hx⟩ | ⟨a, len', cap', ss, hcs, _, hl, hm, hz, hx, hcell, hws⟩
  · simp only [Value.cells] at hcs
    cases hcs
    cases hx
    exact ⟨⟨none, 0, 0, false, none⟩, [], 0, hrel_in hH hn _ _ rfl ⟨rfl, exOK_ro rfl⟩ (fun k hk => by cases hk) hro, hro' _, ⟨rfl, .inl rfl⟩, Nat.le_refl _, .inl ⟨rfl, rfl⟩⟩
  · simp only [Value.cells] at hcs
    cases hcs
    cases hx
    replace hz : ss.length = cap := by simpa using hz
    obtain ⟨hs, c, T, fr, hb⟩ := spot_none ht hval
    have hsz : ss.length ≠ 0 → a.off + ss.length ≤ c.size := by
      intro h
      have := hcell (ss.length - 1) (by omega)
      rw [cell_at hs hb] at this
      have := (Array.getElem?_eq_some_iff.1 this).1
      omega
    have hblk : a.block < W.heap.size := (Array.getElem?_eq_some_iff.1 hb).1
    by_cases h00 : ss.length = 0
    · refine ⟨⟨some a.block, 0, 0, false, none⟩, ss, len, hrel_in hH hn _ _ rfl ?_ (fun k hk => by cases hk; exact hblk) hro, hro' _, ?_, by omega, .inr rfl⟩
      · refine ⟨?_, exOK_ro rfl⟩
        refine ⟨c, T, fr, hb, by simp, Nat.le_of_eq (by simp only [Body.cells, List.length_map]; exact h00), ?_, fun h => by cases h⟩
        intro j x hj
        have : j < ss.length := by simpa [Body.cells] using (List.getElem?_eq_some_iff.1 hj).1
        omega
      · refine ⟨cap, a.off, hl, ⟨by simp; omega, fun e => by cases e⟩, fun h => by omega, ?_⟩
        cases a; cases hs; rfl
    · refine ⟨⟨some a.block, a.off, cap, false, none⟩, ss, len, hrel_in hH hn _ _ rfl ?_ (fun k hk => by cases hk; exact hblk) hro, hro' _, ?_, by omega, .inr rfl⟩
      · refine ⟨?_, exOK_ro rfl⟩
        refine ⟨c, T, fr, hb, by simp; have := hsz h00; omega, by simp [Body.cells]; omega, ?_, fun h => by cases h⟩
        intro j x hj
        have hj' : j < ss.length := by simpa [Body.cells] using (List.getElem?_eq_some_iff.1 hj).1
        refine ⟨.string (ss.getD j ByteArray.empty), ?_, ?_⟩
        · rw [← cell_at hs hb]; exact hcell j hj'
        · simp only [Body.cells, List.getElem?_map, List.getElem?_eq_getElem hj', Option.map_some, Option.some.injEq] at hj
          subst hj
          simp [crel, arel, List.getD_eq_getElem?_getD, List.getElem?_eq_getElem hj']
      · refine ⟨cap, a.off, hl, ⟨by simp, fun e => by cases e⟩, fun h => by simp, ?_⟩
        cases a; cases hs; rfl
end Go.Sx

/- The walk stops where it can't go on: nothing is looked into behind that. (A rule 'tok_eq' in a simp call turns this on.) -/
set_option linter.unusedVariables false
set_option linter.unusedSimpArgs false
namespace Go.Sx
variable {C : Tab} {base : Nat} {tm : List (Nat × SV)} {H : Hp} {n : Nat}
def tok1 : Nat := 0
def tok2 : Nat := 0
theorem tok_eq : tok1 = tok2 := by simp [tok1, tok2]
@[congr] theorem tc_ob {α : Type} {x y : Option α} {K : α → Prop} (h : x = y) {tk : Nat} (h0 : tok1 = tk) : ob x K = ob y K := by rw [h]
@[congr] theorem tc_vc {m : MC} {s : St} {K : Ex → St → Prop} {tk : Nat} (h0 : tok1 = tk) : vc C base m s K = vc C base m s K := rfl
@[congr] theorem tc_vcOps {m : List MOp} {K : List (Nat × SV) → Hp → Nat → Prop} {tk : Nat} (h0 : tok1 = tk) : vcOps C m tm H n K = vcOps C m tm H n K := rfl
@[congr] theorem tc_vcT {m : DT} {K : List (Nat × SV) → Hp → Nat → Prop} {tk : Nat} (h0 : tok1 = tk) : vcT C m tm H n K = vcT C m tm H n K := rfl
@[congr] theorem tc_V {m : MOp} {K : List (Nat × SV) → Hp → Nat → Prop} {tk : Nat} (h0 : tok1 = tk) : V C m tm H n K = V C m tm H n K := rfl
@[congr] theorem tc_sop {m : MO} {K : SV → Hp → Nat → Prop} {tk : Nat} (h0 : tok1 = tk) : sop C tm H n m K = sop C tm H n m K := rfl
@[congr] theorem tc_gd {v v' : SV} {w : Bool} {T E : Prop} (h : v = v') {tk : Nat} (h0 : tok1 = tk) : gd v w T E = gd v' w T E := by rw [h]
@[congr] theorem tc_ibin {op : BinOp} {k k' : IntKind} {x y : Int} {K : SV → Prop} {tk : Nat} (h0 : tok1 = tk) : ibin op k x k' y K = ibin op k x k' y K := rfl
@[congr] theorem tc_sbin {op : BinOp} {a b : SV} {K : SV → Prop} {tk : Nat} (h0 : tok1 = tk) : sbin op a b K = sbin op a b K := rfl
@[congr] theorem tc_sbinB {op : BinOp} {a b : SV} {K : SV → Prop} {tk : Nat} (h0 : tok1 = tk) : sbinB op a b K = sbinB op a b K := rfl
@[congr] theorem tc_sbinA {op : BinOp} {fs : List Nat} {a b : SV} {K : SV → Prop} {tk : Nat} (h0 : tok1 = tk) : sbinA op fs a b K = sbinA op fs a b K := rfl
@[congr] theorem tc_sbinP {op : BinOp} {a b : SV} {K : SV → Prop} {tk : Nat} (h0 : tok1 = tk) : sbinP op a b K = sbinP op a b K := rfl
@[congr] theorem tc_strbin {op : BinOp} {a b : ByteArray} {K : SV → Prop} {tk : Nat} (h0 : tok1 = tk) : strbin op a b K = strbin op a b K := rfl
@[congr] theorem tc_boolbin {op : BinOp} {a b : Bool} {K : SV → Prop} {tk : Nat} (h0 : tok1 = tk) : boolbin op a b K = boolbin op a b K := rfl
@[congr] theorem tc_ptrbin {op : BinOp} {a : Bool} {K : SV → Prop} {tk : Nat} (h0 : tok1 = tk) : ptrbin op a K = ptrbin op a K := rfl
@[congr] theorem tc_sun {op : UnOp} {a : SV} {K : SV → Prop} {tk : Nat} (h0 : tok1 = tk) : sun op a K = sun op a K := rfl
@[congr] theorem tc_asI {a : SV} {K : Int → Prop} {tk : Nat} (h0 : tok1 = tk) : asI a K = asI a K := rfl
@[congr] theorem tc_asB {a : SV} {K : Bool → Prop} {tk : Nat} (h0 : tok1 = tk) : asB a K = asB a K := rfl
@[congr] theorem tc_asS {a : SV} {K : ByteArray → Prop} {tk : Nat} (h0 : tok1 = tk) : asS a K = asS a K := rfl
@[congr] theorem tc_asP {a : SV} {K : Nat → Nat → Prop} {tk : Nat} (h0 : tok1 = tk) : asP a K = asP a K := rfl
@[congr] theorem tc_asSl {a : SV} {K : Nat → Nat → Nat → Nat → Prop} {tk : Nat} (h0 : tok1 = tk) : asSl a K = asSl a K := rfl
@[congr] theorem tc_asM {a : Body} {K : List (Value × Value) → Prop} {tk : Nat} (h0 : tok1 = tk) : asM a K = asM a K := rfl
@[congr] theorem tc_plV {a : SV} {K : Value → Prop} {tk : Nat} (h0 : tok1 = tk) : plV a K = plV a K := rfl
@[congr] theorem tc_mpOf {a : SV} {K : List (Value × Value) → Prop} {tk : Nat} (h0 : tok1 = tk) : mpOf H a K = mpOf H a K := rfl
@[congr] theorem tc_mpUp {a : SV} {K : Nat → List (Value × Value) → Prop} {tk : Nat} (h0 : tok1 = tk) : mpUp H a K = mpUp H a K := rfl
@[congr] theorem tc_asBy {a : Body} {K : List Int → Prop} {tk : Nat} (h0 : tok1 = tk) : asBy a K = asBy a K := rfl
@[congr] theorem tc_get {b b' : Body} {o o' : Nat} {K : SV → Prop} (h : b = b') (h2 : o = o') {tk : Nat} (h0 : tok1 = tk) : b.get o K = b'.get o' K := by rw [h, h2]
@[congr] theorem tc_getN {b b' : Body} {o o' m : Nat} {K : SV → Prop} (h : b = b') (h2 : o = o') {tk : Nat} (h0 : tok1 = tk) : b.getN o m K = b'.getN o' m K := by rw [h, h2]
@[congr] theorem tc_set {b b' : Body} {o o' : Nat} {a : SV} {K : Body → Prop} (h : b = b') (h2 : o = o') {tk : Nat} (h0 : tok1 = tk) : b.set o a K = b'.set o' a K := by rw [h, h2]
@[congr] theorem tc_setN {b b' : Body} {o o' m : Nat} {a : SV} {K : Body → Prop} (h : b = b') (h2 : o = o') {tk : Nat} (h0 : tok1 = tk) : b.setN o m a K = b'.setN o' m a K := by rw [h, h2]
@[congr] theorem tc_part {b b' : Body} {o o' m m' : Nat} {K : Body → Prop} (h : b = b') (h2 : o = o') (h3 : m = m') {tk : Nat} (h0 : tok1 = tk) : b.part o m K = b'.part o' m' K := by rw [h, h2, h3]
@[congr] theorem tc_cat {b b' c c' : Body} {K : Body → Prop} (h : b = b') (h2 : c = c') {tk : Nat} (h0 : tok1 = tk) : b.cat c K = b'.cat c' K := by rw [h, h2]
@[congr] theorem tc_over {b b' c c' : Body} {o o' : Nat} {K : Body → Prop} (h : b = b') (h2 : o = o') (h3 : c = c') {tk : Nat} (h0 : tok1 = tk) : b.over o c K = b'.over o' c' K := by rw [h, h2, h3]
@[congr] theorem tc_rowOf {i o m o' m' : Nat} {e : Body} {K : Body → Prop} (h2 : o = o') (h3 : m = m') {tk : Nat} (h0 : tok1 = tk) : rowOf H i o m e K = rowOf H i o' m' e K := by rw [h2, h3]
@[congr] theorem tc_fresh {b : Body} {K : Hp → Nat → Prop} {tk : Nat} (h0 : tok1 = tk) : fresh H n b K = fresh H n b K := rfl
@[congr] theorem tc_fldOf {a a' : SV} {off m : Nat} {ag : Bool} {K : SV → Prop} (h : a = a') {tk : Nat} (h0 : tok1 = tk) : fldOf a off m ag K = fldOf a' off m ag K := by rw [h]
@[congr] theorem tc_bnd {x : Option MA} {d : Int} {K : Int → Prop} {tk : Nat} (h0 : tok1 = tk) : bnd tm x d K = bnd tm x d K := rfl
@[congr] theorem tc_rsv {r : MR} {K : SV → Prop} {tk : Nat} (h0 : tok1 = tk) : rsv tm H r K = rsv tm H r K := rfl
@[congr] theorem tc_rsvs {r : List MR} {K : SV → Prop} {tk : Nat} (h0 : tok1 = tk) : rsvs tm H r K = rsvs tm H r K := rfl
@[congr] theorem tc_notTup {v : SV} {K : Prop} {tk : Nat} (h0 : tok1 = tk) : notTup v K = notTup v K := rfl
@[congr] theorem tc_stab {m : MOp} {H' : Hp} {tk : Nat} (h0 : tok1 = tk) : stab m tm H H' = stab m tm H H' := rfl
@[congr] theorem tc_kSeq {y : MC} {K : Ex → St → Prop} {e : Ex} {s : St} {tk : Nat} (h0 : tok1 = tk) : kSeq C base y K e s = kSeq C base y K e s := rfl
@[congr] theorem tc_kBlock {id : Nat} {K : Ex → St → Prop} {e : Ex} {s : St} {tk : Nat} (h0 : tok1 = tk) : kBlock id K e s = kBlock id K e s := rfl
@[congr] theorem tc_condK {b b' : Bool} {S T : Prop} (h : b = b') {tk : Nat} (h0 : tok1 = tk) : condK b S T = condK b' S T := by rw [h]
@[congr] theorem tc_Loops {body : St → (Ex → St → Prop) → Prop} {s : St} {K : Ex → St → Prop} {tk : Nat} (h0 : tok1 = tk) : Loops base body s K = Loops base body s K := rfl
@[congr] theorem tc_LoopU {body : St → (Ex → St → Prop) → Prop} {k : Nat} {s : St} {K : Ex → St → Prop} {tk : Nat} (h0 : tok1 = tk) : LoopU base body k s K = LoopU base body k s K := rfl
@[congr] theorem tc_kLoop {α : Type} {p : α → Prop} {I : α → St} {μ : α → Nat} {a : α} {K : Ex → St → Prop} {e : Ex} {s : St} {tk : Nat} (h0 : tok1 = tk) : kLoop base p I μ a K e s = kLoop base p I μ a K e s := rfl
@[congr] theorem tc_kRoll {body : St → (Ex → St → Prop) → Prop} {k : Nat} {K : Ex → St → Prop} {e : Ex} {s : St} {tk : Nat} (h0 : tok1 = tk) : kRoll base body k K e s = kRoll base body k K e s := rfl
@[congr] theorem tc_asN {a : SV} {K : SV → Prop} {tk : Nat} (h0 : tok1 = tk) : asN a K = asN a K := rfl
@[congr] theorem tc_asT {a : SV} {m : Nat} {K : SV → Prop} {tk : Nat} (h0 : tok1 = tk) : asT a m K = asT a m K := rfl
@[congr] theorem tc_aggOf {a : SV} {K : List SV → Prop} {tk : Nat} (h0 : tok1 = tk) : aggOf a K = aggOf a K := rfl
@[congr] theorem tc_freshR {b : Body} {T : Nat} {K : Hp → Nat → Prop} {tk : Nat} (h0 : tok1 = tk) : freshR H n b T K = freshR H n b T K := rfl
@[congr] theorem tc_freshT {b : Body} {T c : Nat} {K : Hp → Nat → Prop} {tk : Nat} (h0 : tok1 = tk) : freshT H n b T c K = freshT H n b T c K := rfl
@[congr] theorem tc_boxOf {a : SV} {K : Body → Prop} {tk : Nat} (h0 : tok1 = tk) : boxOf a K = boxOf a K := rfl
@[congr] theorem tc_appC {i o m q z : Nat} {e b1 b2 : Body} {K : SV → Hp → Nat → Prop} {tk : Nat} (h0 : tok1 = tk) : appC H n i o m q z e b1 b2 K = appC H n i o m q z e b1 b2 K := rfl
@[congr] theorem tc_appS {A B D : Prop} {tk : Nat} (h0 : tok1 = tk) : appS A B D = appS A B D := rfl
@[congr] theorem tc_callvK {g g' : SV} {l l' : List SV} {K : SV → Hp → Nat → Prop} (h : g = g') (h2 : l = l') {tk : Nat} (h0 : tok1 = tk) : callvK C g l H n K = callvK C g' l' H n K := by rw [h, h2]
@[congr] theorem tc_rfK {g g' : SV} {ps : List Nat} {N : Nat} {ma mb : MC} {s : St} {K : Ex → St → Prop} (h : g = g') {tk : Nat} (h0 : tok1 = tk) : rfK C g ps N ma mb s K = rfK C g' ps N ma mb s K := by rw [h]
@[congr] theorem tc_rfGo {b b' : Body} {K : Ex → St → Prop} (h : b = b') {tk : Nat} (h0 : tok1 = tk) : rfGo b tm H n K = rfGo b' tm H n K := by rw [h]
@[congr] theorem tc_yGo {b b' : Body} {K : Loop → LoopState → Option Code → List (Nat × SV) → Prop} (h : b = b') {tk : Nat} (h0 : tok1 = tk) : yGo b K = yGo b' K := by rw [h]
@[congr] theorem tc_yRdy {b b' : Body} {K : Loop → Option Code → List (Nat × SV) → Prop} (h : b = b') {tk : Nat} (h0 : tok1 = tk) : yRdy b K = yRdy b' K := by rw [h]
@[congr] theorem tc_yEnd {i : Nat} {K : SV → Hp → Nat → Prop} {e : Ex} {s : St} {tk : Nat} (h0 : tok1 = tk) : yEnd i K e s = yEnd i K e s := rfl
@[congr] theorem tc_yMid {i : Nat} {mb : MC} {m : Nat} {K : SV → Hp → Nat → Prop} {e : Ex} {s : St} {tk : Nat} (h0 : tok1 = tk) : yMid C m i mb K e s = yMid C m i mb K e s := rfl
@[congr] theorem tc_rfEnd {k : Nat} {K : Ex → St → Prop} {v : SV} {tk : Nat} (h0 : tok1 = tk) : rfEnd k tm K v H n = rfEnd k tm K v H n := rfl
def vk (v : SV) (K : SV → Prop) : Prop := K v
def hk (H : Hp) (K : Hp → Prop) : Prop := K H
def nk (n : Nat) (K : Nat → Prop) : Prop := K n
@[congr] theorem tc_vk {v v' : SV} {K : SV → Prop} (h : v = v') {tk : Nat} (h0 : tok1 = tk) : vk v K = vk v' K := by rw [h]
@[congr] theorem tc_hk {v v' : Hp} {K : Hp → Prop} (h : v = v') {tk : Nat} (h0 : tok1 = tk) : hk v K = hk v' K := by rw [h]
@[congr] theorem tc_nk {v v' : Nat} {K : Nat → Prop} (h : v = v') {tk : Nat} (h0 : tok1 = tk) : nk v K = nk v' K := by rw [h]
theorem vk_mk {v : SV} {K : SV → Prop} : vk v K = K v := rfl
theorem hk_mk {v : Hp} {K : Hp → Prop} : hk v K = K v := rfl
theorem nk_mk {v : Nat} {K : Nat → Prop} : nk v K = K v := rfl
def obC (x : Option (SV × Hp × Nat)) (K : SV → Hp → Nat → Prop) : Prop := ob x fun r => K r.1 r.2.1 r.2.2
@[congr] theorem tc_obC {x y : Option (SV × Hp × Nat)} {K : SV → Hp → Nat → Prop} (h : x = y) {tk : Nat} (h0 : tok1 = tk) : obC x K = obC y K := by rw [h]
theorem obC_mk {v : SV} {H' : Hp} {n' : Nat} {K : SV → Hp → Nat → Prop} : obC (some (v, H', n')) K = K v H' n' := rfl
theorem obC_of {x : Option (SV × Hp × Nat)} {v : SV} {H' : Hp} {n' : Nat} {K : SV → Hp → Nat → Prop} (h : x = some (v, H', n')) (hk : K v H' n') : obC x K := by rw [h]; exact hk
@[congr] theorem tc_callK {c c' : PT} {l : List SV} {K : SV → Hp → Nat → Prop} (h : c = c') {tk : Nat} (h0 : tok1 = tk) : callK c l H n K = callK c' l H n K := by rw [h]
theorem det_callP {c : Ctr} {l : List SV} {K : SV → Hp → Nat → Prop} : callK (det c) l H n K = obC (c l H n) K := det_call
theorem freshR_ev {b : Body} {T : Nat} {K : Hp → Nat → Prop} : freshR H n b T K = (n + 1 < 1000 ∧ hk ((H.put n ⟨true, b⟩).put (n + 1) ⟨false, .mp (.shp n T none)⟩) fun H => nk (n + 2) fun n => K H n) := rfl
theorem freshT_ev {b : Body} {T c : Nat} {K : Hp → Nat → Prop} : freshT H n b T c K = (n + 1 < 1000 ∧ hk ((H.put n ⟨true, b⟩).put (n + 1) ⟨false, .mp (.shp n T (some c))⟩) fun H => nk (n + 2) fun n => K H n) := rfl
theorem fresh_ev {b : Body} {K : Hp → Nat → Prop} : fresh H n b K = (n < 1000 ∧ hk (H.put n ⟨true, b⟩) fun H => nk (n + 1) fun n => K H n) := rfl
theorem V_ns {d : Nat} {o : MO} {K : List (Nat × SV) → Hp → Nat → Prop} : V C ⟨some d, o, none⟩ tm H n K = sop C tm H n o fun v H' n' => vk v fun v => hk H' fun H' => nk n' fun n' => K ((d, v) :: tm) H' n' := rfl
theorem V_nn {o : MO} {K : List (Nat × SV) → Hp → Nat → Prop} : V C ⟨none, o, none⟩ tm H n K = sop C tm H n o fun v H' n' => hk H' fun H' => nk n' fun n' => K tm H' n' := rfl
theorem V_gs {d : Nat} {o : MO} {t : Nat} {want : Bool} {K : List (Nat × SV) → Hp → Nat → Prop} : V C ⟨some d, o, some (t, want)⟩ tm H n K = ob (lk tm t) fun g => gd g want (sop C tm H n o fun v H' n' => vk v fun v => hk H' fun H' => nk n' fun n' => K ((d, v) :: tm) H' n') (K ((d, .v undef) :: tm) H n) := rfl
theorem V_gn {o : MO} {t : Nat} {want : Bool} {K : List (Nat × SV) → Hp → Nat → Prop} : V C ⟨none, o, some (t, want)⟩ tm H n K = ob (lk tm t) fun g => gd g want (sop C tm H n o fun v H' n' => hk H' fun H' => nk n' fun n' => K tm H' n') (K tm H n) := rfl
@[congr] theorem tc_nilK {i i' m m' : Nat} {T S : Prop} (h : i = i') (h2 : m = m') {tk : Nat} (h0 : tok1 = tk) : nilK H i m T S = nilK H i' m' T S := by rw [h, h2]
theorem numsOf_map {k : IntKind} : ∀ (ys : List Int), numsOf k (ys.map (Value.int k)) = some ys
  | [] => rfl
  | y :: ys => by simp only [List.map_cons, numsOf, numsOf_map ys, if_true]; rfl
theorem setN_intsv {k : IntKind} {ys : List Int} {vs : List Value} {o m : Nat} {K : Body → Prop} : (Body.ints k ys).setN o m (.v (.agg vs.toArray)) K = ob (numsOf k vs) fun zs => zs.length = m ∧ o + m ≤ ys.length ∧ K (.ints k (splice ys o zs)) := rfl
theorem setN_svai {k : IntKind} {cs : List SV} {zs : List Int} {o m : Nat} {K : Body → Prop} : (Body.sv cs).setN o m (.ai k zs) K = (zs.length = m ∧ o + m ≤ cs.length ∧ K (.sv (splice cs o (zs.map fun y => .v (.int k y))))) := rfl
theorem over_intsv {k : IntKind} {ys : List Int} {vs : List Value} {o : Nat} {K : Body → Prop} : (Body.ints k ys).over o (.pl vs) K = ob (numsOf k vs) fun zs => o + zs.length ≤ ys.length ∧ K (.ints k (splice ys o zs)) := rfl
theorem plsOf_nil : plsOf [] = some [] := rfl
theorem plsOf_map : ∀ (ys : List Value), plsOf (ys.map .v) = some ys
  | [] => rfl
  | y :: ys => by simp only [List.map_cons, plsOf, plsOf_map ys]; rfl
theorem intsOf_map {k : IntKind} : ∀ (ys : List Int), intsOf k (ys.map fun n => .v (.int k n)) = some ys
  | [] => rfl
  | y :: ys => by simp only [List.map_cons, intsOf, intsOf_map ys, if_true]; rfl
theorem bodyOf_pl {xs : List Value} {l : List SV} : bodyOf (.pl xs) l = (plsOf l).map .pl := rfl
theorem bodyOf_ints {k : IntKind} {xs : List Int} {l : List SV} : bodyOf (.ints k xs) l = (intsOf k l).map (.ints k) := rfl
theorem bodyOf_strs {xs : List ByteArray} {l : List SV} : bodyOf (.strs xs) l = (strsOf l).map .strs := rfl
theorem bodyOf_sv {xs : List SV} {l : List SV} : bodyOf (.sv xs) l = some (.sv l) := rfl
theorem part_aggv {l : List Value} : partCells (.v (.agg l.toArray)) = l.map .v := rfl
theorem part_agg {l : List SV} : partCells (.agg l) = l := rfl
theorem part_ai {k : IntKind} {l : List Int} : partCells (.ai k l) = l.map fun n => .v (.int k n) := rfl
theorem part_int {k : IntKind} {x : Int} : partCells (.v (.int k x)) = [.v (.int k x)] := rfl
theorem part_str {x : ByteArray} : partCells (.v (.string x)) = [.v (.string x)] := rfl
theorem part_bool {x : Bool} : partCells (.v (.bool x)) = [.v (.bool x)] := rfl
theorem part_sl {i o m z : Nat} : partCells (.sl i o m z) = [.sl i o m z] := rfl
theorem part_ptr {i o : Nat} : partCells (.ptr i o) = [.ptr i o] := rfl
theorem part_nil {x : Option Addr} : partCells (.v (.pointer x)) = [.v (.pointer x)] := rfl
theorem setN_plagg {xs : List Value} {ws : List SV} {o m : Nat} {K : Body → Prop} : (Body.pl xs).setN o m (.agg ws) K = ob (plsOf ws) fun zs => zs.all (·.oneCell') = true ∧ zs.length = m ∧ o + m ≤ xs.length ∧ K (.pl (splice xs o zs)) := rfl
theorem condK_dd {p : Prop} [Decidable p] {S T : Prop} (h1 : decide p = true → S) (h2 : decide p = false → T) : condK (decide p) S T := ⟨h1, h2⟩
theorem condK_nd {p : Prop} [Decidable p] {S T : Prop} (h1 : decide p = false → S) (h2 : decide p = true → T) : condK (!decide p) S T := by rw [condK_not]; exact ⟨h2, h1⟩
theorem condK_bb {b : Bool} {S T : Prop} (h1 : b = true → S) (h2 : b = false → T) : condK b S T := ⟨h1, h2⟩
theorem u_int {k : IntKind} {x : Int} : SV.one (.v (.int k x)) = true := rfl
theorem u_str {x : ByteArray} : SV.one (.v (.string x)) = true := rfl
theorem u_bool {x : Bool} : SV.one (.v (.bool x)) = true := rfl
theorem u_pnil {x : Option Addr} : SV.one (.v (.pointer x)) = true := rfl
theorem u_sl {i o m z : Nat} : SV.one (.sl i o m z) = true := rfl
theorem u_ptr {i o : Nat} : SV.one (.ptr i o) = true := rfl
theorem u_oci {k : IntKind} {x : Int} : Value.oneCell' (.int k x) = true := rfl
theorem u_ocs {x : ByteArray} : Value.oneCell' (.string x) = true := rfl
theorem evq_nil {top : Nat} : evq tm top [] = some [] := rfl
theorem evq_cons {top o z : Nat} {x : MA} {l : List (Nat × Nat × MA)} : evq tm top ((o, z, x) :: l) = (ev tm x).bind fun a => (evq tm top l).bind fun r => if (partCells a).length = z ∧ z ≠ 0 ∧ o + z ≤ top then some ((o, a) :: r) else none := by
  rw [evq]
  cases ev tm x with
  | none => rfl
  | some a => cases evq tm top l <;> rfl
theorem fillS_nil {l : List SV} : fillS l [] = l := rfl
theorem fillS_cons {l : List SV} {o : Nat} {a : SV} {r : List (Nat × SV)} : fillS l ((o, a) :: r) = fillS (splice l o (partCells a)) r := rfl
theorem splice_zero {α : Type} {l m : List α} : splice l 0 m = m ++ l.drop m.length := by simp [splice]
theorem splice_succ {α : Type} {a : α} {l m : List α} {o : Nat} : splice (a :: l) (o + 1) m = a :: splice l o m := by simp [splice, Nat.add_right_comm]
theorem setN_svagg {cs : List SV} {zs : List Value} {o m : Nat} {K : Body → Prop} : (Body.sv cs).setN o m (.v (.agg zs.toArray)) K = (zs.all (·.oneCell') = true ∧ zs.length = m ∧ o + m ≤ cs.length ∧ K (.sv (splice cs o (zs.map .v)))) := rfl
theorem setN_pl {xs ws : List Value} {o m : Nat} {K : Body → Prop} : (Body.pl xs).setN o m (.v (.agg ws.toArray)) K = (ws.all (·.oneCell') = true ∧ ws.length = m ∧ o + m ≤ xs.length ∧ K (.pl (splice xs o ws))) := rfl
theorem setN_plai {xs : List Value} {k : IntKind} {ws : List Int} {o m : Nat} {K : Body → Prop} : (Body.pl xs).setN o m (.ai k ws) K = (ws.length = m ∧ o + m ≤ xs.length ∧ K (.pl (splice xs o (ws.map (Value.int k))))) := rfl
theorem getN_pl {xs : List Value} {o m : Nat} {K : SV → Prop} : (Body.pl xs).getN o m K = (o + m ≤ xs.length ∧ K (.v (.agg ((xs.drop o).take m).toArray))) := rfl
theorem getN_strs {xs : List ByteArray} {o m : Nat} {K : SV → Prop} : (Body.strs xs).getN o m K = (o + m ≤ xs.length ∧ K (.v (.agg (((xs.drop o).take m).map Value.string).toArray))) := rfl
theorem set_pl {xs : List Value} {o : Nat} {v : Value} {K : Body → Prop} : (Body.pl xs).set o (.v v) K = (v.oneCell' = true ∧ o < xs.length ∧ K (.pl (xs.set o v))) := rfl
theorem u_ocb {x : Bool} : Value.oneCell' (.bool x) = true := rfl
theorem part_pl {xs : List Value} {o m : Nat} {K : Body → Prop} : (Body.pl xs).part o m K = (o + m ≤ xs.length ∧ K (.pl ((xs.drop o).take m))) := rfl
theorem cat_pl {xs ys : List Value} {K : Body → Prop} : (Body.pl xs).cat (.pl ys) K = K (.pl (xs ++ ys)) := rfl
theorem over_pl {xs ys : List Value} {o : Nat} {K : Body → Prop} : (Body.pl xs).over o (.pl ys) K = (o + ys.length ≤ xs.length ∧ K (.pl (splice xs o ys))) := rfl
theorem over_plints {xs : List Value} {k : IntKind} {ys : List Int} {o : Nat} {K : Body → Prop} : (Body.pl xs).over o (.ints k ys) K = (o + ys.length ≤ xs.length ∧ K (.pl (splice xs o (ys.map (Value.int k))))) := rfl
theorem ones_pl {xs : List Value} : (Body.pl xs).ones = (xs.all (·.oneCell') = true) := rfl
theorem cells_sv {l : List SV} : (Body.sv l).cells = l := rfl
theorem cells_ints {k : IntKind} {l : List Int} : (Body.ints k l).cells = l.map fun n => .v (.int k n) := rfl
theorem cells_strs {l : List ByteArray} : (Body.strs l).cells = l.map fun s => .v (.string s) := rfl
theorem cells_pl {l : List Value} : (Body.pl l).cells = l.map .v := rfl
theorem z_mm {mn : Bool} {x : MA} {xs : List MA} {K : SV → Hp → Nat → Prop} : sop C tm H n (.mm mn x xs) K = ob (ev tm x) fun a => ob (evs tm xs) fun l => ob (smms mn a l) fun c => K c H n := rfl
theorem smms_nil {mn : Bool} {a : SV} : smms mn a [] = some a := rfl
theorem smms_cons {mn : Bool} {a b : SV} {l : List SV} : smms mn a (b :: l) = (smm mn a b).bind fun c => smms mn c l := by
  rw [smms]; cases smm mn a b <;> rfl
theorem smm_min {k : IntKind} {x y : Int} : smm true (.v (.int k x)) (.v (.int k y)) = some (.v (.int k (min x y))) := by
  simp only [smm, if_true]; congr 3; split <;> omega
theorem smm_max {k : IntKind} {x y : Int} : smm false (.v (.int k x)) (.v (.int k y)) = some (.v (.int k (max x y))) := by
  simp only [smm, if_true, Bool.false_eq_true, if_false]; congr 3; split <;> omega
def zi (m : Nat) : List Int := List.replicate m 0
def zw : List Value := .int .i64 0 :: (zi 64).map (Value.int .u8)
def zws : List SV := zw.map .v
theorem zws_len : zws.length = 65 := rfl
theorem zw_len : zw.length = 65 := rfl
theorem zi_len (m : Nat) : (zi m).length = m := by simp [zi]
def CS (P : Program) : Tab := ⟨fun f => SpecK P f, fun i => SpecY P i, isLoop P⟩
theorem okCS {P : Program} (h : P.follows .mixedOrders = true) : OKT P (CS P) := ⟨⟨fun f => specK_ok, fun i => specY_ok⟩, fun f l H n K hk => hk.1, fun _ _ _ _ _ h => h, fun _ _ _ _ _ h => h, h⟩
theorem in_call {P : Program} (h : P.follows .mixedOrders = true) {f : Nat} {m : MFn} (hm : trFn P f = some m) {l : List SV} {K : SV → Hp → Nat → Prop} (hv : fnVC (CS P) m l H n K) : callK (CS P f) l H n K := call_in (okCS h) hm rfl hv
theorem app_kill {A B D : Prop} (h : A) : appS A B D := .inl h
theorem app_in {A B D : Prop} (h : B) : appS A B D := .inr (.inl h)
theorem app_keep {A B D : Prop} (h : D) : appS A B D := .inr (.inr h)
theorem rf_fn {g : Nat} {caps : List SV} {ps : List Nat} {N : Nat} {ma mb : MC} {K : Ex → St → Prop} (hn : n < 1000) (h : ∀ L : Loop, C.isL L N ps ma mb → callK (C g) (.yl n :: caps) (H.put n ⟨true, .mp (.loop L .ready none tm)⟩) (n + 1) (rfEnd n tm K)) : rfK C (.fn g caps) ps N ma mb ⟨tm, H, n⟩ K := ⟨hn, fun L hL => h L hL⟩
theorem rf_f {g : Nat} {ps : List Nat} {N : Nat} {ma mb : MC} {K : Ex → St → Prop} (hn : n < 1000) (h : ∀ L : Loop, C.isL L N ps ma mb → callK (C g) [.yl n] (H.put n ⟨true, .mp (.loop L .ready none tm)⟩) (n + 1) (rfEnd n tm K)) : rfK C (.v (.func (.func g) #[] #[])) ps N ma mb ⟨tm, H, n⟩ K := ⟨hn, fun L hL => h L hL⟩
theorem yvc_mk {C : Tab} {i : Nat} {args : List SV} {H : Hp} {n : Nat} {K : SV → Hp → Nat → Prop} {L : Loop} {pd : Option Code} {tm : List (Nat × SV)} {N : Nat} {ps : List Nat} {ma mb : MC} (hL : C.isL L N ps ma mb) (hg : H.get i = some ⟨true, .mp (.loop L .ready pd tm)⟩) (hl : args.length = ps.length) (hp : (ps.all fun p => decide (p < N)) = true)
    (h : vc C n ma ⟨putPs ps args tm, H, n⟩ (yMid C n i mb K)) : yVC C i args H n K := by
  unfold yVC
  rw [hg]
  exact ⟨rfl, N, ps, ma, mb, hL, hl, hp, h⟩
theorem at_yield {P : Program} (h : P.follows .mixedOrders = true) {i : Nat} {l : List SV} {K : SV → Hp → Nat → Prop} (hv : yVC (CS P) i l H n K) : callK ((CS P).y i) l H n K :=
  ⟨K, fun F w0 w ρ xs b hH hz hl hb => y_sound (okCS h).tab (okCS h).ent (okCS h).lps (okCS h).isl h hH hz hl hb hv, fun _ _ _ h => h⟩
theorem at_call {P : Program} {f : Nat} {m : MFn} (hm : trFn P f = some m) {l : List SV} {v : SV} {H' : Hp} {n' : Nat} {K : SV → Hp → Nat → Prop} (hs : SpecAt P f l H n v H' n') (hK : K v H' n') : callK (CS P f) l H n K := call_at hm rfl hs hK
end Go.Sx

/- What comes in: slices of bools. -/
set_option linter.unusedVariables false
set_option linter.unusedSimpArgs false
namespace Go.Sx
open Go.ChangeShapes Go.WideShapes Go.ChangeAt Go.RowKit Go.Deep
theorem hrel_row {W : World} {ρ : Nat → Loc} {n : Nat} {Hs : Hp} {a : Addr} {len cap z : Nat} {c : Array Value} {T : TypeId} {fr : Nat × Nat} {vs : List Value} {b : Body}
    (hH : HRel (· < W.heap.size) W ρ n Hs W) (hn : n < 1000) (hro : ∀ i s, Hs.get i = some s → s.wr = false)
    (hz0 : 0 < z) (hs : a.spot = none) (hb : W.heap[a.block]? = some (.cells c T fr)) (hl : len ≤ cap) (hvs : vs.length = cap * z) (hcell : ∀ i, i < vs.length → W.cell? (a.add i) = vs[i]?)
    (hlt : b.lt n = true) (hnm : ∀ es, b ≠ .mp es) (hcr : All2 (crel ρ) b.cells vs) :
    ∃ l, HRel (· < W.heap.size) W (upd ρ n l) (n + 1) (Hs.put n ⟨false, b⟩) W ∧ (∀ i s, (Hs.put n ⟨false, b⟩).get i = some s → s.wr = false) ∧ slrel l 0 len z (.slice (some a) len cap) := by
  have hro' : ∀ i s, (Hs.put n ⟨false, b⟩).get i = some s → s.wr = false := by
    intro i s h
    rw [Hp.get_put] at h
    split at h
    · cases h; rfl
    · exact hro i s h
  have hblk : a.block < W.heap.size := (Array.getElem?_eq_some_iff.1 hb).1
  have hlen := hcr.length
  have hsz : vs.length ≠ 0 → a.off + vs.length ≤ c.size := by
    intro h
    have := hcell (vs.length - 1) (by omega)
    rw [cell_at hs hb, List.getElem?_eq_getElem (by omega)] at this
    have := (Array.getElem?_eq_some_iff.1 this).1
    omega
  have hobj : ∀ l : Loc, l.ex = false → RowOK ρ W l false b.cells → ObjOK ρ W l ⟨false, b⟩ := by
    intro l hx h
    exact ObjOK.mk hnm h (exOK_ro hx)
  by_cases h00 : vs.length = 0
  · refine ⟨⟨some a.block, 0, 0, false, none⟩, hrel_in hH hn _ _ hlt (hobj _ rfl ?_) (fun k hk => by cases hk; exact hblk) hro, hro', ?_⟩
    · refine ⟨c, T, fr, hb, Nat.zero_le _, by rw [hlen, h00]; exact Nat.le_refl _, ?_, fun h => by cases h⟩
      intro j x hj
      have : j < b.cells.length := (List.getElem?_eq_some_iff.1 hj).1
      omega
    · by_cases hc : cap = 0
      · refine ⟨cap, a.off, hl, ⟨by simp [hc], fun e => by cases e⟩, fun h => absurd hc h, ?_⟩
        cases a; cases hs; rfl
      · rcases Nat.mul_eq_zero.1 (hvs ▸ h00) with h | h
        · exact absurd h hc
        · omega
  · refine ⟨⟨some a.block, a.off, cap * z, false, none⟩, hrel_in hH hn _ _ hlt (hobj _ rfl ?_) (fun k hk => by cases hk; exact hblk) hro, hro', ?_⟩
    · refine ⟨c, T, fr, hb, by simp only; have := hsz h00; omega, by simp only; omega, ?_, fun h => by cases h⟩
      intro j x hj
      have hj' : j < vs.length := by rw [← hlen]; exact (List.getElem?_eq_some_iff.1 hj).1
      obtain ⟨y, hy, hr⟩ := hcr.get hj
      exact ⟨y, by rw [← cell_at hs hb, hcell j hj', hy], hr⟩
    · refine ⟨cap, a.off, hl, ⟨by simp, fun e => by cases e⟩, fun h => by simp, ?_⟩
      cases a; cases hs; rfl
theorem in_bools {H : Type} {enc : TypeId × Value → H} {P : Program} {W : World} {b0 : Nat} {t e : TypeId} {v : Value} {d : DataW H} {ps : List MemPlace} {ρ : Nat → Loc} {n : Nat} {Hs : Hp}
    (ht : P.underlying t = some (.slice e)) (he : P.underlying e = some .bool) (hc : P.cellsOf e = 1) (hval : Value.okWide P W .any b0 t v)
    (h0 : DataW.Trod enc P W 0 (fun _ => true) true t v d ps) (hH : HRel (· < W.heap.size) W ρ n Hs W) (hn : n < 1000) (hro : ∀ i s, Hs.get i = some s → s.wr = false) :
    ∃ (l : Loc) (bs : List Bool) (m : Nat), HRel (· < W.heap.size) W (upd ρ n l) (n + 1) (Hs.put n ⟨false, .pl (bs.map Value.bool)⟩) W ∧ (∀ i s, (Hs.put n ⟨false, .pl (bs.map Value.bool)⟩).get i = some s → s.wr = false) ∧ slrel l 0 m 1 v ∧ m ≤ bs.length := by
  obtain ⟨a0, len, cap, rfl⟩ := okWide_slice ht hval
  obtain ⟨fuel, hf⟩ := h0
  rcases open_slice ht hf with ⟨hcs, hx⟩ | ⟨a, len', cap', m, n', D, Pl, hcs, _, hl, hm, hmm, hx, hall⟩
  · simp only [Value.cells] at hcs
    cases hcs
    refine ⟨⟨none, 0, 0, false, none⟩, [], 0, hrel_in hH hn _ _ rfl ⟨rfl, exOK_ro rfl⟩ (fun k hk => by cases hk) hro, ?_, ⟨rfl, .inl rfl⟩, Nat.le_refl _⟩
    intro i s h
    rw [Hp.get_put] at h
    split at h
    · cases h; rfl
    · exact hro i s h
  · simp only [Value.cells] at hcs
    cases hcs
    simp only [if_true] at hmm
    subst hmm
    obtain ⟨hs, c, T, fr, hb⟩ := spot_none ht hval
    have each : ∀ i, i < m → ∃ b, W.cell? (a.add i) = some (.bool b) := by
      intro i hi
      obtain ⟨cs', h1, h2⟩ := hall i hi
      obtain ⟨b, rfl, _⟩ := DataW.trod_bool he h2
      rw [hc, Nat.mul_one] at h1
      exact ⟨b, cell_of_cells?_one h1⟩
    obtain ⟨bs, hbl, hbs⟩ : ∃ bs : List Bool, bs.length = m ∧ ∀ i, i < m → W.cell? (a.add i) = some (.bool (bs.getD i false)) := by
      refine ⟨(List.range m).map fun i => (match W.cell? (a.add i) with
        | some (.bool b) => b
        | _ => false), by simp, fun i hi => ?_⟩
      obtain ⟨b, hbb⟩ := each i hi
      rw [List.getD_eq_getElem?_getD, List.getElem?_map, List.getElem?_range hi]
      simp only [Option.map_some, Option.getD_some, hbb]
    obtain ⟨l, g1, g2, g3⟩ := hrel_row (b := .pl (bs.map Value.bool)) (vs := bs.map Value.bool) (z := 1) hH hn hro (by decide) hs hb hl (by simp [hbl]) (fun i hi => by
      have hi' : i < bs.length := by simpa using hi
      rw [hbs i (by omega), List.getElem?_map, List.getD_eq_getElem?_getD, List.getElem?_eq_getElem hi']; rfl) rfl (by simp) (all2_v_mk _)
    exact ⟨l, bs, len, g1, g2, g3, by omega⟩
end Go.Sx

/- Contracts that come from elsewhere. -/
set_option linter.unusedVariables false
set_option linter.unusedSimpArgs false
namespace Go.Sx
open Go.RowKit
variable {P : Program} {F : Nat → Prop} {w0 w : World} {ρ : Nat → Loc} {n : Nat} {H : Hp} {tm : List (Nat × SV)} {a : Act} {C : Tab}
theorem spec_of_ctr {f : Nat} {c : Ctr} {args : List SV} {v : SV} {H' : Hp} {n' : Nat} (h : CtrOK P f (det c)) (hc : c args H n = some (v, H', n')) : SpecAt P f args H n v H' n' := by
  intro F w0 w ρ xs hH hz hl
  refine (h args H n (fun v1 H1 n1 => v1 = v ∧ H1 = H' ∧ n1 = n') (by unfold det; rw [hc]; exact ⟨rfl, rfl, rfl⟩) F w0 w ρ xs hH hz hl).mono ?_
  rintro e w' ⟨x, v1, H1, n1, ρ', ⟨rfl, rfl, rfl⟩, he, h⟩
  exact ⟨x, ρ', he, h⟩
theorem HRel.below {w' : World} (h : HRel F w0 ρ n H w) (hb : Below w.heap.size w w') : HRel F w0 ρ n H w' := h.grow hb.os hb.tape hb.output hb.size hb.block
theorem spec_plain {f : Nat} {xs : List Value} {v : Value} (h : ∀ w, Calls P f xs.toArray w fun e w' => e = .returned v ∧ Below w.heap.size w w') : SpecAt P f (xs.map .v) H n (.v v) H n := by
  intro F w0 w ρ ys hH hz hl
  have hy : ys = xs := by
    rw [All2.map_left] at hz
    clear hl h
    induction xs generalizing ys with
    | nil => cases ys with
      | nil => rfl
      | cons => exact hz.elim
    | cons x xs ih => cases ys with
      | nil => exact hz.elim
      | cons y ys =>
        obtain ⟨h1, h2⟩ := hz
        have h1 : y = x := h1
        rw [h1, ih _ h2]
  subst hy
  refine (h w).mono ?_
  rintro e w' ⟨rfl, hb⟩
  exact ⟨v, ρ, rfl, rfl, rfl, hH.below hb, Ext.refl _ _, Nat.le_refl _⟩
theorem at_ext {f : Nat} (he : ∃ fn, P.funcs[f]? = some fn ∧ fn.body.isSome = true ∧ (fn.name != "runtime.NumGoroutine") = true) {l : List SV} {v : SV} {H' : Hp} {n' : Nat} {K : SV → Hp → Nat → Prop} (hs : SpecAt P f l H n v H' n') (hK : K v H' n') : callK (CS P f) l H n K := by
  refine ⟨K, ⟨he, fun F w0 w ρ xs hH hz hl => (hs F w0 w ρ xs hH hz hl).mono ?_⟩, fun _ _ _ h => h⟩
  rintro e w' ⟨x, ρ', rfl, h⟩
  exact ⟨x, v, H', n', ρ', hK, rfl, h⟩
theorem enters_mk {f : Nat} {fn : Func} (h : P.funcs[f]? = some fn) (hb : fn.body.isSome = true) (hn : (fn.name != "runtime.NumGoroutine") = true) : ∃ fn, P.funcs[f]? = some fn ∧ fn.body.isSome = true ∧ (fn.name != "runtime.NumGoroutine") = true := ⟨fn, h, hb, hn⟩
theorem btx {l : List Int} (h : ∀ y ∈ l, 0 ≤ y ∧ y ≤ 255) : bts (tx l) = l := by
  unfold bts tx
  simp only [List.map_map]
  conv => rhs; rw [← List.map_id l]
  refine List.map_congr_left fun y hy => ?_
  obtain ⟨h0, h1⟩ := h y hy
  simp only [Function.comp_def, id]
  rw [UInt8.toNat_ofNat']
  omega
theorem tx_sz (l : List Int) : (tx l).size = l.length := by simp [tx, ByteArray.size]
open Go.ChangeShapes Go.WideShapes Go.ChangeAt Go.Deep in
theorem in_ints2 {H0 : Type} {enc : TypeId × Value → H0} {W : World} {b0 t e : TypeId} {P : Program} {v : Value} {d : DataW H0} {ps : List MemPlace} {ρ : Nat → Loc} {n : Nat} {Hs : Hp} {k : IntKind}
    (ht : P.underlying t = some (.slice e)) (he : P.underlying e = some (.int k)) (hc : P.cellsOf e = 1) (hval : Value.okWide P W .any b0 t v)
    (h0 : DataW.Trod enc P W 0 (fun _ => true) true t v d ps) (hH : HRel (· < W.heap.size) W ρ n Hs W) (hn : n < 1000) (hro : ∀ i s, Hs.get i = some s → s.wr = false) :
    ∃ (l : Loc) (zs : List Int) (m : Nat), HRel (· < W.heap.size) W (upd ρ n l) (n + 1) (Hs.put n ⟨false, .ints k zs⟩) W ∧ (∀ i s, (Hs.put n ⟨false, .ints k zs⟩).get i = some s → s.wr = false) ∧ slrel l 0 m 1 v ∧ m ≤ zs.length ∧
      (∀ z ∈ zs, (Lit.int k z).wf = true) ∧ ((d = .nil ∧ zs = []) ∨ d = .slice (lits k (zs.take m)) (lits k (zs.drop m))) := by
  obtain ⟨a0, len, cap, rfl⟩ := okWide_slice ht hval
  obtain ⟨fuel, hf⟩ := h0
  rcases open_ints ht he hc hf with ⟨hcs, hx⟩ | ⟨a, len', cap', zs, hcs, _, hl, hm, hz, hx, hcell, hws⟩
  · simp only [Value.cells] at hcs
    cases hcs
    cases hx
    refine ⟨⟨none, 0, 0, false, none⟩, [], 0, hrel_in hH hn _ _ rfl ⟨rfl, exOK_ro rfl⟩ (fun k hk => by cases hk) hro, ?_, ⟨rfl, .inl rfl⟩, Nat.le_refl _, (fun z h => by cases h), .inl ⟨rfl, rfl⟩⟩
    intro i s h
    rw [Hp.get_put] at h
    split at h
    · cases h; rfl
    · exact hro i s h
  · simp only [Value.cells] at hcs
    cases hcs
    cases hx
    replace hz : zs.length = cap := by simpa using hz
    obtain ⟨hs, c, T, fr, hb⟩ := spot_none ht hval
    obtain ⟨l, g1, g2, g3⟩ := hrel_row (b := .ints k zs) (vs := zs.map (Value.int k)) (z := 1) hH hn hro (by decide) hs hb hl (by simp [hz]) (fun i hi => by
      have hi' : i < zs.length := by simpa using hi
      rw [hcell i hi', List.getElem?_map, List.getD_eq_getElem?_getD, List.getElem?_eq_getElem hi']; rfl) rfl (by simp) (by
        have := all2_v_mk (ρ := ρ) (zs.map (Value.int k)); simpa [Body.cells, Function.comp_def] using this)
    exact ⟨l, zs, len, g1, g2, g3, by omega, hws, .inr rfl⟩
end Go.Sx
