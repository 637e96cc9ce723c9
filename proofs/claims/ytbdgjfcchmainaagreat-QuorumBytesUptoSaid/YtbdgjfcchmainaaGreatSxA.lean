/- Which package-level variables are known (none). -/
import Derived.Calls
import Derived.Orders
import Derived.Laws.Sem
import Derived.Laws.World
import Derived.Laws.Rows
import Derived.Laws.Small
import Derived.Below
import Derived.MapKept
import Derived.RangeFuncLeaves
import Derived.OrdersIn
import Derived.Laws.Cover3
import Derived.Laws.BytesString
import Derived.Laws.Slices
import Derived.Laws.StructEq
import Derived.Laws.MakeOwn

namespace Go.Sx
def GU (_ : Nat) : Bool := false
end Go.Sx

/- Symbolic values, a symbolic heap with concrete ids, and how they stand to a world. -/
set_option linter.unusedVariables false
namespace Go.Sx
inductive SV where
  | v (x : Value)
  | ptr (i o : Nat)
  | sl (i o n z : Nat)
  | mp (i : Nat)
  | yl (i : Nat)
  | fn (f : Nat) (caps : List SV)
  | agg (cs : List SV)
  | ai (k : IntKind) (ys : List Int)
  | tup (cs : List SV)
structure Loc where
  blk : Option Nat
  off : Nat
  size : Nat
  ex : Bool
  sh : Option (Nat × Nat) := none
inductive Sp where
  | map (es : List (Value × Value))
  | loop (L : Loop) (st : LoopState) (pd : Option Code) (tm : List (Nat × SV))
  | shp (i T : Nat) (c : Option Nat)
  | frz (T : Nat) (ys : List Int)
inductive Body where
  | ints (k : IntKind) (ys : List Int)
  | strs (ss : List ByteArray)
  | pl (xs : List Value)
  | sv (cs : List SV)
  | mp (es : Sp)
structure SO where
  wr : Bool
  b : Body
structure Hp where
  l : List (Nat × Option SO)
  x : Nat → Option SO
def lk {α : Type} : List (Nat × α) → Nat → Option α
  | [], _ => none
  | (k, v) :: r, t => if k = t then some v else lk r t
def Hp.get (H : Hp) (i : Nat) : Option SO := match lk H.l i with
  | some r => r
  | none => H.x i
def Hp.put (H : Hp) (i : Nat) (s : SO) : Hp := { H with l := (i, some s) :: H.l }
def Hp.del (H : Hp) (i : Nat) : Hp := { H with l := (i, none) :: H.l }
theorem Hp.get_put (H : Hp) (i j : Nat) (s : SO) : (H.put i s).get j = if i = j then some s else H.get j := by
  unfold Hp.get Hp.put; simp only [lk]
  by_cases h : i = j
  · simp [h]
  · simp [h]
theorem Hp.get_del (H : Hp) (i j : Nat) : (H.del i).get j = if i = j then none else H.get j := by
  unfold Hp.get Hp.del; simp only [lk]
  by_cases h : i = j
  · simp [h]
  · simp [h]
theorem lk_mem {α : Type} {l : List (Nat × α)} {i : Nat} {x : α} (h : lk l i = some x) : (i, x) ∈ l := by
  induction l with
  | nil => cases h
  | cons p r ih =>
    obtain ⟨k, v⟩ := p
    simp only [lk] at h
    split at h
    · rename_i e; subst e; cases h; exact List.mem_cons_self ..
    · exact List.mem_cons_of_mem _ (ih h)
def All2 {α β : Type} (R : α → β → Prop) : List α → List β → Prop
  | [], [] => True
  | a :: l, b :: m => R a b ∧ All2 R l m
  | _, _ => False
theorem All2.mono {α β : Type} {R R' : α → β → Prop} : ∀ {l : List α} {m : List β}, (∀ a b, a ∈ l → R a b → R' a b) → All2 R l m → All2 R' l m
  | [], [], _, _ => trivial
  | a :: l, b :: m, h, ⟨h1, h2⟩ => ⟨h a b (List.mem_cons_self ..) h1, All2.mono (fun a b ha => h a b (List.mem_cons_of_mem _ ha)) h2⟩
theorem All2.length {α β : Type} {R : α → β → Prop} : ∀ {l : List α} {m : List β}, All2 R l m → l.length = m.length
  | [], [], _ => rfl
  | a :: l, b :: m, ⟨_, h2⟩ => by simp [All2.length h2]
theorem All2.get {α β : Type} {R : α → β → Prop} : ∀ {l : List α} {m : List β} {j : Nat} {a : α}, All2 R l m → l[j]? = some a → ∃ b, m[j]? = some b ∧ R a b
  | a :: l, b :: m, 0, x, ⟨h1, h2⟩, e => by simp at e; subst e; exact ⟨b, rfl, h1⟩
  | a :: l, b :: m, j + 1, x, ⟨h1, h2⟩, e => by simp at e; simpa using All2.get h2 e
theorem All2.of_get {α β : Type} {R : α → β → Prop} : ∀ {l : List α} {m : List β}, l.length = m.length → (∀ (j : Nat) (a : α), l[j]? = some a → ∃ b, m[j]? = some b ∧ R a b) → All2 R l m
  | [], [], _, _ => trivial
  | a :: l, b :: m, hl, h => by
    refine ⟨?_, All2.of_get (by simpa using hl) fun j x hx => ?_⟩
    · obtain ⟨b', e, hr⟩ := h 0 a rfl
      simp at e; subst e; exact hr
    · simpa using h (j + 1) x (by simpa using hx)
  | [], _ :: _, hl, _ => by simp at hl
  | _ :: _, [], hl, _ => by simp at hl
theorem All2.map_left {α β γ : Type} {R : α → β → Prop} {f : γ → α} : ∀ {l : List γ} {m : List β}, All2 R (l.map f) m ↔ All2 (fun c b => R (f c) b) l m
  | [], [] => Iff.rfl
  | a :: l, b :: m => by simp only [List.map, All2]; exact and_congr Iff.rfl All2.map_left
  | [], _ :: _ => Iff.rfl
  | _ :: _, [] => Iff.rfl
theorem All2.append {α β : Type} {R : α → β → Prop} : ∀ {l : List α} {m : List β} {l' : List α} {m' : List β}, All2 R l m → All2 R l' m' → All2 R (l ++ l') (m ++ m')
  | [], [], _, _, _, h => h
  | _ :: _, _ :: _, _, _, ⟨h1, h2⟩, h => ⟨h1, All2.append h2 h⟩
theorem All2.drop {α β : Type} {R : α → β → Prop} : ∀ {l : List α} {m : List β} (n : Nat), All2 R l m → All2 R (l.drop n) (m.drop n)
  | _, _, 0, h => h
  | [], [], _ + 1, _ => trivial
  | _ :: _, _ :: _, n + 1, ⟨_, h⟩ => All2.drop n h
theorem All2.take {α β : Type} {R : α → β → Prop} : ∀ {l : List α} {m : List β} (n : Nat), All2 R l m → All2 R (l.take n) (m.take n)
  | _, _, 0, _ => by simp [All2]
  | [], [], _ + 1, _ => trivial
  | _ :: _, _ :: _, n + 1, ⟨h1, h⟩ => ⟨h1, All2.take n h⟩
def slno (s : Nat) (y : Value) : Prop := y = .slice none 0 0 ∨ (s ≠ 0 ∧ ∃ a, y = .slice (some a) 0 0)
theorem slno.form {s : Nat} {y : Value} (h : slno s y) : ∃ a, y = .slice a 0 0 := by
  rcases h with h | ⟨_, a, h⟩
  · exact ⟨_, h⟩
  · exact ⟨_, h⟩
theorem slno.zero {y : Value} (h : slno 0 y) : y = .slice none 0 0 := by
  rcases h with h | ⟨h, _⟩
  · exact h
  · exact absurd rfl h
def Loc.has (l : Loc) (k : Nat) : Prop := k ≤ l.size ∧ (l.ex = true → k = l.size)
def slrel (l : Loc) (o n z : Nat) (y : Value) : Prop := match l.blk with
  | none => n = 0 ∧ slno l.size y
  | some b => ∃ c a, n ≤ c ∧ l.has (o + c * z) ∧ (c ≠ 0 → a = l.off + o) ∧ y = .slice (some ⟨b, a, none⟩) n c
def arel (ρ : Nat → Loc) : SV → Value → Prop
  | .v x, y => y = x
  | .ptr i o, y => ∃ b, (ρ i).blk = some b ∧ y = .pointer (some ⟨b, (ρ i).off + o, none⟩)
  | .sl i o n z, y => slrel (ρ i) o n z y
  | .mp i, y => ∃ b, (ρ i).blk = some b ∧ y = .map (some b)
  | .yl i, y => ∃ b, (ρ i).blk = some b ∧ y = .func (.yield b) #[] #[]
  | _, _ => False
def crel (ρ : Nat → Loc) : SV → Value → Prop
  | .fn f caps, y => ∃ ys : List Value, y = .func (.func f) #[] ys.toArray ∧ All2 (arel ρ) caps ys
  | c, y => arel ρ c y
def srel (ρ : Nat → Loc) : SV → Value → Prop
  | .agg cs, y => ∃ ys : List Value, y = .agg ys.toArray ∧ All2 (crel ρ) cs ys
  | .ai k ns, y => y = .agg (ns.map (Value.int k)).toArray
  | c, y => crel ρ c y
def rel (ρ : Nat → Loc) : SV → Value → Prop
  | .tup cs, y => ∃ ys : List Value, y = .tuple ys.toArray ∧ All2 (srel ρ) cs ys
  | c, y => srel ρ c y
def Body.cells : Body → List SV
  | .ints k ys => ys.map fun n => .v (.int k n)
  | .strs ss => ss.map fun s => .v (.string s)
  | .pl xs => xs.map .v
  | .sv cs => cs
  | .mp _ => []
def RowOK (ρ : Nat → Loc) (w : World) (l : Loc) (wr : Bool) (cells : List SV) : Prop := match l.blk with
  | none => cells = []
  | some b => ∃ c T fr, w.heap[b]? = some (.cells c T fr) ∧ l.off + l.size ≤ c.size ∧ cells.length ≤ l.size ∧
      (∀ j x, cells[j]? = some x → ∃ y, c[l.off + j]? = some y ∧ crel ρ x y) ∧
      (wr = true → ∀ j, j < l.size → ¬ (fr.1 ≤ l.off + j ∧ l.off + j < fr.2))
def MapOK (w : World) (l : Loc) (es : List (Value × Value)) : Prop :=
  ∃ b ents clk, l.blk = some b ∧ w.heap[b]? = some (.map ents clk) ∧ ents.toList.map (fun e => (e.key, e.val)) = es ∧ MapKept.Stamped ents clk
def LpOK (ρ : Nat → Loc) (w : World) (l : Loc) (L : Loop) (st : LoopState) (pd : Option Code) (tm : List (Nat × SV)) : Prop :=
  ∃ b, l.blk = some b ∧ w.heap[b]? = some (.loop { L with state := st, pending := pd }) ∧ ∀ t v, lk tm t = some v → ∃ x, L.tmps[t]? = some x ∧ rel ρ v x
def Body.isS : Body → Bool
  | .strs _ => true
  | _ => false
def exOK (l : Loc) (wr : Bool) (b : Body) : Prop := l.blk ≠ none → if b.isS then (wr = true → l.ex = true) else l.ex = false
def ShAt (l : Loc) (T : Nat) (c : Option Nat) : Prop := l.blk ≠ none → l.off = 0 ∧ ∃ k, l.sh = some (T, k) ∧ ∀ q, c = some q → q = k
def FrzOK (w : World) (l : Loc) (T : Nat) (ys : List Int) : Prop :=
  ∃ b c fr, l.blk = some b ∧ w.heap[b]? = some (.cells c T fr) ∧ l.off = 0 ∧ ys.length ≤ c.size ∧ (∀ (j : Nat) (y : Int), ys[j]? = some y → c[j]? = some (.int .u8 y)) ∧ fr.1 = 0 ∧ ys.length ≤ fr.2
def ObjOK (ρ : Nat → Loc) (w : World) (l : Loc) (s : SO) : Prop := match s.b with
  | .mp (.map es) => MapOK w l es
  | .mp (.loop L st pd tm) => LpOK ρ w l L st pd tm
  | .mp (.shp i T c) => l.blk = none ∧ ShAt (ρ i) T c
  | .mp (.frz T ys) => FrzOK w l T ys
  | b => RowOK ρ w l s.wr b.cells ∧ exOK l s.wr b
theorem ObjOK.mk {ρ : Nat → Loc} {w : World} {l : Loc} {s : SO} (hm : ∀ es, s.b ≠ .mp es) (h : RowOK ρ w l s.wr s.b.cells) (hx : exOK l s.wr s.b) : ObjOK ρ w l s := by
  obtain ⟨wr, b⟩ := s
  cases b <;> first | exact ⟨h, hx⟩ | exact absurd rfl (hm _)
theorem ObjOK.row {ρ : Nat → Loc} {w : World} {l : Loc} {s : SO} (hm : ∀ es, s.b ≠ .mp es) (h : ObjOK ρ w l s) : RowOK ρ w l s.wr s.b.cells ∧ exOK l s.wr s.b := by
  obtain ⟨wr, b⟩ := s
  cases b <;> first | exact h | exact absurd rfl (hm _)
def idOK (n i : Nat) : Bool := decide (i < n) || decide (1000 ≤ i)
def ltA (n : Nat) : SV → Bool
  | .v _ => true
  | .ptr i _ => idOK n i
  | .sl i _ _ _ => idOK n i
  | .mp i => idOK n i
  | .yl i => idOK n i
  | _ => false
def ltB (n : Nat) : SV → Bool
  | .fn _ caps => caps.all (ltA n)
  | c => ltA n c
def ltC (n : Nat) : SV → Bool
  | .agg cs => cs.all (ltB n)
  | .ai _ _ => true
  | c => ltB n c
def ltT (n : Nat) : SV → Bool
  | .tup cs => cs.all (ltC n)
  | c => ltC n c
def Body.lt (n : Nat) : Body → Bool
  | .sv cs => cs.all (ltB n)
  | .mp (.loop _ _ _ tm) => tm.all fun p => match lk tm p.1 with
    | some v => ltT n v
    | none => true
  | .mp (.shp i _ _) => idOK n i
  | _ => true
theorem lt_loop {n : Nat} {L : Loop} {st : LoopState} {pd : Option Code} {tm : List (Nat × SV)} : (Body.mp (.loop L st pd tm)).lt n = true ↔ ∀ t v, lk tm t = some v → ltT n v = true := by
  simp only [Body.lt, List.all_eq_true]
  constructor
  · intro h t v hv
    have := h (t, v) (lk_mem hv)
    simp only [hv] at this
    exact this
  · rintro h ⟨t, v⟩ hm
    cases e : lk tm t with
    | none => rfl
    | some u => exact h t u e
def Ext (n : Nat) (ρ ρ' : Nat → Loc) : Prop := ∀ i, idOK n i = true → ρ' i = ρ i
theorem Ext.refl (n : Nat) (ρ : Nat → Loc) : Ext n ρ ρ := fun _ _ => rfl
theorem idOK_mono {n m i : Nat} (h : n ≤ m) (hi : idOK n i = true) : idOK m i = true := by
  unfold idOK at *; simp at *; omega
theorem Ext.mono {n m : Nat} {ρ ρ' : Nat → Loc} (h : Ext m ρ ρ') (hn : n ≤ m) : Ext n ρ ρ' := fun i hi => h i (idOK_mono hn hi)
theorem Ext.trans {n m : Nat} {ρ ρ' ρ'' : Nat → Loc} (h : Ext n ρ ρ') (h' : Ext m ρ' ρ'') (hn : n ≤ m) : Ext n ρ ρ'' :=
  fun i hi => (h' i (idOK_mono hn hi)).trans (h i hi)
theorem arel_ext {n : Nat} {ρ ρ' : Nat → Loc} (h : Ext n ρ ρ') {c : SV} {y : Value} (hl : ltA n c = true) : arel ρ c y → arel ρ' c y := by
  cases c <;> simp only [arel, ltA] at * <;> first | exact id | (intro hh; rw [h _ hl]; exact hh) | exact False.elim
theorem crel_ext {n : Nat} {ρ ρ' : Nat → Loc} (h : Ext n ρ ρ') {c : SV} {y : Value} (hl : ltB n c = true) : crel ρ c y → crel ρ' c y := by
  cases c
  case fn f caps =>
    rintro ⟨ys, e, ha⟩
    refine ⟨ys, e, All2.mono (fun a b hab => arel_ext h ?_) ha⟩
    exact List.all_eq_true.1 hl a hab
  all_goals (simp only [crel, ltB] at *; exact arel_ext h hl)
theorem srel_ext {n : Nat} {ρ ρ' : Nat → Loc} (h : Ext n ρ ρ') {c : SV} {y : Value} (hl : ltC n c = true) : srel ρ c y → srel ρ' c y := by
  cases c
  case agg cs =>
    rintro ⟨ys, e, ha⟩
    refine ⟨ys, e, All2.mono (fun a b hab => crel_ext h ?_) ha⟩
    exact List.all_eq_true.1 hl a hab
  case ai => exact id
  all_goals (simp only [srel, ltC] at *; exact crel_ext h hl)
theorem rel_ext {n : Nat} {ρ ρ' : Nat → Loc} (h : Ext n ρ ρ') {c : SV} {y : Value} (hl : ltT n c = true) : rel ρ c y → rel ρ' c y := by
  cases c
  case tup cs =>
    rintro ⟨ys, e, ha⟩
    refine ⟨ys, e, All2.mono (fun a b hab => srel_ext h ?_) ha⟩
    exact List.all_eq_true.1 hl a hab
  all_goals (simp only [rel, ltT] at *; exact srel_ext h hl)
theorem ltA_mono {n m : Nat} (h : n ≤ m) {c : SV} (hl : ltA n c = true) : ltA m c = true := by
  cases c <;> simp only [ltA] at * <;> first | exact idOK_mono h hl | exact hl
theorem ltB_mono {n m : Nat} (h : n ≤ m) {c : SV} (hl : ltB n c = true) : ltB m c = true := by
  cases c
  case fn f caps => simp only [ltB, List.all_eq_true] at *; exact fun x hx => ltA_mono h (hl x hx)
  all_goals (simp only [ltB] at *; exact ltA_mono h hl)
theorem ltC_mono {n m : Nat} (h : n ≤ m) {c : SV} (hl : ltC n c = true) : ltC m c = true := by
  cases c
  case agg cs => simp only [ltC, List.all_eq_true] at *; exact fun x hx => ltB_mono h (hl x hx)
  case ai => rfl
  all_goals (simp only [ltC] at *; exact ltB_mono h hl)
theorem ltT_mono {n m : Nat} (h : n ≤ m) {c : SV} (hl : ltT n c = true) : ltT m c = true := by
  cases c
  case tup cs => simp only [ltT, List.all_eq_true] at *; exact fun x hx => ltC_mono h (hl x hx)
  all_goals (simp only [ltT] at *; exact ltC_mono h hl)
theorem Body.lt_mono {n m : Nat} (h : n ≤ m) {b : Body} (hl : b.lt n = true) : b.lt m = true := by
  rcases b with _ | _ | _ | _ | (_ | _ | _ | _)
  case mp.loop => exact lt_loop.2 fun t v hv => ltT_mono h (lt_loop.1 hl t v hv)
  case mp.shp => exact idOK_mono h hl
  all_goals
    simp only [Body.lt, List.all_eq_true] at *
    try exact fun x hx => ltB_mono h (hl x hx)
theorem Body.lt_cells {n : Nat} {b : Body} (hl : b.lt n = true) {x : SV} (hx : x ∈ b.cells) : ltB n x = true := by
  rcases b with _ | _ | _ | _ | (_ | _ | _ | _) <;> simp only [Body.lt, Body.cells, List.all_eq_true, List.mem_map] at *
  · obtain ⟨a, _, rfl⟩ := hx; rfl
  · obtain ⟨a, _, rfl⟩ := hx; rfl
  · obtain ⟨a, _, rfl⟩ := hx; rfl
  · exact hl x hx
  · simp at hx
  · simp at hx
  · simp at hx
  · simp at hx
theorem RowOK.ext {n : Nat} {ρ ρ' : Nat → Loc} (h : Ext n ρ ρ') {w : World} {l : Loc} {wr : Bool} {cells : List SV} (hl : ∀ x ∈ cells, ltB n x = true) : RowOK ρ w l wr cells → RowOK ρ' w l wr cells := by
  unfold RowOK
  cases l.blk with
  | none => exact id
  | some b =>
    rintro ⟨c, T, fr, h1, h2, h3, h4, h5⟩
    exact ⟨c, T, fr, h1, h2, h3, fun j x hx => by
      obtain ⟨y, e, hr⟩ := h4 j x hx
      exact ⟨y, e, crel_ext h (hl x (List.mem_of_getElem? hx)) hr⟩, h5⟩
theorem ObjOK.ext {n : Nat} {ρ ρ' : Nat → Loc} (h : Ext n ρ ρ') {w : World} {l : Loc} {s : SO} (hl : s.b.lt n = true) : ObjOK ρ w l s → ObjOK ρ' w l s := by
  unfold ObjOK
  rcases hb : s.b with _ | _ | _ | _ | (_ | _ | _ | _) <;> simp only [] <;> first
    | exact id
    | exact fun hh => ⟨RowOK.ext h (fun x hx => Body.lt_cells (hb ▸ hl) hx) hh.1, hh.2⟩
    | (rintro ⟨b, h1, h2, h3⟩
       refine ⟨b, h1, h2, fun t v hv => ?_⟩
       obtain ⟨x, e1, e2⟩ := h3 t v hv
       rw [hb] at hl
       exact ⟨x, e1, rel_ext h (lt_loop.1 hl t v hv) e2⟩)
    | (rw [hb] at hl
       rw [h _ hl]; exact id)
theorem RowOK.world {ρ : Nat → Loc} {w w' : World} {l : Loc} {wr : Bool} {cs : List SV} (h : ∀ b, l.blk = some b → w'.heap[b]? = w.heap[b]?) : RowOK ρ w l wr cs → RowOK ρ w' l wr cs := by
  unfold RowOK
  cases hb : l.blk with
  | none => exact id
  | some b => simp only [h b hb]; exact id
theorem ObjOK.world {ρ : Nat → Loc} {w w' : World} {l : Loc} {s : SO} (h : ∀ b, l.blk = some b → w'.heap[b]? = w.heap[b]?) : ObjOK ρ w l s → ObjOK ρ w' l s := by
  unfold ObjOK
  rcases hs : s.b with _ | _ | _ | _ | (_ | _ | _ | _) <;> simp only [] <;> first
    | exact fun hh => ⟨RowOK.world h hh.1, hh.2⟩
    | (rintro ⟨b, h1, h2, h3⟩; exact ⟨b, h1, by rw [h b h1]; exact h2, h3⟩)
    | (rintro ⟨b, ents, clk, h1, h2, h3⟩; exact ⟨b, ents, clk, h1, by rw [h b h1]; exact h2, h3⟩)
    | exact id
def ShOK (ρ : Nat → Loc) (w : World) : Prop := ∀ (i T c b : Nat), (ρ i).sh = some (T, c) → (ρ i).blk = some b → ∃ (cs : Array Value) (fr : Nat × Nat), w.heap[b]? = some (Obj.cells cs T fr) ∧ cs.size = c
def ShKeep (w w' : World) : Prop := ∀ (b : Nat) (cs : Array Value) (T : TypeId) (fr : Nat × Nat), w.heap[b]? = some (Obj.cells cs T fr) → ∃ (cs' : Array Value) (fr' : Nat × Nat), w'.heap[b]? = some (Obj.cells cs' T fr') ∧ cs'.size = cs.size
theorem ShKeep.refl (w : World) : ShKeep w w := fun b cs T fr h => ⟨cs, fr, h, rfl⟩
theorem ShKeep.of_heap {w w' : World} (h : w'.heap = w.heap) : ShKeep w w' := fun b cs T fr e => ⟨cs, fr, by rw [h]; exact e, rfl⟩
theorem ShKeep.of_old {w w' : World} (h : ∀ b, b < w.heap.size → w'.heap[b]? = w.heap[b]?) : ShKeep w w' := fun b cs T fr e => ⟨cs, fr, by rw [h b (Array.getElem?_eq_some_iff.1 e).1]; exact e, rfl⟩
theorem ShKeep.trans {w w' w'' : World} (h : ShKeep w w') (h' : ShKeep w' w'') : ShKeep w w'' := fun b cs T fr e => by
  obtain ⟨cs', fr', e1, e2⟩ := h b cs T fr e
  obtain ⟨cs'', fr'', e3, e4⟩ := h' b cs' T fr' e1
  exact ⟨cs'', fr'', e3, e4.trans e2⟩
theorem ShKeep.of_one {w w' : World} {b : Nat} {c c' : Array Value} {T : TypeId} {fr fr' : Nat × Nat} (h : w.heap[b]? = some (Obj.cells c T fr)) (h' : w'.heap[b]? = some (Obj.cells c' T fr')) (hc : c'.size = c.size)
    (ho : ∀ k, k ≠ b → w'.heap[k]? = w.heap[k]?) : ShKeep w w' := fun k cs T' fr1 e => by
  by_cases hk : k = b
  · subst hk
    rw [h] at e; cases e
    exact ⟨c', fr', h', hc⟩
  · exact ⟨cs, fr1, by rw [ho k hk]; exact e, rfl⟩
theorem ShKeep.of_none {w w' : World} {b : Nat} (h : ∀ (c : Array Value) (T : TypeId) (fr : Nat × Nat), w.heap[b]? ≠ some (Obj.cells c T fr)) (ho : ∀ k, k ≠ b → w'.heap[k]? = w.heap[k]?) : ShKeep w w' := fun k cs T' fr1 e => by
  by_cases hk : k = b
  · subst hk
    exact absurd e (h _ _ _)
  · exact ⟨cs, fr1, by rw [ho k hk]; exact e, rfl⟩
theorem ShOK.keep {ρ : Nat → Loc} {w w' : World} (h : ShOK ρ w) (hk : ShKeep w w') : ShOK ρ w' := fun i T c b e1 e2 => by
  obtain ⟨cs, fr, e3, e4⟩ := h i T c b e1 e2
  obtain ⟨cs', fr', e5, e6⟩ := hk b cs T fr e3
  exact ⟨cs', fr', e5, e6.trans e4⟩
def gId (g : Nat) : Nat := 4001003 + 4 * g
def GlR (ρ : Nat → Loc) : Prop := ∀ g, GU g = true → (ρ (gId g)).blk = some g ∧ (ρ (gId g)).off = 0
theorem GlR.same {ρ ρ' : Nat → Loc} (h : GlR ρ) (he : ∀ i, 1000 ≤ i → ρ' i = ρ i) : GlR ρ' := fun g hg => by
  rw [he (gId g) (by unfold gId; omega)]; exact h g hg
structure HRel (F : Nat → Prop) (w0 : World) (ρ : Nat → Loc) (n : Nat) (H : Hp) (w : World) : Prop where
  os : w.os = w0.os
  tape : w.tape = w0.tape
  output : w.output = w0.output
  size : w0.heap.size ≤ w.heap.size
  keep : ∀ b, F b → w.heap[b]? = w0.heap[b]?
  old : ∀ b, F b → b < w0.heap.size
  nil : (ρ 0).blk = none ∧ (ρ 0).size = 0
  pos : 0 < n
  obj : ∀ i s, H.get i = some s → ObjOK ρ w (ρ i) s
  lt : ∀ i s, H.get i = some s → idOK n i = true ∧ s.b.lt n = true
  own : ∀ i s b, H.get i = some s → s.wr = true → (ρ i).blk = some b → ¬ F b
  inj : ∀ i j s s' b, i ≠ j → H.get i = some s → H.get j = some s' → s.wr = true → (ρ i).blk = some b → (ρ j).blk ≠ some b
  live : ∀ i s b, H.get i = some s → (ρ i).blk = some b → b < w.heap.size
  xok : ∀ i s, H.x i = some s → 1000 ≤ i ∧ s.wr = false ∧ s.b.lt 1 = true ∧ lk H.l i = none
  shp : ShOK ρ w
  shk : ShKeep w0 w
  gl : GlR ρ
theorem HRel.drew {F : Nat → Prop} {w0 : World} {ρ : Nat → Loc} {n : Nat} {H : Hp} {w : World} (h : HRel F w0 ρ n H w) : HRel F w0 ρ n H w.drew :=
  { h with obj := fun i s hi => ObjOK.world (fun b _ => rfl) (h.obj i s hi) }
theorem HRel.nxmono {F : Nat → Prop} {w0 : World} {ρ : Nat → Loc} {n m : Nat} {H : Hp} {w : World} (h : HRel F w0 ρ n H w) (hm : n ≤ m) : HRel F w0 ρ m H w :=
  { h with pos := Nat.lt_of_lt_of_le h.pos hm, lt := fun i s hi => ⟨idOK_mono hm (h.lt i s hi).1, Body.lt_mono hm (h.lt i s hi).2⟩ }
def upd (ρ : Nat → Loc) (n : Nat) (l : Loc) : Nat → Loc := fun i => if i = n then l else ρ i
theorem GlR.upd {ρ : Nat → Loc} {n : Nat} {l : Loc} (h : GlR ρ) (hn : n < 1000) : GlR (Sx.upd ρ n l) := h.same fun i hi => by
  unfold Sx.upd; rw [if_neg (by omega)]
theorem Ext.upd {ρ : Nat → Loc} {n : Nat} {l : Loc} (hn : n < 1000) : Ext n ρ (upd ρ n l) := fun i hi => by
  unfold idOK at hi; unfold Sx.upd
  rw [if_neg]
  simp at hi; omega
theorem ShOK.upd {ρ : Nat → Loc} {w : World} {n : Nat} {l : Loc} (h : ShOK ρ w) (hl : ∀ T c b, l.sh = some (T, c) → l.blk = some b → ∃ (cs : Array Value) (fr : Nat × Nat), w.heap[b]? = some (Obj.cells cs T fr) ∧ cs.size = c) : ShOK (upd ρ n l) w := fun i T c b e1 e2 => by
  unfold Sx.upd at e1 e2
  split at e1
  · rename_i e
    rw [if_pos e] at e2
    exact hl T c b e1 e2
  · rename_i e
    rw [if_neg e] at e2
    exact h i T c b e1 e2
theorem upd_same {ρ : Nat → Loc} {n : Nat} {l : Loc} : upd ρ n l n = l := by simp [upd]
theorem lk_put {H : Hp} {i n : Nat} {s : SO} (hn : i ≠ n) (h : lk H.l i = none) : lk (H.put n s).l i = none := by
  simp only [Hp.put, lk]; rw [if_neg (Ne.symm hn)]; exact h
theorem HRel.xput {F : Nat → Prop} {w0 : World} {ρ : Nat → Loc} {n : Nat} {H : Hp} {w : World} (h : HRel F w0 ρ n H w) {k : Nat} {t : SO} (hk : k < 1000) :
    ∀ i s, (H.put k t).x i = some s → 1000 ≤ i ∧ s.wr = false ∧ s.b.lt 1 = true ∧ lk (H.put k t).l i = none := fun i s hi => by
  obtain ⟨h1, h2, h3, h4⟩ := h.xok i s hi
  exact ⟨h1, h2, h3, lk_put (by omega) h4⟩
theorem HRel.wr_lt {F : Nat → Prop} {w0 : World} {ρ : Nat → Loc} {n : Nat} {H : Hp} {w : World} (h : HRel F w0 ρ n H w) {i : Nat} {s : SO} (hi : H.get i = some s) (hw : s.wr = true) : ∀ t, H.x i ≠ some t := fun t ht => by
  obtain ⟨h1, h2, h3, h4⟩ := h.xok i t ht
  unfold Hp.get at hi
  rw [h4] at hi
  simp only [] at hi
  rw [ht] at hi; cases hi
  rw [h2] at hw; cases hw
theorem HRel.alloc {F : Nat → Prop} {w0 : World} {ρ : Nat → Loc} {n : Nat} {H : Hp} {w : World} (h : HRel F w0 ρ n H w) (hn : n < 1000) (o : Obj) (s : SO) (l : Loc)
    (hb : l.blk = some w.heap.size) (hlt : s.b.lt n = true) (hok : ObjOK ρ (w.alloc o) l s) (hsh : ∀ T c, l.sh = some (T, c) → ∃ (cs : Array Value) (fr : Nat × Nat), o = Obj.cells cs T fr ∧ cs.size = c := by (intro _ _ h; cases h)) :
    HRel F w0 (upd ρ n l) (n + 1) (H.put n s) (w.alloc o) := by
  have hx : Ext n ρ (upd ρ n l) := Ext.upd hn
  have hidn : idOK n n = false := by unfold idOK; simp; omega
  have hne : ∀ i s', H.get i = some s' → i ≠ n := fun i s' hi e => by
    have := (h.lt i s' hi).1; subst e; rw [hidn] at this; cases this
  have hr : ∀ i, i ≠ n → upd ρ n l i = ρ i := fun i hi => by simp [upd, hi]
  have hold : ∀ b, b < w.heap.size → (w.alloc o).heap[b]? = w.heap[b]? := fun b hb => heap_alloc_old w o b hb
  refine ⟨h.os, h.tape, h.output, ?_, ?_, h.old, ?_, by omega, ?_, ?_, ?_, ?_, ?_, h.xput hn, (h.shp.keep (ShKeep.of_old hold)).upd fun T c b e1 e2 => by
    obtain ⟨cs, fr, e3, e4⟩ := hsh T c e1
    rw [hb] at e2; cases e2
    exact ⟨cs, fr, by subst e3; exact heap_alloc_new w _, e4⟩, h.shk.trans (ShKeep.of_old hold), h.gl.upd hn⟩
  · have := h.size; simp; omega
  · intro b hF; rw [hold b (Nat.lt_of_lt_of_le (h.old b hF) h.size)]; exact h.keep b hF
  · rw [hr 0 (by have := h.pos; omega)]; exact h.nil
  · intro i s' hi
    rw [Hp.get_put] at hi
    split at hi
    · rename_i e; subst e; cases hi
      rw [upd_same]; exact ObjOK.ext hx hlt hok
    · rename_i e
      rw [hr i (Ne.symm e)]
      exact ObjOK.ext hx (h.lt i s' hi).2 (ObjOK.world (fun b hb => hold b (h.live i s' b hi hb)) (h.obj i s' hi))
  · intro i s' hi
    rw [Hp.get_put] at hi
    split at hi
    · rename_i e; subst e; cases hi
      exact ⟨by unfold idOK; simp, Body.lt_mono (Nat.le_succ _) hlt⟩
    · exact ⟨idOK_mono (Nat.le_succ _) (h.lt i s' hi).1, Body.lt_mono (Nat.le_succ _) (h.lt i s' hi).2⟩
  · intro i s' b hi hw hbl hF
    rw [Hp.get_put] at hi
    split at hi
    · rename_i e; subst e; rw [upd_same, hb] at hbl; cases hbl
      have := h.old _ hF; have := h.size; omega
    · rename_i e
      rw [hr i (Ne.symm e)] at hbl
      exact h.own i s' b hi hw hbl hF
  · intro i j s1 s2 b hij hi hj hw hbl hbl'
    rw [Hp.get_put] at hi hj
    split at hi
    · rename_i e; subst e
      rw [if_neg hij] at hj
      rw [upd_same, hb] at hbl; cases hbl
      rw [hr j (Ne.symm hij)] at hbl'
      have := h.live j s2 _ hj hbl'; omega
    · rename_i e
      rw [hr i (Ne.symm e)] at hbl
      split at hj
      · rename_i e'; subst e'; rw [upd_same, hb] at hbl'; cases hbl'
        have := h.live i s1 _ hi hbl; omega
      · rename_i e'
        rw [hr j (Ne.symm e')] at hbl'
        exact h.inj i j s1 s2 b hij hi hj hw hbl hbl'
  · intro i s' b hi hbl
    rw [Hp.get_put] at hi
    split at hi
    · rename_i e; subst e; rw [upd_same, hb] at hbl; cases hbl; simp
    · rename_i e
      rw [hr i (Ne.symm e)] at hbl
      have := h.live i s' b hi hbl; simp; omega
theorem HRel.write {F : Nat → Prop} {w0 : World} {ρ : Nat → Loc} {n : Nat} {H : Hp} {w w' : World} (h : HRel F w0 ρ n H w) (i : Nat) (s s' : SO)
    (hi : H.get i = some s) (hw : s.wr = true) (hlt : s'.b.lt n = true) (hok : ObjOK ρ w' (ρ i) s')
    (os : w'.os = w.os) (tape : w'.tape = w.tape) (output : w'.output = w.output) (size : w'.heap.size = w.heap.size)
    (hoth : ∀ b, (ρ i).blk ≠ some b → w'.heap[b]? = w.heap[b]?) (hsk : ShKeep w w') : HRel F w0 ρ n (H.put i s') w' := by
  refine ⟨os.trans h.os, tape.trans h.tape, output.trans h.output, by rw [size]; exact h.size, ?_, h.old, h.nil, h.pos, ?_, ?_, ?_, ?_, ?_, fun j t hj => by
    obtain ⟨h1, h2, h3, h4⟩ := h.xok j t hj
    exact ⟨h1, h2, h3, lk_put (fun e => h.wr_lt hi hw t (e ▸ hj)) h4⟩, h.shp.keep hsk, h.shk.trans hsk, h.gl⟩
  · intro b hF
    rw [hoth b (fun e => h.own i s b hi hw e hF)]; exact h.keep b hF
  · intro j t hj
    rw [Hp.get_put] at hj
    split at hj
    · rename_i e; subst e; cases hj; exact hok
    · rename_i e
      exact ObjOK.world (fun b hb => hoth b (fun e' => h.inj i j s t b e hi hj hw e' hb)) (h.obj j t hj)
  · intro j t hj
    rw [Hp.get_put] at hj
    split at hj
    · rename_i e; subst e; cases hj; exact ⟨(h.lt i s hi).1, hlt⟩
    · exact h.lt j t hj
  · intro j t b hj hwj hbl
    rw [Hp.get_put] at hj
    split at hj
    · rename_i e; subst e; exact h.own i s b hi hw hbl
    · exact h.own j t b hj hwj hbl
  · intro j k t u b hjk hj hk hwj hbl
    rw [Hp.get_put] at hj hk
    split at hj
    · rename_i e; subst e
      rw [if_neg hjk] at hk
      exact h.inj i k s u b hjk hi hk hw hbl
    · rename_i e
      split at hk
      · rename_i e'; subst e'; exact h.inj j i t s b hjk hj hi hwj hbl
      · exact h.inj j k t u b hjk hj hk hwj hbl
  · intro j t b hj hbl
    rw [Hp.get_put] at hj
    rw [size]
    split at hj
    · rename_i e; subst e; exact h.live i s b hi hbl
    · exact h.live j t b hj hbl
theorem HRel.sub {F : Nat → Prop} {w0 : World} {ρ : Nat → Loc} {n : Nat} {H H' : Hp} {w : World} (h : HRel F w0 ρ n H w) (hs : ∀ i s, H'.get i = some s → H.get i = some s) (hx : H'.x = H.x) (hl : ∀ i s, H.x i = some s → lk H.l i = none → lk H'.l i = none) : HRel F w0 ρ n H' w :=
  { h with
    obj := fun i s hi => h.obj i s (hs i s hi)
    lt := fun i s hi => h.lt i s (hs i s hi)
    own := fun i s b hi => h.own i s b (hs i s hi)
    inj := fun i j s s' b hij hi hj => h.inj i j s s' b hij (hs i s hi) (hs j s' hj)
    live := fun i s b hi => h.live i s b (hs i s hi)
    xok := by
      rw [hx]; intro i s hi
      obtain ⟨h1, h2, h3, h4⟩ := h.xok i s hi
      exact ⟨h1, h2, h3, hl i s hi h4⟩ }
end Go.Sx

/- The IR with its types resolved (MIR), how it is made, and what it does to symbolic states. -/
set_option linter.unusedVariables false
namespace Go.Sx
inductive MA where
  | t (n : Nat)
  | k (c : SV)
inductive MO where
  | mov (x : MA)
  | pick (c a b : MA)
  | bin (op : BinOp) (x y : MA)
  | binB (op : BinOp) (x y : MA)
  | binA (op : BinOp) (x y : MA) (fs : List Nat)
  | binP (op : BinOp) (x y : MA)
  | un (op : UnOp) (x : MA)
  | conv (k : IntKind) (x : MA)
  | r2s (x : MA)
  | s2b (x : MA)
  | b2s (x : MA)
  | alloc (b : Body)
  | allocT (b : Body) (T c : Nat)
  | boxT (x : MA) (T : Nat)
  | box (x : MA)
  | bld (zero : List SV) (parts : List (Nat × Nat × MA))
  | bldI (k : IntKind) (n : Nat) (parts : List (Nat × MA))
  | rowI (k : IntKind) (xs : List MA)
  | rowS (xs : List MA)
  | rowV (z : Nat) (e : Body) (xs : List MA)
  | slnil (ne : Bool) (x : MA)
  | ld (x : MA)
  | ldn (x : MA) (n : Nat)
  | st (x a : MA)
  | stn (x a : MA) (n : Nat)
  | nilck (x : MA)
  | fld (x : MA) (off n : Nat) (ag : Bool)
  | fadr (x : MA) (off : Nat)
  | idxA (x i : MA) (z : Nat)
  | idxP (x i : MA) (len z : Nat)
  | idxS (x i : MA)
  | idxV (x i : MA) (len : Nat)
  | slS (x : MA) (lo hi : Option MA)
  | slL (x : MA) (lo hi : Option MA) (z : Nat)
  | slP (x : MA) (lo hi : Option MA) (len z : Nat)
  | slM (x : MA) (lo : Option MA) (hi mx : MA) (z : Nat)
  | mk (zero : Body) (len cap : MA) (z bytes : Nat)
  | lenS (x : MA)
  | lenL (x : MA)
  | lenM (x : MA)
  | app (x y : MA) (e : Body) (z bytes : Nat)
  | appS (x y : MA) (e : Body)
  | appST (x y : MA) (e : Body) (T : Nat)
  | appZ (x n : MA) (e zero : Body) (z bytes : Nat)
  | cpy (x y : MA) (z : Nat)
  | cpyS (x y : MA)
  | mm (min : Bool) (x : MA) (xs : List MA)
  | call (f : Nat) (args : List MA)
  | callv (g : MA) (args : List MA)
  | ext (x : MA) (n : Nat)
  | mkfn (f : Nat) (caps : List MA)
  | mkM
  | luM (x k : MA) (z : Value) (ok : Bool)
  | upM (x k y : MA)
  | delM (x k : MA)
structure MOp where
  d : Option Nat
  op : MO
  g : Option (Nat × Bool)
inductive DT where
  | fin
  | stop
  | pure (o : MOp) (r : DT)
  | act (o : MOp) (chk : List MOp) (r others : DT)
inductive MC where
  | skip
  | regD (t : DT)
  | reg (draw : Bool) (ops : List MOp)
  | seq (a b : MC)
  | cond (c : MA) (x y : MC)
  | block (id : Nat) (b : MC)
  | loop (b : MC)
  | rangeF (g : MA) (ps : List Nat) (N : Nat) (a b : MC)
  | exit (id : Nat)
  | ret
def svOf (z : Nat) : Value → SV
  | .slice none 0 0 => .sl 0 0 0 z
  | x => .v x
def szOf (P : Program) (t : TypeId) : Nat := ((P.info? t).map (·.size)).getD 0
def byOf (P : Program) (t : TypeId) : Nat := ((P.info? t).map (·.bytes)).getD 0
def elemSz (P : Program) (t : TypeId) : Nat := match P.underlying t with
  | some (.slice e) => szOf P e
  | _ => 1
def cellZ (P : Program) : Nat → TypeId → List Nat
  | 0, _ => []
  | f + 1, t => match P.underlying t with
    | some (.slice e) => [szOf P e]
    | some (.struct fs) => fs.toList.flatMap fun x => cellZ P f x.type
    | some (.array n e) => (List.replicate n (cellZ P f e)).flatten
    | _ => [1]
def svs : List Nat → List Value → List SV
  | z :: l, v :: r => svOf z v :: svs l r
  | [], v :: r => svOf 1 v :: svs [] r
  | _, [] => []
def trA (P : Program) (ty : TypeId) : Operand → MA
  | .tmp t => .t t
  | .const v => .k (svOf (elemSz P ty) v)
  | .global g => if GU g = true then .k (.ptr (gId g) 0) else .k (.v (.pointer (some ⟨g, 0, none⟩)))
  | .func f => .k (.v (.func (.func f) #[] #[]))
def isAggT (P : Program) (t : TypeId) : Bool := match P.underlying t with
  | some (.struct _) | some (.array _ _) => true
  | _ => false
def fKind (P : Program) (t : TypeId) : Nat := match P.underlying t with
  | some (.int _) => 0
  | some .string => 1
  | some .bool => 2
  | _ => 3
def eqFs (P : Program) : List Field → Nat → Bool
  | [], _ => true
  | f :: fs, i => f.name != "_" && f.offset == i && (match P.underlying f.type with
    | some (.int _) | some .string | some .bool => true
    | _ => false) && eqFs P fs (i + 1)
def eqOK (P : Program) (t : TypeId) : Bool := match P.underlying t with
  | some (.struct fs) => !P.stoodInHeld t && !P.eqGuardType P.depth t && eqFs P fs.toList 0
  | _ => false
def plainT (P : Program) : Nat → TypeId → Bool
  | 0, _ => false
  | d + 1, t => match P.underlying t with
    | some .bool | some (.int _) | some .string => true
    | some (.array _ e) => plainT P d e
    | some (.struct fs) => fs.all fun f => plainT P d f.type
    | _ => false
def intT (P : Program) : Nat → TypeId → Option IntKind
  | 0, _ => none
  | d + 1, t => match P.underlying t with
    | some (.int k) => some k
    | some (.array _ e) => intT P d e
    | _ => none
def hasArr (P : Program) : Nat → TypeId → Bool
  | 0, _ => true
  | d + 1, t => match P.underlying t with
    | some (.array _ _) => true
    | some (.struct fs) => fs.any fun f => hasArr P d f.type
    | _ => false
def isStrT (P : Program) (t : TypeId) : Bool := match P.underlying t with
  | some .string => true
  | _ => false
def numOf : Value → Int
  | .int _ n => n
  | _ => 0
def strOf : Value → ByteArray
  | .string s => s
  | _ => .empty
def isIntK (k : IntKind) : Value → Bool
  | .int k' _ => k' == k
  | _ => false
def isZeroK (k : IntKind) : Value → Bool
  | .int k' n => k' == k && n == 0
  | _ => false
def isStrV : Value → Bool
  | .string _ => true
  | _ => false
def rowBody (P : Program) (e : TypeId) (zs : List Value) : Option Body := match intT P 4 e with
  | some k => if zs.all (isIntK k) then some (.ints k (zs.map numOf)) else none
  | none => if isStrT P e then (if zs.all isStrV then some (.strs (zs.map strOf)) else none) else if plainT P 6 e then some (.pl zs) else some (.sv (svs (cellZ P 8 e) zs))
def varBody (P : Program) (t : TypeId) (zs : List Value) : Option Body :=
  if isAggT P t then (match intT P 4 t with
    | some k => if zs.all (isIntK k) then some (.ints k (zs.map numOf)) else none
    | none => if plainT P 6 t && hasArr P 6 t then some (.pl zs) else some (.sv (svs (cellZ P 8 t) zs)))
  else some (.sv (zs.map (svOf (elemSz P t))))
def zerosOf (P : Program) (t : TypeId) : Option (List Value) := ((P.info? t).bind (·.zero)).map (·.cells.toList)
def zs1 (P : Program) (t : TypeId) : Option (List Value) := (zerosOf P t).bind fun zs => if zs.length = szOf P t ∧ szOf P t ≠ 0 then some zs else none
def isU8 (P : Program) (e : TypeId) : Bool := match P.underlying e with
  | some (.int .u8) => true
  | _ => false
def trParts (P : Program) (place : Nat → Option (Nat × Nat × TypeId)) : List (Nat × Operand) → Option (List (Nat × Nat × MA))
  | [] => some []
  | (i, x) :: l => match place i, trParts P place l with
    | some (off, sz, t), some r => some ((off, sz, trA P t x) :: r)
    | _, _ => none
def hasBld (P : Program) : Nat → TypeId → Bool
  | 0, _ => false
  | f + 1, t => match P.underlying t with
    | some (.struct fs) => (fs.toList.map (·.name) == ["addr", "buf"]) || fs.toList.any fun x => hasBld P f x.type
    | some (.array _ e) => hasBld P f e
    | _ => false
def trOp (P : Program) (o : Oper) : Option MO := match o.op with
  | .move x | .assign x => some (.mov (trA P o.type x))
  | .pick c a b => some (.pick (trA P 0 c) (trA P o.type a) (trA P o.type b))
  | .binOp op xt x y _ => (match P.underlying xt with
    | some (.int _) | some .string => some (.bin op (trA P 0 x) (trA P 0 y))
    | some .bool => some (.binB op (trA P 0 x) (trA P 0 y))
    | some (.struct fs) => if eqOK P xt = true then some (.binA op (trA P 0 x) (trA P 0 y) (fs.toList.map fun f => fKind P f.type)) else none
    | some (.pointer _) => some (.binP op (trA P 0 x) (trA P 0 y))
    | some (.slice _) => (match op, y with
      | .eql, .const (.slice none 0 0) => some (.slnil false (trA P xt x))
      | .neq, .const (.slice none 0 0) => some (.slnil true (trA P xt x))
      | _, _ => none)
    | _ => none)
  | .unOp op _ x => some (.un op (trA P 0 x))
  | .convert s d x => (match P.underlying s, P.underlying d with
    | some (.int _), some (.int k) => some (.conv k (trA P 0 x))
    | some .string, some .string => some (.bin .add (trA P 0 x) (.k (.v (.string .empty))))
    | some .string, some (.slice e) => (match P.underlying e with
      | some (.int .u8) => some (.s2b (trA P 0 x))
      | _ => none)
    | some (.slice e), some .string => (match P.underlying e with
      | some (.int .u8) => some (.b2s (trA P s x))
      | _ => none)
    | some (.int _), some .string => some (.r2s (trA P 0 x))
    | _, _ => none)
  | .alloc t => (zerosOf P t).bind fun zs => (varBody P t zs).map fun b => if hasBld P 8 t then .allocT b t zs.length else .alloc b
  | .box t x => some (if hasBld P 8 t then .boxT (trA P 0 x) t else .box (trA P 0 x))
  | .build t parts => (match P.underlying t, zerosOf P t with
    | some (.struct fs), some zs => (trParts P (fun i => (fs[i]?).map fun f => (f.offset, szOf P f.type, f.type)) parts.toList).map fun ps => .bld (svs (cellZ P 8 t) zs) ps
    | some (.array n e), some zs => (match P.underlying e with
      | some (.int k) => if zs.length = n ∧ zs.all (isZeroK k) ∧ szOf P e = 1 then some (.bldI k n (parts.toList.map fun p => (p.1, trA P 0 p.2))) else none
      | _ => (trParts P (fun i => some (i * szOf P e, szOf P e, e)) parts.toList).map fun ps => .bld (svs (cellZ P 8 t) zs) ps)
    | _, _ => none)
  | .buildSlice t n parts => (match P.underlying t with
    | some (.slice e) => if (parts.toList.map (·.1)) = List.range n ∧ n * szOf P e ≤ 16777216 ∧ (zs1 P e).isSome then (match P.underlying e with
        | some (.int k) => if szOf P e = 1 then some (.rowI k (parts.toList.map fun p => trA P e p.2)) else none
        | some .string => if szOf P e = 1 then some (.rowS (parts.toList.map fun p => trA P e p.2)) else none
        | _ => (rowBody P e []).map fun b => .rowV (szOf P e) b (parts.toList.map fun p => trA P e p.2)) else none
    | _ => none)
  | .load t x => if isAggT P t then some (.ldn (trA P 0 x) (szOf P t)) else some (.ld (trA P 0 x))
  | .store t x a => if isAggT P t then some (.stn (trA P 0 x) (trA P t a) (szOf P t)) else if szOf P t = 1 then some (.st (trA P 0 x) (trA P t a)) else none
  | .nilCheck x => some (.nilck (trA P 0 x))
  | .field s x f => (match P.underlying s with
    | some (.struct fs) => (fs[f]?).map fun f => .fld (trA P 0 x) f.offset (szOf P f.type) (isAggT P f.type)
    | _ => none)
  | .fieldAddr s x f => (match P.underlying s with
    | some (.struct fs) => (fs[f]?).bind fun f => if szOf P f.type = 0 then none else some (.fadr (trA P 0 x) f.offset)
    | _ => none)
  | .indexAddr t x i => (match P.underlying t with
    | some (.slice e) => some (.idxA (trA P t x) (trA P 0 i) (szOf P e))
    | some (.array n e) => some (.idxP (trA P 0 x) (trA P 0 i) n (szOf P e))
    | _ => none)
  | .index t x i => (match P.underlying t with
    | some .string => some (.idxS (trA P 0 x) (trA P 0 i))
    | some (.array n e) => if isAggT P e || szOf P e != 1 then none else some (.idxV (trA P 0 x) (trA P 0 i) n)
    | _ => none)
  | .slice t x lo hi none => (match P.underlying t with
    | some .string => some (.slS (trA P 0 x) (lo.map (trA P 0)) (hi.map (trA P 0)))
    | some (.slice e) => some (.slL (trA P t x) (lo.map (trA P 0)) (hi.map (trA P 0)) (szOf P e))
    | some (.array n e) => some (.slP (trA P 0 x) (lo.map (trA P 0)) (hi.map (trA P 0)) n (szOf P e))
    | _ => none)
  | .slice t x lo (some hi) (some mx) => (match P.underlying t with
    | some (.slice e) => some (.slM (trA P t x) (lo.map (trA P 0)) (trA P 0 hi) (trA P 0 mx) (szOf P e))
    | _ => none)
  | .makeSlice t l c => (match P.underlying t with
    | some (.slice e) => (zs1 P e).bind fun zs => (rowBody P e zs).map fun b => .mk b (trA P 0 l) (trA P 0 c) (szOf P e) (byOf P e)
    | _ => none)
  | .makeMap t none => (match P.underlying t with
    | some (.map k _) => (match P.underlying k with
      | some .string => some .mkM
      | _ => none)
    | _ => none)
  | .lookup t x k ok => (match P.underlying t with
    | some (.map kt et) => (match P.underlying kt with
      | some .string => (P.info? et).bind fun inf => inf.zero.map fun z => .luM (trA P 0 x) (trA P 0 k) z ok
      | _ => none)
    | _ => none)
  | .mapUpdate t m k x => (match P.underlying t with
    | some (.map kt et) => (match P.underlying kt with
      | some .string => some (.upM (trA P 0 m) (trA P 0 k) (trA P et x))
      | _ => none)
    | _ => none)
  | .extract x n => some (.ext (trA P 0 x) n)
  | .makeFunc fn first caps => (match fn, first.toList with
    | .func f, [] => some (.mkfn f (caps.toList.map (trA P 0)))
    | _, _ => none)
  | .call c => (match c.callee with
    | .value (.func f) => (match P.funcs[f]? with
      | some fn => if fn.body.isSome && fn.name != "runtime.NumGoroutine" then some (.call f ((c.args.toList.zip (c.argTypes.toList ++ List.replicate c.args.size 0)).map fun p => trA P p.2 p.1)) else none
      | none => none)
    | .value (.tmp t) => some (.callv (.t t) ((c.args.toList.zip (c.argTypes.toList ++ List.replicate c.args.size 0)).map fun p => trA P p.2 p.1))
    | .builtin .len => (match c.args.toList, c.argTypes.toList with
      | [x], [t] => (match P.underlying t with
        | some (.array n _) => some (.mov (.k (.v (.int .i64 n))))
        | some .string => some (.lenS (trA P t x))
        | some (.slice _) => some (.lenL (trA P t x))
        | some (.map _ _) => some (.lenM (trA P t x))
        | _ => none)
      | _, _ => none)
    | .builtin .append => (match c.args.toList, c.argTypes.toList with
      | [x, y], [t, u] => (match P.underlying t with
        | some (.slice e) => (zs1 P e).bind fun zs => (rowBody P e []).bind fun b0 => (match P.underlying u with
          | some .string => if isU8 P e = true ∧ szOf P e = 1 ∧ byOf P e = 1 then some (if o.pos == "builder.go:114" then .appST (trA P t x) (trA P 0 y) b0 e else .appS (trA P t x) (trA P 0 y) b0) else none
          | some (.int _) => (rowBody P e zs).map fun bz => .appZ (trA P t x) (trA P 0 y) b0 bz (szOf P e) (byOf P e)
          | some (.slice _) => some (.app (trA P t x) (trA P t y) b0 (szOf P e) (byOf P e))
          | _ => none)
        | _ => none)
      | _, _ => none)
    | .builtin .copy => (match c.args.toList, c.argTypes.toList with
      | [x, y], [t, u] => (match P.underlying t with
        | some (.slice e) => (match P.underlying u with
          | some .string => if szOf P e = 1 then some (.cpyS (trA P t x) (trA P 0 y)) else none
          | some (.slice _) => some (.cpy (trA P t x) (trA P t y) (szOf P e))
          | _ => none)
        | _ => none)
      | _, _ => none)
    | .builtin .delete => (match c.args.toList, c.argTypes.toList with
      | [x, k], [t, _] => (match P.underlying t with
        | some (.map kt _) => (match P.underlying kt with
          | some .string => some (.delM (trA P 0 x) (trA P 0 k))
          | _ => none)
        | _ => none)
      | _, _ => none)
    | .builtin .min => (match c.args.toList with
      | x :: xs => some (.mm true (trA P 0 x) (xs.map (trA P 0)))
      | _ => none)
    | .builtin .max => (match c.args.toList with
      | x :: xs => some (.mm false (trA P 0 x) (xs.map (trA P 0)))
      | _ => none)
    | _ => none)
  | _ => none
def known (P : Program) (t : TypeId) : Bool := (P.underlying t).isSome && (P.info? t).isSome
def tyOK (P : Program) (t : TypeId) : Bool := known P t && (match P.underlying t with
  | some (.slice e) | some (.array _ e) => known P e
  | some (.struct fs) => fs.toList.all fun f => known P f.type
  | _ => true)
def opTypes : Op → List TypeId
  | .load t _ | .store t _ _ | .field t _ _ | .build t _ | .buildSlice t _ _ | .indexAddr t _ _ | .index t _ _ | .slice t _ _ _ _ | .makeSlice t _ _ => [t]
  | .call c => (match c.callee with
    | .builtin _ => c.argTypes.toList
    | _ => [])
  | _ => []
def trO (P : Program) (o : Oper) : Option MO := if (opTypes o.op).all (tyOK P) then trOp P o else none
def trReg (P : Program) (ops : List Oper) : Option (List MOp) := ops.mapM fun o => (trO P o).map fun m => ⟨o.dst, m, o.guard⟩
def ob {α : Type} (x : Option α) (K : α → Prop) : Prop := match x with
  | some a => K a
  | none => False
theorem ob_some {α : Type} (a : α) (K : α → Prop) : ob (some a) K = K a := rfl
theorem ob_congr {α : Type} {x y : Option α} {K : α → Prop} (h : x = y) : ob x K = ob y K := by rw [h]
theorem ob_elim {α : Type} {x : Option α} {K : α → Prop} (h : ob x K) : ∃ a, x = some a ∧ K a := by
  cases x with
  | none => exact h.elim
  | some a => exact ⟨a, rfl, h⟩
def ev (tm : List (Nat × SV)) : MA → Option SV
  | .t n => lk tm n
  | .k c => some c
def evs (tm : List (Nat × SV)) : List MA → Option (List SV)
  | [] => some []
  | x :: l => match ev tm x, evs tm l with
    | some a, some r => some (a :: r)
    | _, _ => none
def iand (k : IntKind) (x y : Int) : Int := k.wrap (BitVec.ofInt k.bits x &&& BitVec.ofInt k.bits y).toNat
def ior (k : IntKind) (x y : Int) : Int := k.wrap (BitVec.ofInt k.bits x ||| BitVec.ofInt k.bits y).toNat
def ixor (k : IntKind) (x y : Int) : Int := k.wrap (BitVec.ofInt k.bits x ^^^ BitVec.ofInt k.bits y).toNat
def iandn (k : IntKind) (x y : Int) : Int := k.wrap (BitVec.ofInt k.bits x &&& ~~~ BitVec.ofInt k.bits y).toNat
def ishl (k : IntKind) (x y : Int) : Int := k.wrap (x * 2 ^ min y.toNat k.bits)
def ishr (k : IntKind) (x y : Int) : Int := x.fdiv (2 ^ min y.toNat k.bits)
def sle (s t : ByteArray) : Bool := Op.bytesLess s.toList t.toList || s.toList == t.toList
def slt (s t : ByteArray) : Bool := Op.bytesLess s.toList t.toList
def seq (s t : ByteArray) : Bool := s.toList == t.toList
def ibin (op : BinOp) (k : IntKind) (x : Int) (k' : IntKind) (y : Int) (K : SV → Prop) : Prop := match op with
  | .add => k = k' ∧ K (.v (.int k (k.wrap (x + y))))
  | .sub => k = k' ∧ K (.v (.int k (k.wrap (x - y))))
  | .mul => k = k' ∧ K (.v (.int k (k.wrap (x * y))))
  | .quo => k = k' ∧ y ≠ 0 ∧ K (.v (.int k (k.wrap (x.tdiv y))))
  | .rem => k = k' ∧ y ≠ 0 ∧ K (.v (.int k (x.tmod y)))
  | .and => k = k' ∧ K (.v (.int k (iand k x y)))
  | .or => k = k' ∧ K (.v (.int k (ior k x y)))
  | .xor => k = k' ∧ K (.v (.int k (ixor k x y)))
  | .andNot => k = k' ∧ K (.v (.int k (iandn k x y)))
  | .shl => 0 ≤ y ∧ K (.v (.int k (ishl k x y)))
  | .shr => 0 ≤ y ∧ K (.v (.int k (ishr k x y)))
  | .eql => k = k' ∧ K (.v (.bool (x == y)))
  | .neq => k = k' ∧ K (.v (.bool (x != y)))
  | .lss => k = k' ∧ K (.v (.bool (decide (x < y))))
  | .leq => k = k' ∧ K (.v (.bool (decide (x ≤ y))))
  | .gtr => k = k' ∧ K (.v (.bool (decide (x > y))))
  | .geq => k = k' ∧ K (.v (.bool (decide (x ≥ y))))
def strbin (op : BinOp) (s t : ByteArray) (K : SV → Prop) : Prop := match op with
  | .add => s.size + t.size ≤ 9223372036854775807 ∧ K (.v (.string (s ++ t)))
  | .eql => K (.v (.bool (seq s t)))
  | .neq => K (.v (.bool (!seq s t)))
  | .lss => K (.v (.bool (slt s t)))
  | .leq => K (.v (.bool (sle s t)))
  | .gtr => K (.v (.bool (!sle s t)))
  | .geq => K (.v (.bool (!slt s t)))
  | _ => False
def boolbin (op : BinOp) (s t : Bool) (K : SV → Prop) : Prop := match op with
  | .eql => K (.v (.bool (s == t)))
  | .neq => K (.v (.bool (!(s == t))))
  | _ => False
def ptrbin (op : BinOp) (e : Bool) (K : SV → Prop) : Prop := match op with
  | .eql => K (.v (.bool e))
  | .neq => K (.v (.bool (!e)))
  | _ => False
def sbin (op : BinOp) (a b : SV) (K : SV → Prop) : Prop := match a, b with
  | .v (.int k x), .v (.int k' y) => ibin op k x k' y K
  | .v (.string s), .v (.string t) => strbin op s t K
  | _, _ => False
def sbinB (op : BinOp) (a b : SV) (K : SV → Prop) : Prop := match a, b with
  | .v (.bool s), .v (.bool t) => boolbin op s t K
  | _, _ => False
def aggEq : List Nat → List SV → List SV → Option Bool
  | [], _, _ => some true
  | 0 :: fs, .v (.int k a) :: xs, .v (.int k' b) :: ys => if k = k' then (aggEq fs xs ys).map fun r => decide (a = b) && r else none
  | 1 :: fs, .v (.string a) :: xs, .v (.string b) :: ys => (aggEq fs xs ys).map fun r => seq a b && r
  | 2 :: fs, .v (.bool a) :: xs, .v (.bool b) :: ys => (aggEq fs xs ys).map fun r => (a == b) && r
  | _, _, _ => none
def sbinP (op : BinOp) (a b : SV) (K : SV → Prop) : Prop := match a, b with
  | .v (.pointer none), .v (.pointer none) => ptrbin op true K
  | .ptr _ _, .v (.pointer none) => ptrbin op false K
  | .v (.pointer none), .ptr _ _ => ptrbin op false K
  | _, _ => False
def sbinA (op : BinOp) (fs : List Nat) (a b : SV) (K : SV → Prop) : Prop := match a, b with
  | .agg xs, .agg ys => ob (aggEq fs xs ys) fun e => ptrbin op e K
  | _, _ => False
def sun (op : UnOp) (a : SV) (K : SV → Prop) : Prop := match op, a with
  | .neg, .v (.int k x) => K (.v (.int k (k.wrap (0 - x))))
  | .xor, .v (.int k x) => K (.v (.int k (ixor k (if k.signed then -1 else k.max) x)))
  | .not, .v (.bool b) => K (.v (.bool (!b)))
  | _, _ => False
def asI (a : SV) (K : Int → Prop) : Prop := match a with
  | .v (.int _ x) => K x
  | _ => False
def asIk (a : SV) (K : IntKind → Int → Prop) : Prop := match a with
  | .v (.int k x) => K k x
  | _ => False
def asB (a : SV) (K : Bool → Prop) : Prop := match a with
  | .v (.bool x) => K x
  | _ => False
def asS (a : SV) (K : ByteArray → Prop) : Prop := match a with
  | .v (.string s) => K s
  | _ => False
def asP (a : SV) (K : Nat → Nat → Prop) : Prop := match a with
  | .ptr i o => K i o
  | _ => False
def asSl (a : SV) (K : Nat → Nat → Nat → Nat → Prop) : Prop := match a with
  | .sl i o n z => K i o n z
  | _ => False
def SV.one : SV → Bool
  | .v (.agg _) | .v (.tuple _) => false
  | .agg _ | .ai _ _ | .tup _ => false
  | _ => true
def SV.leaf : SV → Bool
  | .v _ | .ptr _ _ | .sl _ _ _ _ | .mp _ | .yl _ => true
  | _ => false
def bts (s : ByteArray) : List Int := s.data.toList.map fun b => (b.toNat : Int)
def tx (ys : List Int) : ByteArray := ⟨(ys.map fun n => UInt8.ofNat n.toNat).toArray⟩
def Body.get (b : Body) (o : Nat) (K : SV → Prop) : Prop := match b with
  | .ints k ys => o < ys.length ∧ K (.v (.int k (ys.getD o 0)))
  | .strs ss => o < ss.length ∧ K (.v (.string (ss.getD o .empty)))
  | .pl xs => ob xs[o]? fun x => K (.v x)
  | .sv cs => ob cs[o]? K
  | .mp _ => False
def Body.getN (b : Body) (o n : Nat) (K : SV → Prop) : Prop := match b with
  | .ints k ys => o + n ≤ ys.length ∧ K (.ai k ((ys.drop o).take n))
  | .strs ss => o + n ≤ ss.length ∧ K (.v (.agg (((ss.drop o).take n).map Value.string).toArray))
  | .pl xs => o + n ≤ xs.length ∧ K (.v (.agg ((xs.drop o).take n).toArray))
  | .sv cs => o + n ≤ cs.length ∧ K (.agg ((cs.drop o).take n))
  | .mp _ => False
def Body.set (b : Body) (o : Nat) (a : SV) (K : Body → Prop) : Prop := match b, a with
  | .ints k ys, .v (.int k' x) => k' = k ∧ o < ys.length ∧ K (.ints k (ys.set o x))
  | .strs ss, .v (.string s) => o < ss.length ∧ K (.strs (ss.set o s))
  | .pl xs, .v x => x.oneCell' = true ∧ o < xs.length ∧ K (.pl (xs.set o x))
  | .sv cs, a => a.one = true ∧ o < cs.length ∧ K (.sv (cs.set o a))
  | _, _ => False
def splice {α : Type} (l : List α) (o : Nat) (m : List α) : List α := l.take o ++ m ++ l.drop (o + m.length)
def numsOf (k : IntKind) : List Value → Option (List Int)
  | [] => some []
  | .int k' x :: l => if k' = k then (numsOf k l).map (x :: ·) else none
  | _ => none
def plsOf : List SV → Option (List Value)
  | [] => some []
  | .v x :: l => (plsOf l).map (x :: ·)
  | _ => none
def Body.setN (b : Body) (o n : Nat) (a : SV) (K : Body → Prop) : Prop := match b, a with
  | .ints k ys, .ai k' zs => k' = k ∧ zs.length = n ∧ o + n ≤ ys.length ∧ K (.ints k (splice ys o zs))
  | .pl xs, .ai k zs => zs.length = n ∧ o + n ≤ xs.length ∧ K (.pl (splice xs o (zs.map (Value.int k))))
  | .pl xs, .v (.agg ⟨zs⟩) => zs.all (·.oneCell') = true ∧ zs.length = n ∧ o + n ≤ xs.length ∧ K (.pl (splice xs o zs))
  | .sv cs, .agg zs => zs.all (·.one) = true ∧ zs.length = n ∧ o + n ≤ cs.length ∧ K (.sv (splice cs o zs))
  | .sv cs, .ai k zs => zs.length = n ∧ o + n ≤ cs.length ∧ K (.sv (splice cs o (zs.map fun y => .v (.int k y))))
  | .sv cs, .v (.agg ⟨zs⟩) => zs.all (·.oneCell') = true ∧ zs.length = n ∧ o + n ≤ cs.length ∧ K (.sv (splice cs o (zs.map .v)))
  | .ints k ys, .v (.agg ⟨vs⟩) => ob (numsOf k vs) fun zs => zs.length = n ∧ o + n ≤ ys.length ∧ K (.ints k (splice ys o zs))
  | .pl xs, .agg ws => ob (plsOf ws) fun zs => zs.all (·.oneCell') = true ∧ zs.length = n ∧ o + n ≤ xs.length ∧ K (.pl (splice xs o zs))
  | _, _ => False
def Body.loose : Body → Prop
  | .ints _ _ => True
  | .pl _ => True
  | .sv _ => True
  | _ => False
def Body.part (b : Body) (o n : Nat) (K : Body → Prop) : Prop := match b with
  | .ints k ys => o + n ≤ ys.length ∧ K (.ints k ((ys.drop o).take n))
  | .strs ss => o + n ≤ ss.length ∧ K (.strs ((ss.drop o).take n))
  | .pl xs => o + n ≤ xs.length ∧ K (.pl ((xs.drop o).take n))
  | .sv cs => o + n ≤ cs.length ∧ K (.sv ((cs.drop o).take n))
  | .mp _ => False
def Body.cat (b c : Body) (K : Body → Prop) : Prop := match b, c with
  | .ints k ys, .ints k' zs => k' = k ∧ K (.ints k (ys ++ zs))
  | .strs ys, .strs zs => K (.strs (ys ++ zs))
  | .pl ys, .pl zs => K (.pl (ys ++ zs))
  | .sv ys, .sv zs => K (.sv (ys ++ zs))
  | _, _ => False
def Body.over (b : Body) (o : Nat) (c : Body) (K : Body → Prop) : Prop := match b, c with
  | .ints k ys, .ints k' zs => k' = k ∧ o + zs.length ≤ ys.length ∧ K (.ints k (splice ys o zs))
  | .strs ys, .strs zs => o + zs.length ≤ ys.length ∧ K (.strs (splice ys o zs))
  | .pl ys, .pl zs => o + zs.length ≤ ys.length ∧ K (.pl (splice ys o zs))
  | .pl ys, .ints k zs => o + zs.length ≤ ys.length ∧ K (.pl (splice ys o (zs.map (Value.int k))))
  | .sv ys, .sv zs => o + zs.length ≤ ys.length ∧ K (.sv (splice ys o zs))
  | .ints k ys, .pl vs => ob (numsOf k vs) fun zs => o + zs.length ≤ ys.length ∧ K (.ints k (splice ys o zs))
  | _, _ => False
def Body.ones : Body → Prop
  | .ints _ _ => True
  | .strs _ => True
  | .pl xs => xs.all (·.oneCell') = true
  | .sv cs => cs.all (·.one) = true
  | .mp _ => False
def reps {α : Type} (n : Nat) (l : List α) : List α := (List.replicate n l).flatten
def Body.reps (b : Body) (n : Nat) : Body := match b with
  | .ints k [0] => .ints k (List.replicate n 0)
  | .ints k ys => .ints k (Sx.reps n ys)
  | .strs [s] => .strs (List.replicate n s)
  | .strs ss => .strs (Sx.reps n ss)
  | .pl [x] => .pl (List.replicate n x)
  | .pl xs => .pl (Sx.reps n xs)
  | .sv [c] => .sv (List.replicate n c)
  | .sv cs => .sv (Sx.reps n cs)
  | .mp es => .mp es
def rowOf (H : Hp) (i o n : Nat) (e : Body) (K : Body → Prop) : Prop :=
  if i = 0 then K e else ob (H.get i) fun s => s.b.part o n K
def Hp.kill (H : Hp) (i : Nat) : Hp := if i = 0 then H else H.del i
def wrOf (H : Hp) (i : Nat) : Prop := if i = 0 then True else ob (H.get i) fun s => s.wr = true
def asBy (b : Body) (K : List Int → Prop) : Prop := match b with
  | .ints .u8 ys => K ys
  | _ => False
def asM (b : Body) (K : List (Value × Value) → Prop) : Prop := match b with
  | .mp (.map es) => K es
  | _ => False
def keyIs (v : Value) (s : ByteArray) : Bool := match v with
  | .string t => decide (t = s)
  | _ => false
def keysS (es : List (Value × Value)) : Bool := es.all fun e => match e.1 with
  | .string _ => true
  | _ => false
def luS : List (Value × Value) → ByteArray → Option Value
  | [], _ => none
  | e :: es, s => if keyIs e.1 s then some e.2 else luS es s
def upS : List (Value × Value) → ByteArray → Value → List (Value × Value)
  | [], s, y => [(.string s, y)]
  | e :: es, s, y => if keyIs e.1 s then (.string s, y) :: es else e :: upS es s y
def dlS : List (Value × Value) → ByteArray → List (Value × Value)
  | [], _ => []
  | e :: es, s => if keyIs e.1 s then es else e :: dlS es s
def elemSV (v : Value) : SV := match v with
  | .agg ⟨xs⟩ => .agg (xs.map .v)
  | v => .v v
def luV (r : Option Value) (z : Value) (ok : Bool) : SV := if ok then .tup [elemSV (r.getD z), .v (.bool r.isSome)] else elemSV (r.getD z)
def plV (c : SV) (K : Value → Prop) : Prop := match c with
  | .v x => K x
  | .agg cs => ob (plsOf cs) fun xs => K (.agg xs.toArray)
  | .ai k ys => K (.agg (ys.map (Value.int k)).toArray)
  | _ => False
def mpOf (H : Hp) (a : SV) (K : List (Value × Value) → Prop) : Prop := match a with
  | .mp i => ob (H.get i) fun o => asM o.b K
  | .v (.map none) => K []
  | _ => False
def mpUp (H : Hp) (a : SV) (K : Nat → List (Value × Value) → Prop) : Prop := match a with
  | .mp i => ob (H.get i) fun o => o.wr = true ∧ asM o.b fun es => K i es
  | _ => False
def fresh (H : Hp) (n : Nat) (b : Body) (K : Hp → Nat → Prop) : Prop := n < 1000 ∧ K (H.put n ⟨true, b⟩) (n + 1)
def freshT (H : Hp) (n : Nat) (b : Body) (T c : Nat) (K : Hp → Nat → Prop) : Prop := n + 1 < 1000 ∧ K ((H.put n ⟨true, b⟩).put (n + 1) ⟨false, .mp (.shp n T (some c))⟩) (n + 2)
def shpOf (H : Hp) (i o T : Nat) : Prop := i ≠ 0 → o = 0 ∧ ∃ j s, H.get j = some s ∧ s.b = .mp (.shp i T none)
def freshR (H : Hp) (n : Nat) (b : Body) (T : Nat) (K : Hp → Nat → Prop) : Prop := n + 1 < 1000 ∧ K ((H.put n ⟨true, b⟩).put (n + 1) ⟨false, .mp (.shp n T none)⟩) (n + 2)
def partCells : SV → List SV
  | .agg cs => cs
  | .ai k ys => ys.map fun n => .v (.int k n)
  | .v (.agg ⟨xs⟩) => xs.map .v
  | .tup _ => []
  | .v (.tuple _) => []
  | c => [c]
def fillS (cells : List SV) : List (Nat × SV) → List SV
  | [] => cells
  | (o, a) :: r => fillS (splice cells o (partCells a)) r
def fillI (k : IntKind) (ys : List Int) : List (Nat × SV) → Option (List Int)
  | [] => some ys
  | (o, .v (.int k' x)) :: r => if k' = k ∧ o < ys.length then fillI k (ys.set o x) r else none
  | _ => none
def evp (tm : List (Nat × SV)) : List (Nat × MA) → Option (List (Nat × SV))
  | [] => some []
  | (o, x) :: l => match ev tm x, evp tm l with
    | some a, some r => some ((o, a) :: r)
    | _, _ => none
def evq (tm : List (Nat × SV)) (top : Nat) : List (Nat × Nat × MA) → Option (List (Nat × SV))
  | [] => some []
  | (o, z, x) :: l => match ev tm x, evq tm top l with
    | some a, some r => if (partCells a).length = z ∧ z ≠ 0 ∧ o + z ≤ top then some ((o, a) :: r) else none
    | _, _ => none
def intsOf (k : IntKind) : List SV → Option (List Int)
  | [] => some []
  | .v (.int k' x) :: l => if k' = k then (intsOf k l).map (x :: ·) else none
  | _ => none
def strsOf : List SV → Option (List ByteArray)
  | [] => some []
  | .v (.string s) :: l => (strsOf l).map (s :: ·)
  | _ => none
def bodyOf (e : Body) (l : List SV) : Option Body := match e with
  | .ints k _ => (intsOf k l).map (.ints k)
  | .strs _ => (strsOf l).map .strs
  | .pl _ => (plsOf l).map .pl
  | .sv _ => some (.sv l)
  | .mp _ => none
def fldOf (a : SV) (off n : Nat) (ag : Bool) (K : SV → Prop) : Prop := match a with
  | .agg cs => if ag then off + n ≤ cs.length ∧ K (.agg ((cs.drop off).take n)) else ob cs[off]? K
  | .ai k ys => if ag then off + n ≤ ys.length ∧ K (.ai k ((ys.drop off).take n)) else off < ys.length ∧ K (.v (.int k (ys.getD off 0)))
  | .v (.agg ⟨xs⟩) => if ag then off + n ≤ xs.length ∧ K (.v (.agg ((xs.drop off).take n).toArray)) else ob xs[off]? fun x => K (.v x)
  | _ => False
def bnd (tm : List (Nat × SV)) (x : Option MA) (d : Int) (K : Int → Prop) : Prop := match x with
  | none => K d
  | some m => ob (ev tm m) fun a => asI a K
def smm (mn : Bool) (a b : SV) : Option SV := match a, b with
  | .v (.int k x), .v (.int k' y) => if k = k' then some (.v (.int k (if mn then (if y < x then y else x) else (if x < y then y else x)))) else none
  | _, _ => none
def smms (mn : Bool) (a : SV) : List SV → Option SV
  | [] => some a
  | b :: l => match smm mn a b with
    | some c => smms mn c l
    | none => none
abbrev Ctr := List SV → Hp → Nat → Option (SV × Hp × Nat)
abbrev PT := List SV → Hp → Nat → (SV → Hp → Nat → Prop) → Prop
structure Tab where
  f : Nat → PT
  y : Nat → PT
  isL : Loop → Nat → List Nat → MC → MC → Prop
instance : CoeFun Tab (fun _ => Nat → PT) := ⟨Tab.f⟩
def callK (c : PT) (l : List SV) (H : Hp) (n : Nat) (K : SV → Hp → Nat → Prop) : Prop := ∃ K0 : SV → Hp → Nat → Prop, c l H n K0 ∧ ∀ v H n, K0 v H n → K v H n
theorem callK_mono {c : PT} {l : List SV} {H : Hp} {n : Nat} {K K' : SV → Hp → Nat → Prop} (h : ∀ v H n, K v H n → K' v H n) : callK c l H n K → callK c l H n K' := fun ⟨K0, h0, h1⟩ => ⟨K0, h0, fun v H n hk => h _ _ _ (h1 v H n hk)⟩
def appS (A B D : Prop) : Prop := A ∨ B ∨ D
def appC (H : Hp) (n i o m q z : Nat) (e b1 b2 : Body) (K : SV → Hp → Nat → Prop) : Prop :=
  let A := b1.cat b2 fun b => fresh (H.kill i) n b fun H' n' => K (.sl n 0 (m + q) z) H' n'
  match e with
  | .strs _ => if i = 0 then A else appS A
      (ob (H.get i) fun s => 0 < q ∧ s.b.isS = true ∧ o + (m + q) * z ≤ s.b.cells.length ∧ s.b.over (o + m * z) b2 fun b => K (.sl i o (m + q) z) (H.put i ⟨true, b⟩) n)
      (ob (H.get i) fun s => 0 < q ∧ o + m * z = s.b.cells.length ∧ n < 1000 ∧ b1.cat b2 fun b => K (.sl n 0 (m + q) z) ((H.put i ⟨false, s.b⟩).put n ⟨false, b⟩) (n + 1))
  | _ => A
def sop (C : Tab) (tm : List (Nat × SV)) (H : Hp) (n : Nat) : MO → (SV → Hp → Nat → Prop) → Prop
  | .mov x, K => ob (ev tm x) fun a => K a H n
  | .pick c a b, K => ob (ev tm c) fun c => asB c fun t => ob (ev tm (if t then a else b)) fun a => K a H n
  | .bin op x y, K => ob (ev tm x) fun a => ob (ev tm y) fun b => sbin op a b fun c => K c H n
  | .binA op x y fs, K => ob (ev tm x) fun a => ob (ev tm y) fun b => sbinA op fs a b fun c => K c H n
  | .binB op x y, K => ob (ev tm x) fun a => ob (ev tm y) fun b => sbinB op a b fun c => K c H n
  | .binP op x y, K => ob (ev tm x) fun a => ob (ev tm y) fun b => sbinP op a b fun c => K c H n
  | .un op x, K => ob (ev tm x) fun a => sun op a fun c => K c H n
  | .conv k x, K => ob (ev tm x) fun a => asI a fun x => K (.v (.int k (k.wrap x))) H n
  | .r2s x, K => ob (ev tm x) fun a => asI a fun x => K (.v (.string (Utf8.encode x))) H n
  | .s2b x, K => ob (ev tm x) fun a => asS a fun s => s.size ≤ 140737488355328 ∧ fresh H n (.ints .u8 (bts s)) fun H' n' => K (.sl n 0 s.size 1) H' n'
  | .b2s x, K => ob (ev tm x) fun a => asSl a fun i o m z => (i ≠ 0 → z = 1) ∧ rowOf H i o m (.ints .u8 []) fun b => asBy b fun ys => K (.v (.string (tx ys))) H n
  | .alloc b, K => fresh H n b fun H' n' => K (.ptr n 0) H' n'
  | .allocT b T c, K => freshT H n b T c fun H' n' => K (.ptr n 0) H' n'
  | .boxT x T, K => ob (ev tm x) fun a => match a with
      | .agg cs => freshT H n (.sv cs) T cs.length fun H' n' => K (.ptr n 0) H' n'
      | _ => False
  | .box x, K => ob (ev tm x) fun a => match a with
      | .ai k ys => fresh H n (.ints k ys) fun H' n' => K (.ptr n 0) H' n'
      | .v (.agg ⟨xs⟩) => fresh H n (.pl xs) fun H' n' => K (.ptr n 0) H' n'
      | .agg cs => fresh H n (.sv cs) fun H' n' => K (.ptr n 0) H' n'
      | .tup _ => False
      | .v (.tuple _) => False
      | a => fresh H n (.sv [a]) fun H' n' => K (.ptr n 0) H' n'
  | .bld zero parts, K => ob (evq tm zero.length parts) fun ps => K (.agg (fillS zero ps)) H n
  | .bldI k m parts, K => ob (evp tm parts) fun ps => ob (fillI k (List.replicate m 0) ps) fun ys => K (.ai k ys) H n
  | .rowI k xs, K => ob (evs tm xs) fun l => ob (intsOf k l) fun ys => fresh H n (.ints k ys) fun H' n' => K (.sl n 0 ys.length 1) H' n'
  | .rowS xs, K => ob (evs tm xs) fun l => ob (strsOf l) fun ys => fresh H n (.strs ys) fun H' n' => K (.sl n 0 ys.length 1) H' n'
  | .rowV z e xs, K => ob (evs tm xs) fun l => (l.all fun a => (partCells a).length == z) = true ∧ z ≠ 0 ∧ ob (bodyOf e (l.flatMap partCells)) fun b => fresh H n b fun H' n' => K (.sl n 0 l.length z) H' n'
  | .slnil ne x, K => ob (ev tm x) fun a => asSl a fun i o m z => if i = 0 then K (.v (.bool (!ne))) H n else ob (H.get i) fun s => (m = 0 → s.b.cells = [] → K (.v (.bool (!ne))) H n) ∧ K (.v (.bool ne)) H n
  | .ld x, K => ob (ev tm x) fun a => asP a fun i o => ob (H.get i) fun s => s.b.get o fun c => K c H n
  | .ldn x m, K => ob (ev tm x) fun a => asP a fun i o => ob (H.get i) fun s => s.b.getN o m fun c => K c H n
  | .st x a, K => ob (ev tm x) fun p => ob (ev tm a) fun a => asP p fun i o => ob (H.get i) fun s => s.wr = true ∧ s.b.set o a fun b => K (.v undef) (H.put i ⟨true, b⟩) n
  | .stn x a m, K => ob (ev tm x) fun p => ob (ev tm a) fun a => asP p fun i o => ob (H.get i) fun s => s.wr = true ∧ s.b.setN o m a fun b => K (.v undef) (H.put i ⟨true, b⟩) n
  | .nilck x, K => ob (ev tm x) fun a => match a with
      | .ptr i o => K (.ptr i o) H n
      | .fn f c => K (.fn f c) H n
      | .v (.func (.func f) a c) => K (.v (.func (.func f) a c)) H n
      | _ => False
  | .fld x off m ag, K => ob (ev tm x) fun a => fldOf a off m ag fun c => K c H n
  | .fadr x off, K => ob (ev tm x) fun a => asP a fun i o => K (.ptr i (o + off)) H n
  | .idxA x i z, K => ob (ev tm x) fun a => ob (ev tm i) fun j => asSl a fun i o m z' => asI j fun j => z' = z ∧ (0 ≤ j ∧ j < m) ∧ K (.ptr i (o + j.toNat * z)) H n
  | .idxP x i m z, K => ob (ev tm x) fun a => ob (ev tm i) fun j => asP a fun i o => asI j fun j => (0 ≤ j ∧ j < m) ∧ K (.ptr i (o + j.toNat * z)) H n
  | .idxS x i, K => ob (ev tm x) fun a => ob (ev tm i) fun j => asS a fun s => asI j fun j => (0 ≤ j ∧ j < s.size) ∧ K (.v (.int .u8 ((bts s).getD j.toNat 0))) H n
  | .idxV x i m, K => ob (ev tm x) fun a => ob (ev tm i) fun j => asI j fun j => (0 ≤ j ∧ j < m) ∧ fldOf a j.toNat 1 false fun c => K c H n
  | .slS x lo hi, K => ob (ev tm x) fun a => asS a fun s => bnd tm hi s.size fun h => bnd tm lo 0 fun l => (0 ≤ l ∧ l ≤ h ∧ h ≤ s.size) ∧ K (.v (.string (s.extract l.toNat h.toNat))) H n
  | .slL x lo hi z, K => ob (ev tm x) fun a => asSl a fun i o m z' => z' = z ∧ bnd tm hi m fun h => bnd tm lo 0 fun l => (0 ≤ l ∧ l ≤ h ∧ h ≤ m) ∧ K (.sl i (o + l.toNat * z) (h.toNat - l.toNat) z) H n
  | .slP x lo hi m z, K => ob (ev tm x) fun a => asP a fun i o => ob (H.get i) fun s => 0 < m * z ∧ (o + m * z ≤ s.b.cells.length) ∧ s.b.loose ∧ bnd tm hi m fun h => bnd tm lo 0 fun l => (0 ≤ l ∧ l ≤ h ∧ h ≤ m) ∧ K (.sl i (o + l.toNat * z) (h.toNat - l.toNat) z) H n
  | .slM x lo hi mx z, K => ob (ev tm x) fun a => asSl a fun i o m z' => z' = z ∧ ob (ev tm mx) fun c => asI c fun c => ob (ev tm hi) fun h => asI h fun h => bnd tm lo 0 fun l => (0 ≤ l ∧ l ≤ h ∧ h ≤ c ∧ c ≤ m) ∧ ob (H.get i) fun s => s.b.loose ∧ K (.sl i (o + l.toNat * z) (h.toNat - l.toNat) z) H n
  | .mk zero l c z by_, K => ob (ev tm l) fun l => ob (ev tm c) fun c => asI l fun l => asI c fun c => (0 ≤ l ∧ l ≤ c ∧ c ≤ 140737488355328 ∧ by_ * c ≤ 140737488355328) ∧ fresh H n (zero.reps c.toNat) fun H' n' => K (.sl n 0 l.toNat z) H' n'
  | .lenS x, K => ob (ev tm x) fun a => asS a fun s => K (.v (.int .i64 s.size)) H n
  | .lenL x, K => ob (ev tm x) fun a => asSl a fun _ _ m _ => K (.v (.int .i64 m)) H n
  | .lenM x, K => ob (ev tm x) fun a => match a with
      | .v (.map none) => K (.v (.int .i64 0)) H n
      | .mp i => ob (H.get i) fun s => asM s.b fun es => K (.v (.int .i64 es.length)) H n
      | _ => False
  | .mkM, K => fresh H n (.mp (.map [])) fun H' n' => K (.mp n) H' n'
  | .luM x k z ok, K => ob (ev tm x) fun a => ob (ev tm k) fun b => asS b fun s => mpOf H a fun es => keysS es = true ∧ K (luV (luS es s) z ok) H n
  | .upM x k y, K => ob (ev tm x) fun a => ob (ev tm k) fun b => ob (ev tm y) fun c => asS b fun s => plV c fun y => mpUp H a fun i es => keysS es = true ∧ K (.v undef) (H.put i ⟨true, .mp (.map (upS es s y))⟩) n
  | .delM x k, K => ob (ev tm x) fun a => ob (ev tm k) fun b => asS b fun s => mpUp H a fun i es => keysS es = true ∧ K (.tup []) (H.put i ⟨true, .mp (.map (dlS es s))⟩) n
  | .app x y e z by_, K => ob (ev tm x) fun a => ob (ev tm y) fun b => asSl a fun i o m z1 => asSl b fun j p q z2 => (i ≠ 0 → z1 = z) ∧ (j ≠ 0 → z2 = z) ∧ wrOf H i ∧
      (m + q) * by_ ≤ 140737488355328 ∧ (m + q ≤ 140737488355328) ∧ rowOf H i o (m * z) e fun b1 => rowOf H j p (q * z) e fun b2 => b2.ones ∧ appC H n i o m q z e b1 b2 K
  | .appS x y e, K => ob (ev tm x) fun a => ob (ev tm y) fun b => asSl a fun i o m z1 => asS b fun s => (i ≠ 0 → z1 = 1) ∧ wrOf H i ∧
      (m + s.size ≤ 140737488355328) ∧ rowOf H i o m e fun b1 => b1.cat (.ints .u8 (bts s)) fun b => fresh (H.kill i) n b fun H' n' => K (.sl n 0 (m + s.size) 1) H' n'
  | .appST x y e T, K => ob (ev tm x) fun a => ob (ev tm y) fun b => asSl a fun i o m z1 => asS b fun s => (i ≠ 0 → z1 = 1) ∧ wrOf H i ∧
      (m + s.size ≤ 140737488355328) ∧ shpOf H i o T ∧ rowOf H i o m e fun b1 => b1.cat (.ints .u8 (bts s)) fun b => freshR (H.kill i) n b T fun H' n' => K (.sl n 0 (m + s.size) 1) H' n'
  | .appZ x y e zero z by_, K => ob (ev tm x) fun a => ob (ev tm y) fun b => asSl a fun i o m z1 => asI b fun q => (i ≠ 0 → z1 = z) ∧ wrOf H i ∧ 0 ≤ q ∧
      (m + q.toNat) * by_ ≤ 140737488355328 ∧ (m + q.toNat ≤ 140737488355328) ∧ zero.ones ∧ rowOf H i o (m * z) e fun b1 => b1.cat (zero.reps q.toNat) fun b => fresh (H.kill i) n b fun H' n' => K (.sl n 0 (m + q.toNat) z) H' n'
  | .cpy x y z, K => ob (ev tm x) fun a => ob (ev tm y) fun b => asSl a fun i o m z1 => asSl b fun j p q z2 => z1 = z ∧ z2 = z ∧ ob (H.get i) fun s => s.wr = true ∧ ob (H.get j) fun t =>
      t.b.part p (min q m * z) fun c => c.ones ∧ s.b.over o c fun b => K (.v (.int .i64 (min q m : Nat))) (H.put i ⟨true, b⟩) n
  | .cpyS x y, K => ob (ev tm x) fun a => ob (ev tm y) fun b => asSl a fun i o m z1 => asS b fun t => z1 = 1 ∧ ob (H.get i) fun s => s.wr = true ∧
      s.b.over o (.ints .u8 ((bts t).take (min t.size m))) fun b => K (.v (.int .i64 (min t.size m : Nat))) (H.put i ⟨true, b⟩) n
  | .mm mn x xs, K => ob (ev tm x) fun a => ob (evs tm xs) fun l => ob (smms mn a l) fun c => K c H n
  | .call f args, K => ob (evs tm args) fun l => callK (C f) l H n K
  | .callv g args, K => ob (ev tm g) fun g => ob (evs tm args) fun l => match g with
      | .fn f caps => callK (C f) (l ++ caps) H n K
      | .v (.func (.func f) ⟨[]⟩ ⟨[]⟩) => callK (C f) l H n K
      | .yl i => callK (C.y i) l H n K
      | _ => False
  | .ext x m, K => ob (ev tm x) fun a => match a with
      | .tup cs => ob cs[m]? fun c => K c H n
      | .v (.tuple ⟨xs⟩) => ob xs[m]? fun x => K (.v x) H n
      | _ => False
  | .mkfn f caps, K => ob (evs tm caps) fun l => l.all SV.leaf = true ∧ K (if l.isEmpty then .v (.func (.func f) #[] #[]) else .fn f l) H n
structure St where
  tm : List (Nat × SV)
  hp : Hp
  nx : Nat
def put (tm : List (Nat × SV)) (d : Option Nat) (v : SV) : List (Nat × SV) := match d with
  | some d => (d, v) :: tm
  | none => tm
end Go.Sx

/- What the model's operations on memory do, as laws on a block. -/
set_option linter.unusedVariables false
namespace Go.Sx
variable {P : Program} {w : World}
theorem add_plain (b o i : Nat) : (⟨b, o, none⟩ : Addr).add i = ⟨b, o + i, none⟩ := by
  unfold Addr.add; split
  · rename_i h; subst h; rfl
  · rfl
theorem add_zero (a : Addr) : a.add 0 = a := by simp [Addr.add]
theorem cell_of {b o : Nat} {c : Array Value} {T : TypeId} {fr : Nat × Nat} (h : w.heap[b]? = some (.cells c T fr)) : w.cell? ⟨b, o, none⟩ = c[o]? := by
  simp [World.cell?, h]
theorem frozen_of {b o : Nat} {c : Array Value} {T : TypeId} {fr : Nat × Nat} (h : w.heap[b]? = some (.cells c T fr)) (hn : ¬ (fr.1 ≤ o ∧ o < fr.2)) : w.frozen? ⟨b, o, none⟩ = false := by
  obtain ⟨lo, hi⟩ := fr
  simp only [World.frozen?, h]
  simpa using hn
theorem run_ld {b o : Nat} {c : Array Value} {T : TypeId} {fr : Nat × Nat} {x : Value} (h : w.heap[b]? = some (.cells c T fr)) (hx : c[o]? = some x) : (load ⟨b, o, none⟩).run P w = .ok x w := by
  simp [run_load, cell_of h, hx]
theorem run_loadCellsFrom {b o : Nat} {c : Array Value} {T : TypeId} {fr : Nat × Nat} (h : w.heap[b]? = some (.cells c T fr)) :
    ∀ (vs : List Value) (i : Nat) (acc : Array Value), (∀ (j : Nat) (x : Value), vs[j]? = some x → c[o + i + j]? = some x) →
      (loadCellsFrom ⟨b, o, none⟩ i vs.length acc).run P w = .ok (acc ++ vs.toArray) w
  | [], i, acc, _ => by simp [loadCellsFrom]
  | v :: r, i, acc, hv => by
    have h0 : c[o + i]? = some v := by simpa using hv 0 v rfl
    simp only [List.length_cons, loadCellsFrom, Sem.run_bind, add_plain, run_ld h h0, Result.andThen_ok]
    rw [run_loadCellsFrom h r (i + 1) (acc.push v) (fun j x hx => by
      have := hv (j + 1) x (by simpa using hx)
      rwa [show o + (i + 1) + j = o + i + (j + 1) by omega])]
    simp
theorem run_loadCells {b o : Nat} {c : Array Value} {T : TypeId} {fr : Nat × Nat} (h : w.heap[b]? = some (.cells c T fr)) (vs : List Value) (hv : ∀ (j : Nat) (x : Value), vs[j]? = some x → c[o + j]? = some x) :
    (loadCells ⟨b, o, none⟩ vs.length).run P w = .ok vs.toArray w := by
  unfold loadCells
  rw [run_loadCellsFrom h vs 0 #[] (fun j x hx => by simpa using hv j x hx)]
  simp
def stc (c : Array Value) (o : Nat) : List Value → Array Value
  | [] => c
  | v :: r => stc (c.setIfInBounds o v) (o + 1) r
theorem stc_size (c : Array Value) (o : Nat) (vs : List Value) : (stc c o vs).size = c.size := by
  induction vs generalizing c o with
  | nil => rfl
  | cons v r ih => simp [stc, ih]
theorem stc_get (c : Array Value) (o : Nat) (vs : List Value) (j : Nat) (hb : o + vs.length ≤ c.size) :
    (stc c o vs)[j]? = if o ≤ j ∧ j < o + vs.length then vs[j - o]? else c[j]? := by
  induction vs generalizing c o with
  | nil => simp [stc]; omega
  | cons v r ih =>
    simp only [List.length_cons] at hb
    simp only [stc]
    rw [ih (c.setIfInBounds o v) (o + 1) (by simp; omega)]
    by_cases h1 : j = o
    · subst h1
      rw [if_neg (by omega), if_pos (by simp)]
      rw [show j - j = 0 by omega, Array.getElem?_setIfInBounds_self_of_lt (by omega)]
      rfl
    · by_cases h2 : o + 1 ≤ j ∧ j < o + 1 + r.length
      · rw [if_pos h2, if_pos (by simp; omega)]
        rw [show j - o = (j - (o + 1)) + 1 by omega, List.getElem?_cons_succ]
      · rw [if_neg h2, if_neg (by simp; omega)]
        rw [Array.getElem?_setIfInBounds_ne (Ne.symm h1)]
def wset (w : World) (b : Nat) (o : Obj) : World := { w with heap := w.heap.setIfInBounds b o }
theorem wset_heap_ne (w : World) (b k : Nat) (o : Obj) (h : k ≠ b) : (wset w b o).heap[k]? = w.heap[k]? := by
  simp [wset, Array.getElem?_setIfInBounds_ne (Ne.symm h)]
theorem wset_heap (w : World) (b : Nat) (o p : Obj) (h : w.heap[b]? = some p) : (wset w b o).heap[b]? = some o := by
  have : b < w.heap.size := (Array.getElem?_eq_some_iff.1 h).1
  simp [wset, this]
theorem wset_wset (w : World) (b : Nat) (o p : Obj) : wset (wset w b o) b p = wset w b p := by simp [wset]
theorem wset_same (w : World) (b : Nat) (o : Obj) (h : w.heap[b]? = some o) : wset w b o = w := by
  have hlt : b < w.heap.size := (Array.getElem?_eq_some_iff.1 h).1
  have : w.heap.setIfInBounds b o = w.heap := by
    apply Array.ext_getElem?
    intro i
    by_cases hi : b = i
    · subst hi; rw [Array.getElem?_setIfInBounds_self_of_lt hlt, h]
    · rw [Array.getElem?_setIfInBounds_ne hi]
  unfold wset
  rw [this]
theorem setCell_wset {b o : Nat} {c : Array Value} {T : TypeId} {fr : Nat × Nat} (h : w.heap[b]? = some (.cells c T fr)) (v : Value) :
    w.setCell ⟨b, o, none⟩ v = wset w b (.cells (c.setIfInBounds o v) T fr) := by
  have hlt : b < w.heap.size := (Array.getElem?_eq_some_iff.1 h).1
  unfold World.setCell wset
  congr 1
  apply Array.ext_getElem?
  intro i
  rw [Array.getElem?_modify]
  by_cases hi : b = i
  · subst hi; rw [Array.getElem?_setIfInBounds_self_of_lt hlt]; simp [h]
  · rw [Array.getElem?_setIfInBounds_ne hi]; simp [hi]
theorem run_store1 {b o : Nat} {c : Array Value} {T : TypeId} {fr : Nat × Nat} (h : w.heap[b]? = some (.cells c T fr)) (ho : o < c.size) (hn : ¬ (fr.1 ≤ o ∧ o < fr.2)) (v : Value) (hv : v.oneCell' = true) :
    (store ⟨b, o, none⟩ v).run P w = .ok () (wset w b (.cells (c.setIfInBounds o v) T fr)) := by
  rw [run_store P w _ v .plain hv]
  rw [cell_of h, Array.getElem?_eq_getElem ho, frozen_of h hn, setCell_wset h]
  simp
theorem run_storeCells {b o : Nat} {T : TypeId} {fr : Nat × Nat} : ∀ (vs : List Value) (i : Nat) (c : Array Value) (w : World), w.heap[b]? = some (.cells c T fr) → o + i + vs.length ≤ c.size →
    (∀ j, j < vs.length → ¬ (fr.1 ≤ o + i + j ∧ o + i + j < fr.2)) → (∀ v ∈ vs, v.oneCell' = true) →
    (storeCells ⟨b, o, none⟩ vs i).run P w = .ok () (wset w b (.cells (stc c (o + i) vs) T fr))
  | [], i, c, w, h, _, _, _ => by simp [storeCells, stc, wset_same w b _ h]
  | v :: r, i, c, w, h, hs, hf, h1 => by
    simp only [List.length_cons] at hs hf
    have hst := run_store1 (P := P) h (o := o + i) (by omega) (by simpa using hf 0 (by omega)) v (h1 v (List.mem_cons_self ..))
    simp only [storeCells, Sem.run_bind, add_plain, hst, Result.andThen_ok, stc]
    rw [run_storeCells r (i + 1) (c.setIfInBounds (o + i) v) _ (wset_heap _ _ _ _ h) (by simp; omega) (fun j hj => by
      have := hf (j + 1) (by omega)
      rwa [show o + (i + 1) + j = o + i + (j + 1) by omega]) (fun x hx => h1 x (List.mem_cons_of_mem _ hx))]
    rw [wset_wset, show o + (i + 1) = o + i + 1 by omega]
theorem run_underlying' {t : TypeId} {d : TypeDesc} (h : P.underlying t = some d) : (underlying t).run P w = .ok d w := by
  simp [underlying, h]
theorem run_sizeOf' {t : TypeId} {i : TypeInfo} (h : P.info? t = some i) : (sizeOf t).run P w = .ok i.size w := by
  simp [sizeOf, typeInfo, h]
theorem run_isAgg' {t : TypeId} {d : TypeDesc} (h : P.underlying t = some d) : (isAgg t).run P w = .ok (isAggT P t) w := by
  simp only [isAgg, Sem.run_bind, run_underlying' h, Result.andThen_ok, isAggT, h]
  cases d <;> rfl
theorem info_of_underlying {t : TypeId} {d : TypeDesc} (h : P.underlying t = some d) : ∃ i, P.info? t = some i := by
  unfold Program.underlying at h
  cases hi : P.info? t with
  | none => rw [hi] at h; cases h
  | some i => exact ⟨i, rfl⟩
theorem szOf_eq {t : TypeId} {i : TypeInfo} (h : P.info? t = some i) : szOf P t = i.size := by simp [szOf, h]
theorem byOf_eq {t : TypeId} {i : TypeInfo} (h : P.info? t = some i) : byOf P t = i.bytes := by simp [byOf, h]
end Go.Sx

/- One operation that leaves memory alone: what it yields. -/
set_option linter.unusedVariables false
namespace Go.Sx
variable {P : Program} {F : Nat → Prop} {w0 w : World} {ρ : Nat → Loc} {n : Nat} {H : Hp} {tm : List (Nat × SV)} {a : Act}
structure TRel (ρ : Nat → Loc) (n : Nat) (tm : List (Nat × SV)) (a : Act) : Prop where
  get : ∀ t v, lk tm t = some v → (∃ x, a.tmps[t]? = some x ∧ rel ρ v x) ∧ ltT n v = true
theorem rel_v {x y : Value} : rel ρ (.v x) y ↔ y = x := Iff.rfl
theorem ltT_v {x : Value} : ltT n (.v x) = true := rfl
theorem rel_svOf (hn : (ρ 0).blk = none) (z : Nat) (x : Value) : rel ρ (svOf z x) x := by
  unfold svOf
  split
  · show slrel (ρ 0) 0 0 z _
    simp [slrel, slno, hn]
  · rfl
theorem lt_svOf (hp : 0 < n) (z : Nat) (x : Value) : ltT n (svOf z x) = true := by
  unfold svOf
  split
  · show idOK n 0 = true
    unfold idOK; simp; omega
  · rfl
theorem ev_ok (hH : HRel F w0 ρ n H w) (hT : TRel ρ n tm a) {ty : TypeId} {x : Operand} {v : SV} (h : ev tm (trA P ty x) = some v) : rel ρ v (a.eval x) ∧ ltT n v = true := by
  cases x with
  | tmp t =>
    obtain ⟨⟨y, hy, hr⟩, hl⟩ := hT.get t v h
    refine ⟨?_, hl⟩
    have : a.eval (.tmp t) = y := by simp [Act.eval, hy]
    rw [this]; exact hr
  | const c =>
    simp only [trA, ev, Option.some.injEq] at h
    subst h
    exact ⟨rel_svOf hH.nil.1 _ _, lt_svOf hH.pos _ _⟩
  | global g =>
    simp only [trA] at h
    split at h
    · rename_i hg
      simp only [ev, Option.some.injEq] at h
      subst h
      obtain ⟨h1, h2⟩ := hH.gl g hg
      refine ⟨⟨g, h1, by rw [h2]; rfl⟩, ?_⟩
      show idOK n (gId g) = true
      unfold idOK gId
      rw [decide_eq_true (p := 1000 ≤ _) (by omega), Bool.or_true]
    · simp only [ev, Option.some.injEq] at h
      subst h
      exact ⟨rfl, rfl⟩
  | func f =>
    simp only [trA, ev, Option.some.injEq] at h
    subst h
    exact ⟨rfl, rfl⟩
theorem evs_ok (hH : HRel F w0 ρ n H w) (hT : TRel ρ n tm a) : ∀ {xs : List (Operand × TypeId)} {vs : List SV}, evs tm (xs.map fun p => trA P p.2 p.1) = some vs →
    All2 (rel ρ) vs (xs.map fun p => a.eval p.1) ∧ vs.all (ltT n) = true
  | [], vs, h => by simp only [List.map, evs, Option.some.injEq] at h; subst h; exact ⟨trivial, rfl⟩
  | x :: l, vs, h => by
    simp only [List.map, evs] at h
    cases h1 : ev tm (trA P x.2 x.1) with
    | none => simp [h1] at h
    | some v =>
      cases h2 : evs tm (l.map fun p => trA P p.2 p.1) with
      | none => simp [h1, h2] at h
      | some r =>
        simp only [h1, h2, Option.some.injEq] at h
        subst h
        have e1 := ev_ok hH hT h1
        have e2 := evs_ok hH hT h2
        exact ⟨⟨e1.1, e2.1⟩, by simp only [List.all_cons, e1.2, e2.2, Bool.and_self]⟩
def Gets (P : Program) (F : Nat → Prop) (w0 : World) (ρ : Nat → Loc) (n : Nat) (s : Sem Value) (w : World) (K : SV → Hp → Nat → Prop) : Prop :=
  ∃ x w' v H' n' ρ', s.run P w = .ok x w' ∧ K v H' n' ∧ HRel F w0 ρ' n' H' w' ∧ Ext n ρ ρ' ∧ n ≤ n' ∧ rel ρ' v x ∧ ltT n' v = true
theorem Gets.same {s : Sem Value} {K : SV → Hp → Nat → Prop} {x : Value} {v : SV} (hH : HRel F w0 ρ n H w) (h : s.run P w = .ok x w) (hK : K v H n) (hr : rel ρ v x) (hl : ltT n v = true) : Gets P F w0 ρ n s w K :=
  ⟨x, w, v, H, n, ρ, h, hK, hH, Ext.refl _ _, Nat.le_refl _, hr, hl⟩
theorem run_ibin {op : BinOp} {k k' : IntKind} {x y : Int} {t : TypeId} {K : SV → Prop} (h : ibin op k x k' y K) : ∃ z, (binOp op t (.int k x) (.int k' y)).run P w = .ok z w ∧ K (.v z) := by
  cases op <;> simp only [ibin] at h
  case shl => obtain ⟨h0, h⟩ := h; exact ⟨_, by simp [binOp, Op.shift, Int.not_lt.2 h0]; rfl, h⟩
  case shr => obtain ⟨h0, h⟩ := h; exact ⟨_, by simp [binOp, Op.shift, Int.not_lt.2 h0]; rfl, h⟩
  case quo => obtain ⟨rfl, h0, h⟩ := h; exact ⟨_, by simp only [binOp, Op.intDiv, h0, ne_eq, not_true_eq_false, if_false]; rfl, h⟩
  case rem => obtain ⟨rfl, h0, h⟩ := h; exact ⟨_, by simp only [binOp, Op.intDiv, h0, ne_eq, not_true_eq_false, if_false]; rfl, h⟩
  all_goals
    obtain ⟨rfl, h⟩ := h
    exact ⟨_, by simp only [binOp, ne_eq, not_true_eq_false, if_false]; rfl, h⟩
theorem run_strbin {op : BinOp} {s t : ByteArray} {ty : TypeId} {K : SV → Prop} (h : strbin op s t K) : ∃ z, (binOp op ty (.string s) (.string t)).run P w = .ok z w ∧ K (.v z) := by
  cases op <;> simp only [strbin] at h
  case add =>
    obtain ⟨h0, h⟩ := h
    refine ⟨_, ?_, h⟩
    have hm : IntKind.i64.max = 9223372036854775807 := by decide
    simp only [binOp, Op.stringOp, hm]
    rw [if_neg (by omega)]; rfl
  all_goals first
    | exact h.elim
    | exact ⟨_, by simp only [binOp]; rfl, h⟩
theorem run_boolbin {op : BinOp} {s t : Bool} {ty : TypeId} {K : SV → Prop} (hu : P.underlying ty = some .bool) (h : boolbin op s t K) : ∃ z, (binOp op ty (.bool s) (.bool t)).run P w = .ok z w ∧ K (.v z) := by
  cases op <;> simp only [boolbin] at h
  case eql => exact ⟨_, run_eql_bool (w := w) ty s t hu, h⟩
  case neq => exact ⟨_, run_neq_bool (w := w) ty s t hu, h⟩
  all_goals exact h.elim
theorem run_eqGuard {op : BinOp} {t : TypeId} {x y : Operand} {u v : Value} (hu : ∀ cs, u ≠ .agg cs) (hv : u ≠ .nilIface) : (eqGuard op t x y u v).run P w = .ok () w := by
  unfold eqGuard
  cases op <;> simp
  all_goals
    split
    · exact absurd rfl hv
    · exact absurd rfl (hu _)
    · rfl
theorem run_ptrbin {op : BinOp} {p q : Option Addr} {e : Bool} {ty : TypeId} {K : SV → Prop} {d : TypeId} (hu : P.underlying ty = some (.pointer d)) (hpq : p = none ∨ q = none) (he : e = (p.isNone && q.isNone)) (h : ptrbin op e K) :
    ∃ z, (binOp op ty (.pointer p) (.pointer q)).run P w = .ok z w ∧ K (.v z) := by
  have key : (Op.equal ty (.pointer p) (.pointer q)).run P w = .ok e w := by
    subst he
    simp only [Op.equal, Op.maxDepth]
    rw [show (10000 : Nat) = 9999 + 1 from rfl, Op.equalIn]
    simp only [Sem.run_bind, run_underlying' hu, Result.andThen_ok]
    rcases hpq with rfl | rfl
    · cases q <;> rfl
    · cases p <;> rfl
  cases op <;> simp only [ptrbin] at h
  case eql => exact ⟨_, by simp only [binOp, Sem.run_bind, key, Result.andThen_ok]; rfl, h⟩
  case neq => exact ⟨_, by simp only [binOp, Sem.run_bind, key, Result.andThen_ok]; rfl, h⟩
  all_goals exact h.elim
theorem run_sbin {op : BinOp} {ty : TypeId} {x y : Operand} {va vb : SV} {xa xb : Value} {K : SV → Prop} (ha : rel ρ va xa) (hb : rel ρ vb xb)
    (h : sbin op va vb K) : ∃ z, (do eqGuard op ty x y xa xb; binOp op ty xa xb : Sem Value).run P w = .ok z w ∧ K (.v z) := by
  unfold sbin at h
  split at h
  · rw [rel_v] at ha hb; subst ha hb
    obtain ⟨z, hz, hK⟩ := run_ibin (P := P) (w := w) (t := ty) h
    exact ⟨z, by rw [Sem.run_bind, run_eqGuard (by simp) (by simp), Result.andThen_ok, hz], hK⟩
  · rw [rel_v] at ha hb; subst ha hb
    obtain ⟨z, hz, hK⟩ := run_strbin (P := P) (w := w) (ty := ty) h
    exact ⟨z, by rw [Sem.run_bind, run_eqGuard (by simp) (by simp), Result.andThen_ok, hz], hK⟩
  · exact h.elim
theorem run_sbinB {op : BinOp} {ty : TypeId} {x y : Operand} {va vb : SV} {xa xb : Value} {K : SV → Prop} (hu : P.underlying ty = some .bool) (ha : rel ρ va xa) (hb : rel ρ vb xb)
    (h : sbinB op va vb K) : ∃ z, (do eqGuard op ty x y xa xb; binOp op ty xa xb : Sem Value).run P w = .ok z w ∧ K (.v z) := by
  unfold sbinB at h
  split at h
  · rw [rel_v] at ha hb; subst ha hb
    obtain ⟨z, hz, hK⟩ := run_boolbin (P := P) (w := w) (ty := ty) hu h
    exact ⟨z, by rw [Sem.run_bind, run_eqGuard (by simp) (by simp), Result.andThen_ok, hz], hK⟩
  · exact h.elim
theorem run_sbinP {op : BinOp} {ty e : TypeId} {x y : Operand} {va vb : SV} {xa xb : Value} {K : SV → Prop} (hu : P.underlying ty = some (.pointer e)) (ha : rel ρ va xa) (hb : rel ρ vb xb)
    (h : sbinP op va vb K) : ∃ z, (do eqGuard op ty x y xa xb; binOp op ty xa xb : Sem Value).run P w = .ok z w ∧ K (.v z) := by
  unfold sbinP at h
  split at h
  · rw [rel_v] at ha hb; subst ha hb
    obtain ⟨z, hz, hK⟩ := run_ptrbin (P := P) (w := w) (ty := ty) (p := none) (q := none) hu (.inl rfl) rfl h
    exact ⟨z, by rw [Sem.run_bind, run_eqGuard (by simp) (by simp), Result.andThen_ok, hz], hK⟩
  · rw [rel_v] at hb; subst hb
    obtain ⟨b, _, rfl⟩ := ha
    obtain ⟨z, hz, hK⟩ := run_ptrbin (P := P) (w := w) (ty := ty) (p := some _) (q := none) hu (.inr rfl) rfl h
    exact ⟨z, by rw [Sem.run_bind, run_eqGuard (by simp) (by simp), Result.andThen_ok, hz], hK⟩
  · rw [rel_v] at ha; subst ha
    obtain ⟨b, _, rfl⟩ := hb
    obtain ⟨z, hz, hK⟩ := run_ptrbin (P := P) (w := w) (ty := ty) (p := none) (q := some _) hu (.inl rfl) rfl h
    exact ⟨z, by rw [Sem.run_bind, run_eqGuard (by simp) (by simp), Result.andThen_ok, hz], hK⟩
  · exact h.elim
theorem run_sun {op : UnOp} {va : SV} {xa : Value} {K : SV → Prop} (ha : rel ρ va xa) (h : sun op va K) : ∃ z, (Op.unary op xa).run P w = .ok z w ∧ K (.v z) := by
  unfold sun at h
  split at h
  all_goals first
    | exact h.elim
    | (rw [rel_v] at ha; subst ha; exact ⟨_, by simp only [Op.unary]; rfl, h⟩)
theorem asI_elim {v : SV} {K : Int → Prop} (h : asI v K) : ∃ k x, v = .v (.int k x) ∧ K x := by
  unfold asI at h; split at h
  · exact ⟨_, _, rfl, h⟩
  · exact h.elim
theorem asB_elim {v : SV} {K : Bool → Prop} (h : asB v K) : ∃ x, v = .v (.bool x) ∧ K x := by
  unfold asB at h; split at h
  · exact ⟨_, rfl, h⟩
  · exact h.elim
theorem asS_elim {v : SV} {K : ByteArray → Prop} (h : asS v K) : ∃ x, v = .v (.string x) ∧ K x := by
  unfold asS at h; split at h
  · exact ⟨_, rfl, h⟩
  · exact h.elim
theorem asP_elim {v : SV} {K : Nat → Nat → Prop} (h : asP v K) : ∃ i o, v = .ptr i o ∧ K i o := by
  unfold asP at h; split at h
  · exact ⟨_, _, rfl, h⟩
  · exact h.elim
theorem asBy_elim {b : Body} {K : List Int → Prop} (h : asBy b K) : ∃ ys, b = .ints .u8 ys ∧ K ys := by
  unfold asBy at h; split at h
  · exact ⟨_, rfl, h⟩
  · exact h.elim
theorem asM_elim {b : Body} {K : List (Value × Value) → Prop} (h : asM b K) : ∃ ys, b = .mp (.map ys) ∧ K ys := by
  unfold asM at h; split at h
  · exact ⟨_, rfl, h⟩
  · exact h.elim
theorem asSl_elim {v : SV} {K : Nat → Nat → Nat → Nat → Prop} (h : asSl v K) : ∃ i o m z, v = .sl i o m z ∧ K i o m z := by
  unfold asSl at h; split at h
  · exact ⟨_, _, _, _, rfl, h⟩
  · exact h.elim
end Go.Sx

/- Rows of cells: reading, writing, making. -/
set_option linter.unusedVariables false
namespace Go.Sx
variable {P : Program} {F : Nat → Prop} {w0 w : World} {ρ : Nat → Loc} {n : Nat} {H : Hp}
theorem rel_of_crel {v : SV} {y : Value} (h : crel ρ v y) : rel ρ v y := by
  cases v <;> first | exact h | (simp only [crel, arel] at h)
theorem crel_of_rel {v : SV} {y : Value} (ho : v.one = true) (h : rel ρ v y) : crel ρ v y ∧ y.oneCell' = true := by
  cases v
  case v x =>
    rw [rel_v] at h; subst h
    refine ⟨rfl, ?_⟩
    cases y <;> first | rfl | (simp [SV.one] at ho)
  case ptr => obtain ⟨b, h1, rfl⟩ := h; exact ⟨⟨b, h1, rfl⟩, rfl⟩
  case sl i o m z =>
    refine ⟨h, ?_⟩
    simp only [rel, srel, crel, arel, slrel] at h
    split at h
    · obtain ⟨a, e⟩ := h.2.form
      rw [e]; rfl
    · obtain ⟨c, a, _, _, _, rfl⟩ := h; rfl
  case mp => obtain ⟨b, h1, rfl⟩ := h; exact ⟨⟨b, h1, rfl⟩, rfl⟩
  case yl => obtain ⟨b, h1, rfl⟩ := h; exact ⟨⟨b, h1, rfl⟩, rfl⟩
  case fn => obtain ⟨ys, rfl, h1⟩ := h; exact ⟨⟨ys, rfl, h1⟩, rfl⟩
  all_goals simp [SV.one] at ho
theorem cells_one {y : Value} (h : y.oneCell' = true) : y.cells = #[y] := by
  cases y <;> first | rfl | (simp [Value.oneCell'] at h)
theorem ltT_of_ltB {v : SV} (h : ltB n v = true) : ltT n v = true := by
  cases v <;> first | exact h | (simp only [ltB, ltA] at h; cases h)
theorem ltB_of_ltT {v : SV} (ho : v.one = true) (h : ltT n v = true) : ltB n v = true := by
  cases v <;> first | exact h | (simp [SV.one] at ho)
theorem row_read {l : Loc} {wr : Bool} {cells : List SV} (h : RowOK ρ w l wr cells) {b : Nat} (hb : l.blk = some b) (o m : Nat) (hle : o + m ≤ cells.length) :
    ∃ c T fr ys, w.heap[b]? = some (.cells c T fr) ∧ ys.length = m ∧ All2 (crel ρ) ((cells.drop o).take m) ys ∧ ∀ (j : Nat) (x : Value), ys[j]? = some x → c[l.off + o + j]? = some x := by
  simp only [RowOK, hb] at h
  obtain ⟨c, T, fr, h1, h2, h3, h4, h5⟩ := h
  have hj : ∀ j, j < m → ∃ v y, cells[o + j]? = some v ∧ c[l.off + (o + j)]? = some y ∧ crel ρ v y := fun j hj => by
    have hlt : o + j < cells.length := by omega
    obtain ⟨y, hy, hr⟩ := h4 (o + j) cells[o + j] (List.getElem?_eq_getElem hlt)
    exact ⟨_, y, List.getElem?_eq_getElem hlt, hy, hr⟩
  refine ⟨c, T, fr, (List.range m).map fun j => (c[l.off + o + j]?).getD undef, h1, by simp, ?_, ?_⟩
  · refine All2.of_get (by simp; omega) fun j v hv => ?_
    have hlt : j < m := by
      have := (List.getElem?_eq_some_iff.1 hv).1
      simp at this; omega
    rw [List.getElem?_take_of_lt hlt, List.getElem?_drop] at hv
    obtain ⟨v', y, e1, e2, hr⟩ := hj j hlt
    rw [e1] at hv; cases hv
    refine ⟨y, ?_, hr⟩
    rw [List.getElem?_map, List.getElem?_range hlt]
    simp [show l.off + o + j = l.off + (o + j) by omega, e2]
  · intro j x hx
    have hlt : j < m := by
      have := (List.getElem?_eq_some_iff.1 hx).1
      simpa using this
    rw [List.getElem?_map, List.getElem?_range hlt] at hx
    obtain ⟨v', y, e1, e2, hr⟩ := hj j hlt
    have e3 : c[l.off + o + j]? = some y := by rw [show l.off + o + j = l.off + (o + j) by omega]; exact e2
    simp only [Option.map_some, e3, Option.getD_some, Option.some.injEq] at hx
    rw [e3, hx]
theorem length_splice {α : Type} (l : List α) (o : Nat) (m : List α) (h : o + m.length ≤ l.length) : (splice l o m).length = l.length := by
  simp [splice]; omega
theorem splice_get {α : Type} (l : List α) (o : Nat) (m : List α) (j : Nat) (h : o + m.length ≤ l.length) :
    (splice l o m)[j]? = if o ≤ j ∧ j < o + m.length then m[j - o]? else l[j]? := by
  unfold splice
  by_cases h1 : j < o
  · rw [if_neg (by omega), List.append_assoc, List.getElem?_append_left (by simp; omega), List.getElem?_take_of_lt h1]
  · by_cases h2 : j < o + m.length
    · rw [if_pos (by omega), List.append_assoc, List.getElem?_append_right (by simp; omega), List.length_take, Nat.min_eq_left (by omega), List.getElem?_append_left (by omega)]
    · rw [if_neg (by omega), List.getElem?_append_right (by simp; omega), List.getElem?_drop]
      congr 1; simp; omega
theorem set_splice {α : Type} (l : List α) (o : Nat) (x : α) (h : o < l.length) : l.set o x = splice l o [x] := by
  apply List.ext_getElem?
  intro j
  rw [splice_get l o [x] j (by simp; omega), List.getElem?_set]
  by_cases e : o = j
  · subst e; rw [if_pos rfl, if_pos h, if_pos (by simp)]; simp
  · rw [if_neg e, if_neg (by simp; omega)]
theorem splice_map {α β : Type} (f : α → β) (l : List α) (o : Nat) (m : List α) : (splice l o m).map f = splice (l.map f) o (m.map f) := by
  simp [splice, List.map_take, List.map_drop]
theorem row_write {l : Loc} {cells : List SV} (h : RowOK ρ w l true cells) {b : Nat} (hb : l.blk = some b) (o : Nat) (zs : List SV) (ys : List Value) (hz : All2 (crel ρ) zs ys) (hle : o + zs.length ≤ cells.length) :
    ∃ c T fr, w.heap[b]? = some (.cells c T fr) ∧ l.off + o + ys.length ≤ c.size ∧ (∀ j, j < ys.length → ¬ (fr.1 ≤ l.off + o + j ∧ l.off + o + j < fr.2)) ∧
      RowOK ρ (wset w b (.cells (stc c (l.off + o) ys) T fr)) l true (splice cells o zs) := by
  simp only [RowOK, hb] at h ⊢
  obtain ⟨c, T, fr, h1, h2, h3, h4, h5⟩ := h
  have hlen := hz.length
  have hbd : l.off + o + ys.length ≤ c.size := by omega
  refine ⟨c, T, fr, h1, hbd, fun j hj => ?_, stc c (l.off + o) ys, T, fr, wset_heap _ _ _ _ h1, by rw [stc_size]; exact h2, by rw [length_splice _ _ _ hle]; exact h3, fun j x hx => ?_, h5⟩
  · have := h5 (by trivial) (o + j) (by omega)
    rwa [show l.off + o + j = l.off + (o + j) by omega]
  · rw [splice_get _ _ _ _ hle] at hx
    rw [stc_get _ _ _ _ hbd]
    by_cases hin : o ≤ j ∧ j < o + zs.length
    · rw [if_pos hin] at hx
      obtain ⟨y, hy, hr⟩ := hz.get hx
      refine ⟨y, ?_, hr⟩
      rw [if_pos (by omega), show l.off + j - (l.off + o) = j - o by omega]; exact hy
    · rw [if_neg hin] at hx
      rw [if_neg (by omega)]
      exact h4 j x hx
theorem obj_row (hH : HRel F w0 ρ n H w) {i : Nat} {s : SO} (hi : H.get i = some s) (hm : ∀ es, s.b ≠ .mp es) : RowOK ρ w (ρ i) s.wr s.b.cells := by
  exact ((hH.obj i s hi).row hm).1
theorem obj_ex (hH : HRel F w0 ρ n H w) {i : Nat} {s : SO} (hi : H.get i = some s) (hm : ∀ es, s.b ≠ .mp es) : exOK (ρ i) s.wr s.b := ((hH.obj i s hi).row hm).2
theorem exOK.to {l : Loc} {wr wr' : Bool} {b b' : Body} (h : exOK l wr b) (hb : b'.isS = b.isS) (hw : wr' = true → wr = true) : exOK l wr' b' := by
  intro hl
  have := h hl
  rw [hb]
  split
  · rename_i e; rw [if_pos e] at this; exact fun hw' => this (hw hw')
  · rename_i e; rw [if_neg e] at this; exact this
theorem loose_ex {l : Loc} {wr : Bool} {b : Body} (h : exOK l wr b) (hb : b.loose) (hl : l.blk ≠ none) : l.ex = false := by
  have := h hl
  cases b <;> first | exact this | exact hb.elim
theorem Body.set_isS {b : Body} {o : Nat} {a : SV} {K : Body → Prop} (h : b.set o a K) : b.set o a fun d => d.isS = b.isS ∧ K d := by
  unfold Body.set at *
  split at h <;> simp_all [Body.isS]
theorem Body.setN_isS {b : Body} {o m : Nat} {a : SV} {K : Body → Prop} (h : b.setN o m a K) : b.setN o m a fun d => d.isS = b.isS ∧ K d := by
  unfold Body.setN at *
  split at h <;> first
    | (simp_all [Body.isS]; done)
    | (obtain ⟨zs, e, h⟩ := ob_elim h; rw [e]; exact ⟨h.1, h.2.1, rfl, h.2.2⟩)
    | (obtain ⟨zs, e, h⟩ := ob_elim h; rw [e]; exact ⟨h.1, h.2.1, h.2.2.1, rfl, h.2.2.2⟩)
theorem Body.cat_isS {b c : Body} {K : Body → Prop} (h : b.cat c K) : b.cat c fun d => d.isS = b.isS ∧ K d := by
  unfold Body.cat at *
  split at h <;> simp_all [Body.isS]
theorem Body.over_isS {b c : Body} {o : Nat} {K : Body → Prop} (h : b.over o c K) : b.over o c fun d => d.isS = b.isS ∧ K d := by
  unfold Body.over at *
  split at h <;> first
    | (simp_all [Body.isS]; done)
    | (obtain ⟨zs, e, h⟩ := ob_elim h; rw [e]; exact ⟨h.1, rfl, h.2⟩)
theorem Body.part_isS {b : Body} {o m : Nat} {K : Body → Prop} (h : b.part o m K) : b.part o m fun d => d.isS = b.isS ∧ K d := by
  unfold Body.part at *
  split at h <;> simp_all [Body.isS]
theorem wset_keep {b : Nat} {c c' : Array Value} {T : TypeId} {fr fr' : Nat × Nat} (h : w.heap[b]? = some (.cells c T fr)) (hc : c'.size = c.size) : ShKeep w (wset w b (.cells c' T fr')) :=
  ShKeep.of_one h (wset_heap w b _ _ h) hc (fun k hk => wset_heap_ne _ _ _ _ hk)
theorem HRel.over (hH : HRel F w0 ρ n H w) {i : Nat} {s : SO} (hi : H.get i = some s) (hw : s.wr = true) (hm : ∀ es, s.b ≠ .mp es) {b : Nat} (hb : (ρ i).blk = some b) (o : Nat) (zs : List SV) (ys : List Value)
    (hz : All2 (crel ρ) zs ys) (hle : o + zs.length ≤ s.b.cells.length) (h1 : ∀ y ∈ ys, y.oneCell' = true) (b' : Body) (hb' : b'.cells = splice s.b.cells o zs) (hm' : ∀ es, b' ≠ .mp es) (hlt : b'.lt n = true) (hiS : b'.isS = s.b.isS) :
    ∃ w', (storeCells ⟨b, (ρ i).off + o, none⟩ ys).run P w = .ok () w' ∧ HRel F w0 ρ n (H.put i ⟨true, b'⟩) w' := by
  have hr := obj_row hH hi hm
  rw [hw] at hr
  obtain ⟨c, T, fr, e1, e2, e3, e4⟩ := row_write hr hb o zs ys hz hle
  refine ⟨_, run_storeCells ys 0 c w e1 (by simpa using e2) (by simpa using e3) h1, ?_⟩
  refine hH.write i s ⟨true, b'⟩ hi hw hlt ?_ rfl rfl rfl (by simp [wset]) ?_ (wset_keep e1 (stc_size _ _ _))
  · refine ObjOK.mk hm' ?_ ((obj_ex hH hi hm).to hiS fun _ => hw)
    show RowOK _ _ _ true b'.cells
    rw [hb']; exact e4
  · intro k hk
    rw [hb] at hk
    exact wset_heap_ne _ _ _ _ (fun e => hk (by rw [e]))
theorem HRel.newRow (hH : HRel F w0 ρ n H w) (hn : n < 1000) (T : TypeId) (fr : Nat × Nat) (c : Array Value) (b : Body) (size : Nat) (hm : ∀ es, b ≠ .mp es) (hlt : b.lt n = true) (hs : size ≤ c.size)
    (hfr : ∀ j, j < size → ¬ (fr.1 ≤ j ∧ j < fr.2)) (hle : b.cells.length ≤ size) (hc : ∀ (j : Nat) (x : SV), b.cells[j]? = some x → ∃ y, c[j]? = some y ∧ crel ρ x y) :
    HRel F w0 (upd ρ n ⟨some w.heap.size, 0, size, b.isS, none⟩) (n + 1) (H.put n ⟨true, b⟩) (w.alloc (.cells c T fr)) := by
  refine hH.alloc hn _ ⟨true, b⟩ ⟨some w.heap.size, 0, size, b.isS, none⟩ rfl hlt ?_
  refine ObjOK.mk hm ?_ ?_
  · show RowOK ρ (w.alloc (.cells c T fr)) ⟨some w.heap.size, 0, size, b.isS, none⟩ true b.cells
    simp only [RowOK]
    exact ⟨c, T, fr, heap_alloc_new _ _, by simpa using hs, hle, fun j x hx => by simpa using hc j x hx, fun _ j hj => by simpa using hfr j hj⟩
  · intro _
    show if b.isS then _ else _
    split
    · rename_i e; exact fun _ => e
    · rename_i e; simpa using e
theorem HRel.newRowT (hH : HRel F w0 ρ n H w) (hn : n < 1000) (T : TypeId) (fr : Nat × Nat) (c : Array Value) (b : Body) (size : Nat) (hm : ∀ es, b ≠ .mp es) (hlt : b.lt n = true) (hs : size ≤ c.size)
    (hfr : ∀ j, j < size → ¬ (fr.1 ≤ j ∧ j < fr.2)) (hle : b.cells.length ≤ size) (hc : ∀ (j : Nat) (x : SV), b.cells[j]? = some x → ∃ y, c[j]? = some y ∧ crel ρ x y) :
    HRel F w0 (upd ρ n ⟨some w.heap.size, 0, size, b.isS, some (T, c.size)⟩) (n + 1) (H.put n ⟨true, b⟩) (w.alloc (.cells c T fr)) := by
  refine hH.alloc hn _ ⟨true, b⟩ ⟨some w.heap.size, 0, size, b.isS, some (T, c.size)⟩ rfl hlt ?_ (fun T' k e => by cases e; exact ⟨c, fr, rfl, rfl⟩)
  refine ObjOK.mk hm ?_ ?_
  · show RowOK ρ (w.alloc (.cells c T fr)) ⟨some w.heap.size, 0, size, b.isS, some (T, c.size)⟩ true b.cells
    simp only [RowOK]
    exact ⟨c, T, fr, heap_alloc_new _ _, by simpa using hs, hle, fun j x hx => by simpa using hc j x hx, fun _ j hj => by simpa using hfr j hj⟩
  · intro _
    show if b.isS then _ else _
    split
    · rename_i e; exact fun _ => e
    · rename_i e; simpa using e
theorem get_elim {b : Body} {o : Nat} {K : SV → Prop} (h : b.get o K) : ∃ v, b.cells[o]? = some v ∧ K v ∧ (∀ es, b ≠ .mp es) := by
  cases b <;> simp only [Body.get] at h
  case ints k ys => exact ⟨_, by simp only [Body.cells, List.getElem?_map, List.getElem?_eq_getElem h.1, Option.map_some]; rfl, by have := h.2; rwa [List.getD_eq_getElem?_getD, List.getElem?_eq_getElem h.1] at this, by simp⟩
  case strs ss => exact ⟨_, by simp only [Body.cells, List.getElem?_map, List.getElem?_eq_getElem h.1, Option.map_some]; rfl, by have := h.2; rwa [List.getD_eq_getElem?_getD, List.getElem?_eq_getElem h.1] at this, by simp⟩
  case pl xs => obtain ⟨x, hx, hK⟩ := ob_elim h; exact ⟨_, by simp [Body.cells, hx], hK, by simp⟩
  case sv cs => obtain ⟨x, hx, hK⟩ := ob_elim h; exact ⟨_, hx, hK, by simp⟩
theorem all2_v {xs ys : List Value} (h : All2 (crel ρ) (xs.map .v) ys) : ys = xs := by
  induction xs generalizing ys with
  | nil => cases ys with
    | nil => rfl
    | cons => exact h.elim
  | cons x l ih => cases ys with
    | nil => exact h.elim
    | cons y r => obtain ⟨h1, h2⟩ := h; rw [ih h2]; have : y = x := h1; rw [this]
theorem all2_v_mk (xs : List Value) : All2 (crel ρ) (xs.map .v) xs := by
  induction xs with
  | nil => trivial
  | cons x l ih => exact ⟨rfl, ih⟩
theorem getN_elim {b : Body} {o m : Nat} {K : SV → Prop} (h : b.getN o m K) : ∃ v, o + m ≤ b.cells.length ∧ K v ∧ (∀ es, b ≠ .mp es) ∧
    (∀ ρ ys, All2 (crel ρ) ((b.cells.drop o).take m) ys → rel ρ v (.agg ys.toArray)) ∧ (∀ n, b.lt n = true → ltT n v = true) := by
  cases b <;> simp only [Body.getN] at h
  case ints k ys =>
    refine ⟨_, by simpa [Body.cells] using h.1, h.2, by simp, fun ρ zs hz => ?_, fun _ _ => rfl⟩
    have := all2_v (xs := ((ys.drop o).take m).map (Value.int k)) (by simpa [Body.cells, List.map_take, List.map_drop, Function.comp_def] using hz)
    subst this; rfl
  case strs ss =>
    refine ⟨_, by simpa [Body.cells] using h.1, h.2, by simp, fun ρ zs hz => ?_, fun _ _ => rfl⟩
    have := all2_v (xs := ((ss.drop o).take m).map Value.string) (by simpa [Body.cells, List.map_take, List.map_drop, Function.comp_def] using hz)
    subst this; rfl
  case pl xs =>
    refine ⟨_, by simpa [Body.cells] using h.1, h.2, by simp, fun ρ zs hz => ?_, fun _ _ => rfl⟩
    have := all2_v (xs := (xs.drop o).take m) (by simpa [Body.cells, List.map_take, List.map_drop] using hz)
    subst this; rfl
  case sv cs =>
    refine ⟨_, h.1, h.2, by simp, fun ρ zs hz => ⟨zs, rfl, hz⟩, fun n hn => ?_⟩
    simp only [Body.lt, List.all_eq_true] at hn
    simp only [ltT, ltC, List.all_eq_true]
    exact fun x hx => hn x (List.mem_of_mem_drop (List.mem_of_mem_take hx))
theorem mem_splice {α : Type} {l m : List α} {o : Nat} {x : α} (h : x ∈ splice l o m) : x ∈ l ∨ x ∈ m := by
  simp only [splice, List.mem_append] at h
  rcases h with (h | h) | h
  · exact .inl (List.mem_of_mem_take h)
  · exact .inr h
  · exact .inl (List.mem_of_mem_drop h)
theorem set_elim {b : Body} {o : Nat} {a : SV} {K : Body → Prop} (h : b.set o a K) : ∃ b', K b' ∧ o + 1 ≤ b.cells.length ∧ b'.cells = splice b.cells o [a] ∧ (∀ es, b ≠ .mp es) ∧ (∀ es, b' ≠ .mp es) ∧ a.one = true ∧
    (∀ n, b.lt n = true → ltB n a = true → b'.lt n = true) := by
  unfold Body.set at h
  split at h
  · obtain ⟨rfl, h1, h2⟩ := h
    refine ⟨_, h2, by simp [Body.cells]; omega, ?_, by simp, by simp, rfl, fun _ _ _ => rfl⟩
    simp only [Body.cells]; rw [set_splice _ _ _ h1, splice_map]; rfl
  · obtain ⟨h1, h2⟩ := h
    refine ⟨_, h2, by simp [Body.cells]; omega, ?_, by simp, by simp, rfl, fun _ _ _ => rfl⟩
    simp only [Body.cells]; rw [set_splice _ _ _ h1, splice_map]; rfl
  · obtain ⟨h0, h1, h2⟩ := h
    refine ⟨_, h2, by simp [Body.cells]; omega, ?_, by simp, by simp, ?_, fun _ _ _ => rfl⟩
    · simp only [Body.cells]; rw [set_splice _ _ _ h1, splice_map]; rfl
    · rename_i x; cases x <;> first | rfl | (simp [Value.oneCell'] at h0)
  · obtain ⟨h0, h1, h2⟩ := h
    refine ⟨_, h2, h1, ?_, by simp, by simp, h0, fun n hn ha => ?_⟩
    · simp only [Body.cells]; rw [set_splice _ _ _ h1]
    · simp only [Body.lt, List.all_eq_true] at *
      intro x hx
      rw [set_splice _ _ _ h1] at hx
      rcases mem_splice hx with hx | hx
      · exact hn x hx
      · simp at hx; subst hx; exact ha
  · exact h.elim
theorem numsOf_ok {k : IntKind} : ∀ {l : List Value} {ys : List Int}, numsOf k l = some ys → l = ys.map (Value.int k)
  | [], ys, h => by simp only [numsOf, Option.some.injEq] at h; subst h; rfl
  | x :: l, ys, h => by
    unfold numsOf at h
    split at h
    · rename_i e; cases e
    · rename_i k' z l' e
      cases e
      split at h
      · rename_i e; subst e
        rw [Option.map_eq_some_iff] at h
        obtain ⟨r, hr, rfl⟩ := h
        rw [numsOf_ok hr]; rfl
      · cases h
    · cases h
theorem plsOf_ok : ∀ {l : List SV} {ys : List Value}, plsOf l = some ys → l = ys.map .v
  | [], ys, h => by simp only [plsOf, Option.some.injEq] at h; subst h; rfl
  | x :: l, ys, h => by
    unfold plsOf at h
    split at h
    · rename_i e; cases e
    · rename_i z l' e
      cases e
      rw [Option.map_eq_some_iff] at h
      obtain ⟨r, hr, rfl⟩ := h
      rw [plsOf_ok hr]; rfl
    · cases h
theorem all2_v_eq {ρ : Nat → Loc} : ∀ {ys zs : List Value}, All2 (crel ρ) (zs.map .v) ys → ys = zs
  | [], [], _ => rfl
  | y :: ys, z :: zs, ⟨h1, h2⟩ => by
    have h1 : y = z := h1
    rw [h1, all2_v_eq h2]
  | [], _ :: _, h => h.elim
  | _ :: _, [], h => h.elim
theorem setN_elim {b : Body} {o m : Nat} {a : SV} {K : Body → Prop} (h : b.setN o m a K) : ∃ b' zs, K b' ∧ zs.length = m ∧ o + m ≤ b.cells.length ∧ b'.cells = splice b.cells o zs ∧ (∀ es, b ≠ .mp es) ∧ (∀ es, b' ≠ .mp es) ∧
    (∀ ρ y, rel ρ a y → ∃ ys : List Value, y = .agg ys.toArray ∧ All2 (crel ρ) zs ys ∧ ∀ x ∈ ys, x.oneCell' = true) ∧ (∀ n, b.lt n = true → ltT n a = true → b'.lt n = true) := by
  unfold Body.setN at h
  split at h
  · rename_i k ys k' zs
    obtain ⟨rfl, h0, h1, h2⟩ := h
    refine ⟨_, zs.map fun x => .v (.int k' x), h2, by simpa using h0, by simpa [Body.cells] using h1, ?_, by simp, by simp, fun ρ y hy => ?_, fun _ _ _ => rfl⟩
    · simp only [Body.cells]; rw [splice_map]
    · have hy : y = .agg (zs.map (Value.int k')).toArray := hy
      refine ⟨_, hy, ?_, fun x hx => ?_⟩
      · have := all2_v_mk (ρ := ρ) (zs.map (Value.int k')); simpa [Function.comp_def] using this
      · simp at hx; obtain ⟨q, _, rfl⟩ := hx; rfl
  · rename_i xs k zs
    obtain ⟨h0, h1, h2⟩ := h
    refine ⟨_, zs.map fun x => .v (.int k x), h2, by simpa using h0, by simpa [Body.cells] using h1, ?_, by simp, by simp, fun ρ y hy => ?_, fun _ _ _ => rfl⟩
    · simp only [Body.cells]; rw [splice_map]; simp [Function.comp_def]
    · have hy : y = .agg (zs.map (Value.int k)).toArray := hy
      refine ⟨_, hy, ?_, fun x hx => ?_⟩
      · have := all2_v_mk (ρ := ρ) (zs.map (Value.int k)); simpa [Function.comp_def] using this
      · simp at hx; obtain ⟨q, _, rfl⟩ := hx; rfl
  · rename_i xs zs
    obtain ⟨h9, h0, h1, h2⟩ := h
    refine ⟨_, zs.map .v, h2, by simpa using h0, by simpa [Body.cells] using h1, ?_, by simp, by simp, fun ρ y hy => ?_, fun _ _ _ => rfl⟩
    · simp only [Body.cells]; rw [splice_map]
    · have hy : y = .agg zs.toArray := hy
      exact ⟨_, hy, all2_v_mk _, fun x hx => List.all_eq_true.1 h9 x hx⟩
  · rename_i cs zs
    obtain ⟨h9, h0, h1, h2⟩ := h
    refine ⟨_, zs, h2, h0, h1, rfl, by simp, by simp, fun ρ y hy => ?_, fun n hn ha => ?_⟩
    · obtain ⟨ys, rfl, hz⟩ := hy
      refine ⟨ys, rfl, hz, ?_⟩
      intro x hx
      obtain ⟨j, hj⟩ := List.getElem?_of_mem hx
      have hlt : j < zs.length := by rw [hz.length]; exact (List.getElem?_eq_some_iff.1 hj).1
      obtain ⟨x', e, hr⟩ := hz.get (List.getElem?_eq_getElem hlt)
      rw [hj] at e; cases e
      exact (crel_of_rel (List.all_eq_true.1 h9 _ (List.getElem_mem hlt)) (rel_of_crel hr)).2
    · simp only [Body.lt, ltT, ltC, List.all_eq_true] at *
      intro x hx
      rcases mem_splice hx with hx | hx
      · exact hn x hx
      · exact ha x hx
  · rename_i cs k zs
    obtain ⟨h0, h1, h2⟩ := h
    refine ⟨_, zs.map fun x => .v (.int k x), h2, by simpa using h0, by simpa [Body.cells] using h1, rfl, by simp, by simp, fun ρ y hy => ?_, fun n hn _ => ?_⟩
    · have hy : y = .agg (zs.map (Value.int k)).toArray := hy
      refine ⟨_, hy, ?_, fun x hx => ?_⟩
      · have := all2_v_mk (ρ := ρ) (zs.map (Value.int k)); simpa [Function.comp_def] using this
      · simp at hx; obtain ⟨q, _, rfl⟩ := hx; rfl
    · simp only [Body.lt, List.all_eq_true] at *
      intro x hx
      rcases mem_splice hx with hx | hx
      · exact hn x hx
      · simp at hx; obtain ⟨q, _, rfl⟩ := hx; rfl
  · rename_i cs zs
    obtain ⟨h9, h0, h1, h2⟩ := h
    refine ⟨_, zs.map .v, h2, by simpa using h0, by simpa [Body.cells] using h1, rfl, by simp, by simp, fun ρ y hy => ?_, fun n hn _ => ?_⟩
    · have hy : y = .agg zs.toArray := hy
      exact ⟨_, hy, all2_v_mk _, fun x hx => List.all_eq_true.1 h9 x hx⟩
    · simp only [Body.lt, List.all_eq_true] at *
      intro x hx
      rcases mem_splice hx with hx | hx
      · exact hn x hx
      · simp at hx; obtain ⟨q, _, rfl⟩ := hx; rfl
  · rename_i k ys vs
    obtain ⟨zs, hp, h0, h1, h2⟩ := ob_elim h
    have hvs := numsOf_ok hp
    refine ⟨_, zs.map fun x => .v (.int k x), h2, by simpa using h0, by simpa [Body.cells] using h1, ?_, by simp, by simp, fun ρ y hy => ?_, fun _ _ _ => rfl⟩
    · simp only [Body.cells]; rw [splice_map]
    · have hy : y = .agg vs.toArray := hy
      rw [hvs] at hy
      refine ⟨_, hy, ?_, fun x hx => ?_⟩
      · have := all2_v_mk (ρ := ρ) (zs.map (Value.int k)); simpa [Function.comp_def] using this
      · simp at hx; obtain ⟨q, _, rfl⟩ := hx; rfl
  · rename_i xs ws
    obtain ⟨zs, hp, h⟩ := ob_elim h
    obtain ⟨h9, h0, h1, h2⟩ := h
    have hws := plsOf_ok hp
    refine ⟨_, zs.map .v, h2, by simpa using h0, by simpa [Body.cells] using h1, ?_, by simp, by simp, fun ρ y hy => ?_, fun _ _ _ => rfl⟩
    · simp only [Body.cells]; rw [splice_map]
    · obtain ⟨ys, rfl, hz⟩ := hy
      rw [hws] at hz
      have : ys = zs := all2_v_eq hz
      subst this
      exact ⟨_, rfl, all2_v_mk _, fun x hx => List.all_eq_true.1 h9 x hx⟩
  · exact h.elim
end Go.Sx

/- append: in place, anew, onto nil. -/
set_option linter.unusedVariables false
set_option linter.unusedSimpArgs false
namespace Go.Sx
variable {P : Program} {F : Nat → Prop} {w0 w : World} {ρ : Nat → Loc} {n : Nat} {H : Hp}
theorem part_elim {b : Body} {o m : Nat} {K : Body → Prop} (h : b.part o m K) : ∃ b', K b' ∧ o + m ≤ b.cells.length ∧ b'.cells = (b.cells.drop o).take m ∧ (∀ es, b ≠ .mp es) ∧ (∀ es, b' ≠ .mp es) ∧ (∀ n, b.lt n = true → b'.lt n = true) := by
  cases b <;> simp only [Body.part] at h
  case ints k ys => exact ⟨_, h.2, by simpa [Body.cells] using h.1, by simp [Body.cells, List.map_take, List.map_drop], by simp, by simp, fun _ _ => rfl⟩
  case strs ys => exact ⟨_, h.2, by simpa [Body.cells] using h.1, by simp [Body.cells, List.map_take, List.map_drop], by simp, by simp, fun _ _ => rfl⟩
  case pl ys => exact ⟨_, h.2, by simpa [Body.cells] using h.1, by simp [Body.cells, List.map_take, List.map_drop], by simp, by simp, fun _ _ => rfl⟩
  case sv cs =>
    refine ⟨_, h.2, h.1, rfl, by simp, by simp, fun n hn => ?_⟩
    simp only [Body.lt, List.all_eq_true] at *
    exact fun x hx => hn x (List.mem_of_mem_drop (List.mem_of_mem_take hx))
theorem cat_elim {b c : Body} {K : Body → Prop} (h : b.cat c K) : ∃ d, K d ∧ d.cells = b.cells ++ c.cells ∧ (∀ es, b ≠ .mp es) ∧ (∀ es, c ≠ .mp es) ∧ (∀ es, d ≠ .mp es) ∧ (∀ n, b.lt n = true → c.lt n = true → d.lt n = true) := by
  unfold Body.cat at h
  split at h
  · obtain ⟨rfl, h⟩ := h
    exact ⟨_, h, by simp [Body.cells], by simp, by simp, by simp, fun _ _ _ => rfl⟩
  · exact ⟨_, h, by simp [Body.cells], by simp, by simp, by simp, fun _ _ _ => rfl⟩
  · exact ⟨_, h, by simp [Body.cells], by simp, by simp, by simp, fun _ _ _ => rfl⟩
  · refine ⟨_, h, by simp [Body.cells], by simp, by simp, by simp, fun n h1 h2 => ?_⟩
    simp only [Body.lt, List.all_append] at *
    rw [h1, h2]; rfl
  · exact h.elim
theorem over_elim {b c : Body} {o : Nat} {K : Body → Prop} (h : b.over o c K) : ∃ d, K d ∧ o + c.cells.length ≤ b.cells.length ∧ d.cells = splice b.cells o c.cells ∧ (∀ es, b ≠ .mp es) ∧ (∀ es, d ≠ .mp es) ∧ (∀ n, b.lt n = true → c.lt n = true → d.lt n = true) := by
  unfold Body.over at h
  split at h
  · obtain ⟨rfl, h1, h⟩ := h
    exact ⟨_, h, by simpa [Body.cells] using h1, by simp only [Body.cells]; rw [splice_map], by simp, by simp, fun _ _ _ => rfl⟩
  · obtain ⟨h1, h⟩ := h
    exact ⟨_, h, by simpa [Body.cells] using h1, by simp only [Body.cells]; rw [splice_map], by simp, by simp, fun _ _ _ => rfl⟩
  · obtain ⟨h1, h⟩ := h
    exact ⟨_, h, by simpa [Body.cells] using h1, by simp only [Body.cells]; rw [splice_map], by simp, by simp, fun _ _ _ => rfl⟩
  · obtain ⟨h1, h⟩ := h
    exact ⟨_, h, by simpa [Body.cells] using h1, by simp only [Body.cells]; rw [splice_map]; simp [Function.comp_def], by simp, by simp, fun _ _ _ => rfl⟩
  · obtain ⟨h1, h⟩ := h
    refine ⟨_, h, by simpa [Body.cells] using h1, rfl, by simp, by simp, fun n hn hc => ?_⟩
    simp only [Body.lt, List.all_eq_true] at *
    intro x hx
    rcases mem_splice hx with hx | hx
    · exact hn x hx
    · exact hc x hx
  · obtain ⟨zs, hz, h1, h2⟩ := ob_elim h
    have hv := numsOf_ok hz
    subst hv
    exact ⟨_, h2, by simpa [Body.cells] using h1, by simp only [Body.cells]; rw [splice_map]; simp [Function.comp_def], by simp, by simp, fun _ _ _ => rfl⟩
  · exact h.elim
theorem HRel.adopt (h : HRel F w0 ρ n H w) (hn : n < 1000) {w' : World} (s : SO) (l : Loc) (b : Nat) (hb : l.blk = some b) (hlt : s.b.lt n = true) (hok : ObjOK ρ w' l s)
    (hF : ¬ F b) (hno : ∀ i t, H.get i = some t → (ρ i).blk ≠ some b) (hbl : b < w'.heap.size)
    (os : w'.os = w.os) (tape : w'.tape = w.tape) (output : w'.output = w.output) (size : w.heap.size ≤ w'.heap.size) (hoth : ∀ k, k ≠ b → k < w.heap.size → w'.heap[k]? = w.heap[k]?) (hsk : ShKeep w w') (hlsh : ∀ T c, l.sh = some (T, c) → ∃ i0, (ρ i0).sh = some (T, c) ∧ (ρ i0).blk = some b := by (intro _ _ h; cases h)) :
    HRel F w0 (upd ρ n l) (n + 1) (H.put n s) w' := by
  have hx : Ext n ρ (upd ρ n l) := Ext.upd hn
  have hidn : idOK n n = false := by unfold idOK; simp; omega
  have hr : ∀ i, i ≠ n → upd ρ n l i = ρ i := fun i hi => by simp [upd, hi]
  refine ⟨os.trans h.os, tape.trans h.tape, output.trans h.output, Nat.le_trans h.size size, ?_, h.old, ?_, by omega, ?_, ?_, ?_, ?_, ?_, h.xput hn, (h.shp.keep hsk).upd fun T c b1 e1 e2 => (by
    obtain ⟨i0, q1, q2⟩ := hlsh T c e1
    rw [hb] at e2; cases e2
    exact (h.shp.keep hsk) i0 T c b q1 q2), h.shk.trans hsk, h.gl.upd hn⟩
  · intro k hk
    rw [hoth k (fun e => hF (e ▸ hk)) (Nat.lt_of_lt_of_le (h.old k hk) h.size)]; exact h.keep k hk
  · rw [hr 0 (by have := h.pos; omega)]; exact h.nil
  · intro i t hi
    rw [Hp.get_put] at hi
    split at hi
    · rename_i e; subst e; cases hi
      rw [upd_same]; exact ObjOK.ext hx hlt hok
    · rename_i e
      rw [hr i (Ne.symm e)]
      exact ObjOK.ext hx (h.lt i t hi).2 (ObjOK.world (fun k hk => hoth k (fun e' => hno i t hi (e' ▸ hk)) (h.live i t k hi hk)) (h.obj i t hi))
  · intro i t hi
    rw [Hp.get_put] at hi
    split at hi
    · rename_i e; subst e; cases hi
      exact ⟨by unfold idOK; simp, Body.lt_mono (Nat.le_succ _) hlt⟩
    · exact ⟨idOK_mono (Nat.le_succ _) (h.lt i t hi).1, Body.lt_mono (Nat.le_succ _) (h.lt i t hi).2⟩
  · intro i t k hi hw hbk hFk
    rw [Hp.get_put] at hi
    split at hi
    · rename_i e; subst e; rw [upd_same, hb] at hbk; cases hbk; exact hF hFk
    · rename_i e
      rw [hr i (Ne.symm e)] at hbk
      exact h.own i t k hi hw hbk hFk
  · intro i j s1 s2 k hij hi hj hw hbk hbk'
    rw [Hp.get_put] at hi hj
    split at hi
    · rename_i e; subst e
      rw [if_neg hij] at hj
      rw [upd_same, hb] at hbk; cases hbk
      rw [hr j (Ne.symm hij)] at hbk'
      exact hno j s2 hj hbk'
    · rename_i e
      rw [hr i (Ne.symm e)] at hbk
      split at hj
      · rename_i e'; subst e'; rw [upd_same, hb] at hbk'; cases hbk'
        exact hno i s1 hi hbk
      · rename_i e'
        rw [hr j (Ne.symm e')] at hbk'
        exact h.inj i j s1 s2 k hij hi hj hw hbk hbk'
  · intro i t k hi hbk
    rw [Hp.get_put] at hi
    split at hi
    · rename_i e; subst e; rw [upd_same, hb] at hbk; cases hbk; exact hbl
    · rename_i e
      rw [hr i (Ne.symm e)] at hbk
      exact Nat.lt_of_lt_of_le (h.live i t k hi hbk) size
theorem HRel.newNil (h : HRel F w0 ρ n H w) (hn : n < 1000) (sz : Nat) (b : Body) (hm : ∀ es, b ≠ .mp es) (hc : b.cells = []) (hlt : b.lt n = true) :
    HRel F w0 (upd ρ n ⟨none, 0, sz, false, none⟩) (n + 1) (H.put n ⟨true, b⟩) w := by
  have hx : Ext n ρ (upd ρ n ⟨none, 0, sz, false, none⟩) := Ext.upd hn
  have hr : ∀ i, i ≠ n → upd ρ n ⟨none, 0, sz, false, none⟩ i = ρ i := fun i hi => by simp [upd, hi]
  refine ⟨h.os, h.tape, h.output, h.size, h.keep, h.old, ?_, by omega, ?_, ?_, ?_, ?_, ?_, h.xput hn, h.shp.upd fun T c b e1 _ => (by cases e1), h.shk, h.gl.upd hn⟩
  · rw [hr 0 (by have := h.pos; omega)]; exact h.nil
  · intro i t hi
    rw [Hp.get_put] at hi
    split at hi
    · rename_i e; subst e; cases hi
      rw [upd_same]
      exact ObjOK.mk hm (show RowOK ρ w ⟨none, 0, sz, false, none⟩ true b.cells from hc) (fun h => absurd rfl h)
    · rename_i e
      rw [hr i (Ne.symm e)]
      exact ObjOK.ext hx (h.lt i t hi).2 (h.obj i t hi)
  · intro i t hi
    rw [Hp.get_put] at hi
    split at hi
    · rename_i e; subst e; cases hi
      exact ⟨by unfold idOK; simp, Body.lt_mono (Nat.le_succ _) hlt⟩
    · exact ⟨idOK_mono (Nat.le_succ _) (h.lt i t hi).1, Body.lt_mono (Nat.le_succ _) (h.lt i t hi).2⟩
  · intro i t k hi hw hbk
    rw [Hp.get_put] at hi
    split at hi
    · rename_i e; subst e; rw [upd_same] at hbk; cases hbk
    · rename_i e
      rw [hr i (Ne.symm e)] at hbk
      exact h.own i t k hi hw hbk
  · intro i j s1 s2 k hij hi hj hw hbk hbk'
    rw [Hp.get_put] at hi hj
    split at hi
    · rename_i e; subst e; rw [upd_same] at hbk; cases hbk
    · rename_i e
      rw [hr i (Ne.symm e)] at hbk
      split at hj
      · rename_i e'; subst e'; rw [upd_same] at hbk'; cases hbk'
      · rename_i e'
        rw [hr j (Ne.symm e')] at hbk'
        exact h.inj i j s1 s2 k hij hi hj hw hbk hbk'
  · intro i t k hi hbk
    rw [Hp.get_put] at hi
    split at hi
    · rename_i e; subst e; rw [upd_same] at hbk; cases hbk
    · rename_i e
      rw [hr i (Ne.symm e)] at hbk
      exact h.live i t k hi hbk
theorem HRel.newGhost (h : HRel F w0 ρ n H w) (hn : n < 1000) (i0 T0 : Nat) (c0 : Option Nat) (hi0 : idOK n i0 = true) (hok0 : ShAt (ρ i0) T0 c0) :
    HRel F w0 (upd ρ n ⟨none, 0, 0, false, none⟩) (n + 1) (H.put n ⟨false, .mp (.shp i0 T0 c0)⟩) w := by
  have hx : Ext n ρ (upd ρ n ⟨none, 0, 0, false, none⟩) := Ext.upd hn
  have hr : ∀ i, i ≠ n → upd ρ n ⟨none, 0, 0, false, none⟩ i = ρ i := fun i hi => by simp [upd, hi]
  refine ⟨h.os, h.tape, h.output, h.size, h.keep, h.old, ?_, by omega, ?_, ?_, ?_, ?_, ?_, h.xput hn, h.shp.upd fun T c b e1 _ => (by cases e1), h.shk, h.gl.upd hn⟩
  · rw [hr 0 (by have := h.pos; omega)]; exact h.nil
  · intro i t hi
    rw [Hp.get_put] at hi
    split at hi
    · rename_i e; subst e; cases hi
      rw [upd_same]
      have e0 : upd ρ n ⟨none, 0, 0, false, none⟩ i0 = ρ i0 := hx i0 hi0
      exact ⟨rfl, by rw [e0]; exact hok0⟩
    · rename_i e
      rw [hr i (Ne.symm e)]
      exact ObjOK.ext hx (h.lt i t hi).2 (h.obj i t hi)
  · intro i t hi
    rw [Hp.get_put] at hi
    split at hi
    · rename_i e; subst e; cases hi
      exact ⟨by unfold idOK; simp, idOK_mono (Nat.le_succ _) hi0⟩
    · exact ⟨idOK_mono (Nat.le_succ _) (h.lt i t hi).1, Body.lt_mono (Nat.le_succ _) (h.lt i t hi).2⟩
  · intro i t k hi hw hbk
    rw [Hp.get_put] at hi
    split at hi
    · rename_i e; subst e; rw [upd_same] at hbk; cases hbk
    · rename_i e
      rw [hr i (Ne.symm e)] at hbk
      exact h.own i t k hi hw hbk
  · intro i j s1 s2 k hij hi hj hw hbk hbk'
    rw [Hp.get_put] at hi hj
    split at hi
    · rename_i e; subst e; rw [upd_same] at hbk; cases hbk
    · rename_i e
      rw [hr i (Ne.symm e)] at hbk
      split at hj
      · rename_i e'; subst e'; rw [upd_same] at hbk'; cases hbk'
      · rename_i e'
        rw [hr j (Ne.symm e')] at hbk'
        exact h.inj i j s1 s2 k hij hi hj hw hbk hbk'
  · intro i t k hi hbk
    rw [Hp.get_put] at hi
    split at hi
    · rename_i e; subst e; rw [upd_same] at hbk; cases hbk
    · rename_i e
      rw [hr i (Ne.symm e)] at hbk
      exact h.live i t k hi hbk
theorem kill_get {i j : Nat} {s : SO} (h : (H.kill i).get j = some s) : H.get j = some s := by
  unfold Hp.kill at h
  split at h
  · exact h
  · rw [Hp.get_del] at h; split at h; cases h; exact h
theorem HRel.kill (h : HRel F w0 ρ n H w) (i : Nat) (hw : wrOf H i) : HRel F w0 ρ n (H.kill i) w := h.sub (fun j s hj => kill_get hj) (by unfold Hp.kill; split <;> rfl) (fun j s hj hl => by
  unfold Hp.kill
  split
  · exact hl
  · rename_i hi
    unfold wrOf at hw
    rw [if_neg hi] at hw
    obtain ⟨t, ht, hw⟩ := ob_elim hw
    simp only [Hp.del, lk]
    have hne : i ≠ j := fun e => by subst e; exact h.wr_lt ht hw s hj
    rw [if_neg hne]; exact hl)
theorem HRel.ro (h : HRel F w0 ρ n H w) {i : Nat} {s : SO} (hi : H.get i = some s) (hw : s.wr = true) (hm : ∀ es, s.b ≠ .mp es) : HRel F w0 ρ n (H.put i ⟨false, s.b⟩) w := by
  have hg : ∀ j t, (H.put i ⟨false, s.b⟩).get j = some t → ∃ t', H.get j = some t' ∧ t'.b = t.b ∧ (t.wr = true → t'.wr = true ∧ j ≠ i) := by
    intro j t hj
    rw [Hp.get_put] at hj
    split at hj
    · rename_i e; subst e; cases hj; exact ⟨s, hi, rfl, fun e => by cases e⟩
    · rename_i e; exact ⟨t, hj, rfl, fun hw => ⟨hw, Ne.symm e⟩⟩
  refine ⟨h.os, h.tape, h.output, h.size, h.keep, h.old, h.nil, h.pos, ?_, ?_, ?_, ?_, ?_, fun j t hj => ?_, h.shp, h.shk, h.gl⟩
  · intro j t hj
    rw [Hp.get_put] at hj
    split at hj
    · rename_i e; subst e; cases hj
      obtain ⟨h1, h2⟩ := (h.obj i s hi).row hm
      refine ObjOK.mk hm ?_ (h2.to rfl fun e => by cases e)
      unfold RowOK at h1 ⊢
      cases hb : (ρ i).blk with
      | none => rw [hb] at h1; exact h1
      | some b =>
        rw [hb] at h1
        obtain ⟨c, T, fr, e1, e2, e3, e4, e5⟩ := h1
        exact ⟨c, T, fr, e1, e2, e3, e4, fun e => by cases e⟩
    · exact h.obj j t hj
  · intro j t hj
    obtain ⟨t', h1, h2, _⟩ := hg j t hj
    rw [← h2]; exact h.lt j t' h1
  · intro j t b hj hwj hb
    obtain ⟨t', h1, _, h3⟩ := hg j t hj
    exact h.own j t' b h1 (h3 hwj).1 hb
  · intro j k t u b hjk hj hk hwj hb
    obtain ⟨t', h1, _, h3⟩ := hg j t hj
    obtain ⟨u', k1, _, _⟩ := hg k u hk
    exact h.inj j k t' u' b hjk h1 k1 (h3 hwj).1 hb
  · intro j t b hj hb
    obtain ⟨t', h1, _, _⟩ := hg j t hj
    exact h.live j t' b h1 hb
  · obtain ⟨h1, h2, h3, h4⟩ := h.xok j t hj
    exact ⟨h1, h2, h3, lk_put (fun e => h.wr_lt hi hw t (e ▸ hj)) h4⟩
theorem HRel.share (h : HRel F w0 ρ n H w) (hn : n < 1000) {i : Nat} {so : SO} (hi : H.get i = some so) (hw : so.wr = true) {b : Nat} (hb : (ρ i).blk = some b) {w' : World} (s : SO) (l : Loc) (hl : l.blk = some b)
    (hs : s.wr = false) (hlt : s.b.lt n = true) (hoki : ObjOK ρ w' (ρ i) ⟨false, so.b⟩) (hok : ObjOK ρ w' l s)
    (os : w'.os = w.os) (tape : w'.tape = w.tape) (output : w'.output = w.output) (size : w'.heap.size = w.heap.size) (hoth : ∀ k, k ≠ b → w'.heap[k]? = w.heap[k]?) (hsk : ShKeep w w') (hlsh : l.sh = none := by rfl) :
    HRel F w0 (upd ρ n l) (n + 1) ((H.put i ⟨false, so.b⟩).put n s) w' := by
  have hx : Ext n ρ (upd ρ n l) := Ext.upd hn
  have hidn : idOK n n = false := by unfold idOK; simp; omega
  have hr : ∀ i, i ≠ n → upd ρ n l i = ρ i := fun i hi => by simp [upd, hi]
  have hin : i ≠ n := fun e => by have := (h.lt i so hi).1; rw [e, hidn] at this; cases this
  have hF : ¬ F b := h.own i so b hi hw hb
  have hg : ∀ j t, ((H.put i ⟨false, so.b⟩).put n s).get j = some t → (j = n ∧ t = s) ∨ (j ≠ n ∧ j = i ∧ t = ⟨false, so.b⟩) ∨ (j ≠ n ∧ j ≠ i ∧ H.get j = some t ∧ (ρ j).blk ≠ some b) := by
    intro j t hj
    rw [Hp.get_put] at hj
    split at hj
    · rename_i e; cases hj; exact .inl ⟨e.symm, rfl⟩
    · rename_i e
      rw [Hp.get_put] at hj
      split at hj
      · rename_i e'; cases hj; exact .inr (.inl ⟨Ne.symm e, e'.symm, rfl⟩)
      · rename_i e'; exact .inr (.inr ⟨Ne.symm e, Ne.symm e', hj, h.inj i j so t b e' hi hj hw hb⟩)
  refine ⟨os.trans h.os, tape.trans h.tape, output.trans h.output, by rw [size]; exact h.size, ?_, h.old, ?_, by omega, ?_, ?_, ?_, ?_, ?_, fun j t hj => ?_, (h.shp.keep hsk).upd fun T c b e1 _ => (by rw [hlsh] at e1; cases e1), h.shk.trans hsk, h.gl.upd hn⟩
  · intro k hk
    rw [hoth k (fun e => hF (e ▸ hk))]; exact h.keep k hk
  · rw [hr 0 (by have := h.pos; omega)]; exact h.nil
  · intro j t hj
    rcases hg j t hj with ⟨rfl, rfl⟩ | ⟨q, rfl, rfl⟩ | ⟨q1, q2, q3, q4⟩
    · rw [upd_same]; exact ObjOK.ext hx hlt hok
    · rw [hr _ q]; exact ObjOK.ext hx (h.lt _ so hi).2 hoki
    · rw [hr _ q1]; exact ObjOK.ext hx (h.lt j t q3).2 (ObjOK.world (fun k hk => hoth k (fun e => q4 (e ▸ hk))) (h.obj j t q3))
  · intro j t hj
    rcases hg j t hj with ⟨rfl, rfl⟩ | ⟨q, rfl, rfl⟩ | ⟨q1, q2, q3, q4⟩
    · exact ⟨by unfold idOK; simp, Body.lt_mono (Nat.le_succ _) hlt⟩
    · exact ⟨idOK_mono (Nat.le_succ _) (h.lt _ so hi).1, Body.lt_mono (Nat.le_succ _) (h.lt _ so hi).2⟩
    · exact ⟨idOK_mono (Nat.le_succ _) (h.lt j t q3).1, Body.lt_mono (Nat.le_succ _) (h.lt j t q3).2⟩
  · intro j t k hj hwj hk hFk
    rcases hg j t hj with ⟨rfl, rfl⟩ | ⟨q, rfl, rfl⟩ | ⟨q1, q2, q3, q4⟩
    · rw [hs] at hwj; cases hwj
    · cases hwj
    · rw [hr _ q1] at hk; exact h.own j t k q3 hwj hk hFk
  · intro j j' t u k hjj hj hj' hwj hk hk'
    rcases hg j t hj with ⟨rfl, rfl⟩ | ⟨q, rfl, rfl⟩ | ⟨q1, q2, q3, q4⟩
    · rw [hs] at hwj; cases hwj
    · cases hwj
    · rw [hr _ q1] at hk
      rcases hg j' u hj' with ⟨rfl, rfl⟩ | ⟨q, rfl, rfl⟩ | ⟨p1, p2, p3, p4⟩
      · rw [upd_same, hl] at hk'; exact q4 (hk.trans hk'.symm)
      · rw [hr _ q, hb] at hk'; exact q4 (hk.trans hk'.symm)
      · rw [hr _ p1] at hk'; exact h.inj j j' t u k hjj q3 p3 hwj hk hk'
  · intro j t k hj hk
    rw [size]
    rcases hg j t hj with ⟨rfl, rfl⟩ | ⟨q, rfl, rfl⟩ | ⟨q1, q2, q3, q4⟩
    · rw [upd_same, hl] at hk; cases hk; exact h.live i so _ hi hb
    · rw [hr _ q, hb] at hk; cases hk; exact h.live _ so _ hi hb
    · rw [hr _ q1] at hk; exact h.live j t k q3 hk
  · obtain ⟨h1, h2, h3, h4⟩ := h.xok j t hj
    exact ⟨h1, h2, h3, lk_put (by omega) (lk_put (fun e => h.wr_lt hi hw t (e ▸ hj)) h4)⟩
structure PartOK (ρ : Nat → Loc) (H : Hp) (w : World) (i o m : Nat) (b : Body) : Prop where
  mp : ∀ es, b ≠ .mp es
  len : b.cells.length = m
  read : ∀ blk, (ρ i).blk = some blk → ∃ c T fr ys, w.heap[blk]? = some (.cells c T fr) ∧ ys.length = m ∧ All2 (crel ρ) b.cells ys ∧ (∀ (j : Nat) (x : Value), ys[j]? = some x → c[(ρ i).off + o + j]? = some x)
  none : (ρ i).blk = none → b.cells = []
theorem rowOf_elim (hH : HRel F w0 ρ n H w) {i o m : Nat} {e : Body} {K : Body → Prop} (he : e.cells = []) (hem : ∀ es, e ≠ .mp es) (hel : e.lt n = true) (hm0 : (ρ i).blk = none → m = 0) (h : rowOf H i o m e K) :
    ∃ b, K b ∧ b.lt n = true ∧ PartOK ρ H w i o m b ∧ (i ≠ 0 → ∃ s, H.get i = some s ∧ (∀ es, s.b ≠ .mp es) ∧ o + m ≤ s.b.cells.length ∧ b.cells = (s.b.cells.drop o).take m ∧ b.isS = s.b.isS) := by
  unfold rowOf at h
  split at h
  · rename_i e0; subst e0
    have := hm0 hH.nil.1
    exact ⟨e, h, hel, ⟨hem, by rw [he, this]; rfl, fun blk hb => (by rw [hH.nil.1] at hb; cases hb), fun _ => he⟩, fun h => absurd rfl h⟩
  · obtain ⟨s, hs, h⟩ := ob_elim h
    obtain ⟨b, ⟨hbS, hK⟩, hle, hc, hm1, hm2, hlt⟩ := part_elim (Body.part_isS h)
    refine ⟨b, hK, hlt n (hH.lt i s hs).2, ⟨hm2, ?_, fun blk hb => ?_, fun hb => ?_⟩, fun _ => ⟨s, hs, hm1, hle, hc, hbS⟩⟩
    · rw [hc]; simp; omega
    · rw [hc]; exact row_read (obj_row hH hs hm1) hb o m hle
    · have := obj_row hH hs hm1
      simp only [RowOK, hb] at this
      rw [hc, this]; simp
theorem nextslicecap_le (need old : Nat) (h : old < need) : Builtin.nextslicecap need old ≤ 2 * need := by
  unfold Builtin.nextslicecap
  split
  · omega
  · split
    · omega
    · have : ∀ (r c : Nat), c ≤ 2 * need → Builtin.growBy need r c ≤ 2 * need + 768 := by
        intro r
        induction r with
        | zero => intro c hc; simp [Builtin.growBy]; omega
        | succ r ih =>
          intro c hc
          simp only [Builtin.growBy]
          split
          · omega
          · exact ih _ (by omega)
      have key : ∀ (r c : Nat), 256 ≤ c → c ≤ 2 * need → Builtin.growBy need r c ≤ 2 * need := by
        intro r
        induction r with
        | zero => intro c _ hc; simpa [Builtin.growBy] using hc
        | succ r ih =>
          intro c h0 hc
          simp only [Builtin.growBy]
          split
          · omega
          · exact ih _ (by omega) (by omega)
      exact key 4 old (by omega) (by omega)
def isIntD : TypeDesc → Bool
  | .int _ => true
  | _ => false
section app
variable {t u e : TypeId} {inf : TypeInfo} (ht : P.underlying t = some (.slice e)) (hi : P.info? e = some inf) {d : TypeDesc} (hu : P.underlying u = some d) (hz : isIntD d = false)
include ht hi hu hz
theorem run_append_in {ty : TypeId} {base : Option Addr} {sLen sCap q : Nat} {x : Value} (hlen : (Builtin.lenOf x).run P w = .ok q w) (hle : sLen + q ≤ sCap) :
    (Builtin.append_ #[t, u] ty #[.slice base sLen sCap, x]).run P w = ((Builtin.firstCells inf.size q x).run P w).andThen fun new w =>
      ((match base with | some a => storeCells (a.add (sLen * inf.size)) new.toList | none => pure () : Sem Unit).run P w).andThen fun _ w => .ok (.slice base (sLen + q) sCap) w := by
  have hu' : ∀ w : World, (underlying u).run P w = .ok d w := fun w => run_underlying' hu
  cases d <;> first | (simp [isIntD] at hz; done) | skip
  all_goals
    simp only [Builtin.append_]
    simp only [List.getElem?_toArray, List.getElem?_cons_zero, List.getElem?_cons_succ, Sem.run_bind, run_underlying' ht, hu', run_sizeOf' hi, Result.andThen_ok, Sem.run_pure, Bool.false_eq_true, if_false, hlen, hle, if_true, Bool.not_false]
    congr 1; funext new w'
    cases base <;> simp
theorem run_append_grow {ty : TypeId} {base : Option Addr} {sLen sCap q : Nat} {x : Value} {zv : Value} (hzv : inf.zero = some zv) (hlen : (Builtin.lenOf x).run P w = .ok q w) (hle : ¬ sLen + q ≤ sCap)
    (hb : (sLen + q) * inf.bytes ≤ 140737488355328) (hm : sLen + q ≤ 140737488355328) :
    ∃ cap, sLen + q ≤ cap ∧ (Builtin.append_ #[t, u] ty #[.slice base sLen sCap, x]).run P w = ((Builtin.firstCells inf.size sLen (.slice base sLen sCap)).run P w.drew).andThen fun old w => ((Builtin.firstCells inf.size q x).run P w).andThen fun new w =>
      .ok (.slice (some ⟨w.heap.size, 0, none⟩) (sLen + q) cap) (w.alloc (.cells (old ++ new ++ Builtin.zeroCells zv.cells (cap - (sLen + q))) e)) := by
  refine ⟨(Question.appendCap (sLen + q) sCap e).cut (w.tape w.drawn (.appendCap (sLen + q) sCap e)), by simp [Question.cut], ?_⟩
  have hnx := nextslicecap_le (sLen + q) sCap (by omega)
  have hmax : IntKind.i64.max = 9223372036854775807 := by decide
  have h1 : ¬ (((sLen + q : Nat) : Int) > IntKind.i64.max ∧ (False ∨ inf.bytes = 0)) := by rw [hmax]; omega
  have h2 : ¬ (Builtin.nextslicecap (sLen + q) sCap * inf.bytes > 2 ^ 48) := by
    have h3 := Nat.mul_le_mul_right inf.bytes hnx
    rw [Nat.mul_assoc] at h3
    simp only [Nat.reducePow]; omega
  have hti : ∀ w : World, (typeInfo e).run P w = .ok inf w := fun w => by simp [typeInfo, hi]
  have hzr : ∀ w : World, (zeroValue e).run P w = .ok zv w := fun w => by simp [zeroValue, typeInfo, hi, hzv]
  have hu' : ∀ w : World, (underlying u).run P w = .ok d w := fun w => run_underlying' hu
  cases d <;> first | (simp [isIntD] at hz; done) | skip
  all_goals
    simp only [Builtin.append_]
    simp only [List.getElem?_toArray, List.getElem?_cons_zero, List.getElem?_cons_succ, Sem.run_bind, run_underlying' ht, hu', run_sizeOf' hi, Result.andThen_ok, Sem.run_pure, Bool.false_eq_true, if_false, hlen, hle, Bool.not_false, hti, hzr, h1, h2, run_choose, Question.forced, run_askRoom, if_true]
    rfl
omit hu hz in
theorem run_append_zin {ty : TypeId} {k kq : IntKind} (hu : P.underlying u = some (.int k)) {base : Option Addr} {sLen sCap : Nat} {q : Int} {zv : Value} (hzv : inf.zero = some zv) (hzs : zv.cells.size = inf.size) (h0 : 0 ≤ q) (hq : q ≤ 140737488355328) (hb : (sLen + q.toNat) * inf.bytes ≤ 140737488355328) (hle : sLen + q.toNat ≤ sCap) :
    (Builtin.append_ #[t, u] ty #[.slice base sLen sCap, .int kq q]).run P w =
      ((match base with | some a => storeCells (a.add (sLen * inf.size)) (Builtin.zeroCells zv.cells q.toNat).toList | none => pure () : Sem Unit).run P w).andThen fun _ w => .ok (.slice base (sLen + q.toNat) sCap) w := by
  have hti : ∀ w : World, (typeInfo e).run P w = .ok inf w := fun w => by simp [typeInfo, hi]
  have hzr : ∀ w : World, (zeroValue e).run P w = .ok zv w := fun w => by simp [zeroValue, typeInfo, hi, hzv]
  have hw : IntKind.i64.wrap q = q := by
    have e1 : IntKind.i64.bits = 64 := rfl
    unfold IntKind.wrap
    simp only [e1, IntKind.signed, Bool.true_and]
    have : q % (2 ^ 64 : Int) = q := Int.emod_eq_of_lt h0 (by omega)
    rw [this, if_neg]
    simp; omega
  have h1 : ¬ q < 0 := by omega
  have h2 : ¬ (q * (inf.bytes : Int) > 2 ^ 48) := by
    have : q.toNat * inf.bytes ≤ (sLen + q.toNat) * inf.bytes := Nat.mul_le_mul_right _ (by omega)
    have h3 : (q.toNat * inf.bytes : Nat) ≤ 140737488355328 := by omega
    have h4 : q * (inf.bytes : Int) = ((q.toNat * inf.bytes : Nat) : Int) := by rw [Int.natCast_mul]; congr 1; omega
    rw [h4]; omega
  simp only [Builtin.append_]
  simp only [List.getElem?_toArray, List.getElem?_cons_zero, List.getElem?_cons_succ, Sem.run_bind, run_underlying' ht, run_underlying' hu, run_sizeOf' hi, Result.andThen_ok, Sem.run_pure, if_true, asInt, asIntOf, hw, h1, if_false, hti, h2, hle, Bool.not_true, Bool.false_eq_true]
  by_cases hqz : q.toNat * inf.size = 0
  · rw [if_pos hqz]
    have hz0 : Builtin.zeroCells zv.cells q.toNat = #[] := by
      apply Array.eq_empty_of_size_eq_zero
      simp [Builtin.zeroCells, hzs, hqz]
    simp only [Sem.run_pure, Result.andThen_ok, hz0]
    cases base <;> simp
  · rw [if_neg hqz]
    simp only [Sem.run_bind, hzr, Result.andThen_ok, Sem.run_pure]
    cases base <;> simp
omit hu hz in
theorem run_append_zgrow {ty : TypeId} {k kq : IntKind} (hu : P.underlying u = some (.int k)) {base : Option Addr} {sLen sCap : Nat} {q : Int} {zv : Value} (hzv : inf.zero = some zv) (hzs : zv.cells.size = inf.size) (hnz : inf.bytes ≠ 0 ∨ True) (h0 : 0 ≤ q) (hq : sLen + q.toNat ≤ 140737488355328) (hb : (sLen + q.toNat) * inf.bytes ≤ 140737488355328) (hle : ¬ sLen + q.toNat ≤ sCap) :
    ∃ cap, sLen + q.toNat ≤ cap ∧ (Builtin.append_ #[t, u] ty #[.slice base sLen sCap, .int kq q]).run P w = ((Builtin.firstCells inf.size sLen (.slice base sLen sCap)).run P w.drew).andThen fun old w =>
      .ok (.slice (some ⟨w.heap.size, 0, none⟩) (sLen + q.toNat) cap) (w.alloc (.cells (old ++ Builtin.zeroCells zv.cells q.toNat ++ Builtin.zeroCells zv.cells (cap - (sLen + q.toNat))) e)) := by
  refine ⟨(Question.appendCap (sLen + q.toNat) sCap e).cut (w.tape w.drawn (.appendCap (sLen + q.toNat) sCap e)), by simp [Question.cut], ?_⟩
  have hnx := nextslicecap_le (sLen + q.toNat) sCap (by omega)
  have hmax : IntKind.i64.max = 9223372036854775807 := by decide
  have h5 : ¬ (((sLen + q.toNat : Nat) : Int) > IntKind.i64.max ∧ (True ∨ inf.bytes = 0)) := by rw [hmax]; omega
  have h6 : ¬ (Builtin.nextslicecap (sLen + q.toNat) sCap * inf.bytes > 2 ^ 48) := by
    have h3 := Nat.mul_le_mul_right inf.bytes hnx
    rw [Nat.mul_assoc] at h3
    simp only [Nat.reducePow]; omega
  have hti : ∀ w : World, (typeInfo e).run P w = .ok inf w := fun w => by simp [typeInfo, hi]
  have hzr : ∀ w : World, (zeroValue e).run P w = .ok zv w := fun w => by simp [zeroValue, typeInfo, hi, hzv]
  have hw : IntKind.i64.wrap q = q := by
    have e1 : IntKind.i64.bits = 64 := rfl
    unfold IntKind.wrap
    simp only [e1, IntKind.signed, Bool.true_and]
    have : q % (2 ^ 64 : Int) = q := Int.emod_eq_of_lt h0 (by omega)
    rw [this, if_neg]
    simp; omega
  have h1 : ¬ q < 0 := by omega
  have h2 : ¬ (q * (inf.bytes : Int) > 2 ^ 48) := by
    have : q.toNat * inf.bytes ≤ (sLen + q.toNat) * inf.bytes := Nat.mul_le_mul_right _ (by omega)
    have h3 : (q.toNat * inf.bytes : Nat) ≤ 140737488355328 := by omega
    have h4 : q * (inf.bytes : Int) = ((q.toNat * inf.bytes : Nat) : Int) := by rw [Int.natCast_mul]; congr 1; omega
    rw [h4]; omega
  simp only [Builtin.append_]
  simp only [List.getElem?_toArray, List.getElem?_cons_zero, List.getElem?_cons_succ, Sem.run_bind, run_underlying' ht, run_underlying' hu, run_sizeOf' hi, Result.andThen_ok, Sem.run_pure, if_true, asInt, asIntOf, hw, h1, if_false, hti, h2, hle, Bool.not_true, Bool.false_eq_true, h5, h6, run_choose, Question.forced, run_askRoom, hzr]
  by_cases hqz : q.toNat * inf.size = 0
  · have hz0 : Builtin.zeroCells zv.cells q.toNat = #[] := by
      apply Array.eq_empty_of_size_eq_zero
      simp [Builtin.zeroCells, hzs, hqz]
    simp only [hqz, if_true, Sem.run_pure, Result.andThen_ok, hz0]
    rfl
  · simp only [hqz, if_false, Sem.run_bind, hzr, Result.andThen_ok, Sem.run_pure]
    rfl
end app
end Go.Sx

/- append, whatever is appended. -/
set_option linter.unusedVariables false
namespace Go.Sx
variable {P : Program} {F : Nat → Prop} {w0 w : World} {ρ : Nat → Loc} {n : Nat} {H : Hp}
theorem first_slice {i o m z : Nat} {b : Body} {y : Value} (hp : PartOK ρ H w i o (m * z) b) (hy : slrel (ρ i) o m z y) (k : Nat) (hk : k ≤ m) :
    ∃ ys : List Value, ys.length = k * z ∧ All2 (crel ρ) (b.cells.take (k * z)) ys ∧ ∀ w', w'.heap = w.heap → (Builtin.firstCells z k y).run P w' = .ok ys.toArray w' := by
  unfold slrel at hy
  cases hb : (ρ i).blk with
  | none =>
    simp only [hb] at hy
    obtain ⟨rfl, hy⟩ := hy
    obtain rfl : k = 0 := by omega
    refine ⟨[], by simp, by rw [hp.none hb]; simp [All2], fun w' _ => ?_⟩
    rcases hy with rfl | ⟨_, a, rfl⟩
    · simp [Builtin.firstCells]
    · simp [Builtin.firstCells, loadCells, loadCellsFrom]
  | some blk =>
    simp only [hb] at hy
    obtain ⟨c, a, h1, h2, h3, rfl⟩ := hy
    obtain ⟨cs, T, fr, ys, e1, e2, e3, e4⟩ := hp.read blk hb
    have hkz : k * z ≤ m * z := Nat.mul_le_mul_right z hk
    refine ⟨ys.take (k * z), by simp; omega, All2.take _ e3, fun w' hw => ?_⟩
    simp only [Builtin.firstCells]
    have hl : (ys.take (k * z)).length = k * z := by simp; omega
    by_cases h0 : c = 0
    · have : k * z = 0 := by
        have : k = 0 := by omega
        simp [this]
      rw [this]; simp [loadCells, loadCellsFrom]
    · rw [h3 h0]
      have := run_loadCells (P := P) (w := w') (b := blk) (o := (ρ i).off + o) (by rw [hw]; exact e1) (ys.take (k * z)) (fun j x hx => e4 j x (by
        rw [List.getElem?_take] at hx; split at hx
        · exact hx
        · cases hx))
      rw [hl] at this; exact this
theorem zeroCells_size (z : Array Value) (k : Nat) : (Builtin.zeroCells z k).size = k * z.size := by simp [Builtin.zeroCells]
theorem append_core (hH : HRel F w0 ρ n H w) (hn : n < 1000) {e : TypeId} {inf : TypeInfo} {zv : Value} (hzs : zv.cells.size = inf.size) (s : Sem Value)
    {i o m q : Nat} {y : Value} (hy : slrel (ρ i) o m inf.size y) (b1 : Body) (hp : PartOK ρ H w i o (m * inf.size) b1) (hl1 : b1.lt n = true)
    (hgot : i ≠ 0 → ∃ s, H.get i = some s ∧ (∀ es, s.b ≠ .mp es) ∧ o + m * inf.size ≤ s.b.cells.length ∧ b1.cells = (s.b.cells.drop o).take (m * inf.size) ∧ b1.isS = s.b.isS) (hwr : wrOf H i)
    (b2 : Body) (news : List Value) (hnl : news.length = q * inf.size) (h2 : All2 (crel ρ) b2.cells news) (h1c : ∀ v ∈ news, v.oneCell' = true)
    (hin : ∀ base sCap, y = .slice base m sCap → m + q ≤ sCap → s.run P w = ((match base with | some a => storeCells (a.add (m * inf.size)) news | none => pure () : Sem Unit).run P w).andThen fun _ w => .ok (.slice base (m + q) sCap) w)
    (hgr : ∀ base sCap (olds : List Value), y = .slice base m sCap → ¬ (m + q ≤ sCap) → (∀ w', w'.heap = w.heap → (Builtin.firstCells inf.size m y).run P w' = .ok olds.toArray w') →
      ∃ cap, m + q ≤ cap ∧ s.run P w = .ok (.slice (some ⟨w.heap.size, 0, none⟩) (m + q) cap) (w.drew.alloc (.cells (olds.toArray ++ news.toArray ++ Builtin.zeroCells zv.cells (cap - (m + q))) e)))
    (bd : Body) (hbm : ∀ es, bd ≠ .mp es) (hbd : bd.cells = b1.cells ++ b2.cells) (hlt : bd.lt n = true) (hbS : bd.isS = b1.isS) :
    ∃ y' w' ρ', s.run P w = .ok y' w' ∧ HRel F w0 ρ' (n + 1) ((H.kill i).put n ⟨true, bd⟩) w' ∧ Ext n ρ ρ' ∧ slrel (ρ' n) 0 (m + q) inf.size y' ∧ (((ρ i).blk ≠ none → o = 0 ∧ ShAt (ρ i) e none) → ShAt (ρ' n) e none) := by
  have hks := hH.kill i hwr
  have hlb2 : b2.cells.length = q * inf.size := by rw [h2.length, hnl]
  have hlbd : bd.cells.length = (m + q) * inf.size := by rw [hbd, List.length_append, hp.len, hlb2, Nat.add_mul]
  obtain ⟨olds, ho1, ho2, ho3⟩ := first_slice (P := P) hp hy m (Nat.le_refl _)
  rw [List.take_of_length_le (by rw [hp.len]; exact Nat.le_refl _)] at ho2
  -- what a new row holds
  have hgrow : ∀ (base : Option Addr) (sCap : Nat), y = .slice base m sCap → ¬ m + q ≤ sCap →
      ∃ y' w' ρ', s.run P w = .ok y' w' ∧ HRel F w0 ρ' (n + 1) ((H.kill i).put n ⟨true, bd⟩) w' ∧ Ext n ρ ρ' ∧ slrel (ρ' n) 0 (m + q) inf.size y' ∧ (((ρ i).blk ≠ none → o = 0 ∧ ShAt (ρ i) e none) → ShAt (ρ' n) e none) := by
    intro base sCap hyb hgt
    subst hyb
    obtain ⟨cap, hcap, hrun⟩ := hgr base sCap olds rfl hgt ho3
    refine ⟨_, _, _, hrun, (hks.drew.newRowT hn e (0, 0) _ bd (cap * inf.size) hbm hlt ?_ ?_ ?_ ?_), Ext.upd hn, ?_, fun _ => by rw [upd_same]; exact fun _ => ⟨rfl, _, rfl, fun _ h => by cases h⟩⟩
    · simp only [Array.size_append, List.size_toArray, zeroCells_size, ho1, hnl, hzs]
      rw [← Nat.add_mul, ← Nat.add_mul, Nat.add_sub_cancel' hcap]; exact Nat.le_refl _
    · intro j _ hh; simp at hh
    · rw [hlbd]; exact Nat.mul_le_mul_right _ hcap
    · intro j v hv
      rw [hbd] at hv
      obtain ⟨yv, hyv, hr⟩ := (ho2.append h2).get hv
      refine ⟨yv, ?_, hr⟩
      rw [Array.getElem?_append_left]
      · rw [List.append_toArray]; simpa using hyv
      · have := (List.getElem?_eq_some_iff.1 hyv).1
        simpa using this
    · rw [upd_same]
      simp only [slrel]
      exact ⟨cap, 0, hcap, ⟨by simp, fun _ => by simp⟩, fun _ => rfl, rfl⟩
  unfold slrel at hy
  cases hb : (ρ i).blk with
  | none =>
    simp only [hb] at hy
    obtain ⟨rfl, hy⟩ := hy
    rcases hy with rfl | ⟨_, ad, rfl⟩
    case inr =>
      by_cases hq : q = 0
      · subst hq
        have hnews : news = [] := by simpa using hnl
        have hbd0 : bd.cells = [] := by simpa using hlbd
        refine ⟨.slice (some ad) 0 0, w, upd ρ n ⟨none, 0, 1, false, none⟩, ?_, hks.newNil hn 1 bd hbm hbd0 hlt, Ext.upd hn, ?_, fun _ => by rw [upd_same]; exact fun h => absurd rfl h⟩
        · rw [hin (some ad) 0 rfl (by omega)]
          subst hnews
          simp [storeCells]
        · simp [slrel, slno, upd_same]
      · have h9 := hgrow (some ad) 0 rfl (by omega)
        rw [hb] at h9; exact h9
    by_cases hq : q = 0
    · subst hq
      have hnews : news = [] := by simpa using hnl
      have hbd0 : bd.cells = [] := by simpa using hlbd
      refine ⟨.slice none 0 0, w, upd ρ n ⟨none, 0, 0, false, none⟩, ?_, hks.newNil hn 0 bd hbm hbd0 hlt, Ext.upd hn, ?_, fun _ => by rw [upd_same]; exact fun h => absurd rfl h⟩
      · rw [hin none 0 rfl (by omega)]
        simp
      · simp [slrel, slno, upd_same]
    · have h9 := hgrow none 0 rfl (by omega)
      rw [hb] at h9; exact h9
  | some blk =>
    have hi0 : i ≠ 0 := fun e0 => by subst e0; rw [hH.nil.1] at hb; cases hb
    obtain ⟨so, hs, hsm, hsl, hsc, hsS⟩ := hgot hi0
    have hsw : so.wr = true := by
      unfold wrOf at hwr
      rw [if_neg hi0, hs] at hwr; exact hwr
    simp only [hb] at hy
    obtain ⟨c, a, hc1, ⟨hc2, hcx⟩, hc3, rfl⟩ := hy
    by_cases hle : m + q ≤ c
    · have hrow := obj_row hH hs hsm
      rw [hsw] at hrow
      simp only [RowOK, hb] at hrow
      obtain ⟨arr, T, fr, e1, e2, e3, e4, e5⟩ := hrow
      have hqc : (m + q) * inf.size ≤ c * inf.size := Nat.mul_le_mul_right _ hle
      have hfit : (ρ i).off + o + m * inf.size + news.length ≤ arr.size := by
        rw [hnl, Nat.add_mul] at *; omega
      -- the world behind the store
      have hst : ∃ arr', (storeCells ((⟨blk, a, none⟩ : Addr).add (m * inf.size)) news).run P w = .ok () (wset w blk (.cells arr' T fr)) ∧ arr'.size = arr.size ∧
          (∀ j v, bd.cells[j]? = some v → ∃ yv, arr'[(ρ i).off + o + j]? = some yv ∧ crel ρ v yv) := by
        by_cases h0 : c = 0
        · have hm0 : m = 0 := by omega
          have hq0 : q = 0 := by omega
          have : news = [] := by rw [hq0] at hnl; simpa using hnl
          subst this
          refine ⟨arr, by rw [wset_same _ _ _ e1]; simp [storeCells], rfl, fun j v hv => ?_⟩
          have : bd.cells = [] := by
            have := hlbd; rw [hm0, hq0] at this; simpa using this
          rw [this] at hv; simp at hv
        · rw [hc3 h0, add_plain]
          refine ⟨_, run_storeCells news 0 arr w e1 (by simpa using hfit) (fun j hj => ?_) h1c, stc_size _ _ _, fun j v hv => ?_⟩
          · have := e5 (by trivial) (o + m * inf.size + j) (by rw [hnl] at hj; rw [Nat.add_mul] at hqc; omega)
            simpa [Nat.add_assoc] using this
          · simp only [Nat.add_zero]
            rw [stc_get _ _ _ _ hfit]
            rw [hbd] at hv
            by_cases hj : j < m * inf.size
            · rw [if_neg (by omega)]
              rw [List.getElem?_append_left (by rw [hp.len]; exact hj), hsc, List.getElem?_take_of_lt hj, List.getElem?_drop] at hv
              obtain ⟨yv, q1, q2⟩ := e4 (o + j) v hv
              exact ⟨yv, by rw [Nat.add_assoc]; exact q1, q2⟩
            · rw [List.getElem?_append_right (by rw [hp.len]; omega), hp.len] at hv
              obtain ⟨yv, q1, q2⟩ := h2.get hv
              have := (List.getElem?_eq_some_iff.1 q1).1
              refine ⟨yv, ?_, q2⟩
              rw [if_pos (by omega), show (ρ i).off + o + j - ((ρ i).off + o + m * inf.size) = j - m * inf.size by omega]
              exact q1
      obtain ⟨arr', hrun, hsz, hcell⟩ := hst
      refine ⟨.slice (some ⟨blk, a, none⟩) (m + q) c, wset w blk (.cells arr' T fr), upd ρ n ⟨some blk, (ρ i).off + o, (ρ i).size - o, bd.isS, if (ρ i).off + o = 0 then (ρ i).sh else none⟩, ?_, ?_, Ext.upd hn, ?_, fun hsh => ?_⟩
      · rw [hin _ c rfl hle]
        simp only [hrun, Result.andThen_ok]
      · refine hks.adopt hn ⟨true, bd⟩ ⟨some blk, (ρ i).off + o, (ρ i).size - o, bd.isS, if (ρ i).off + o = 0 then (ρ i).sh else none⟩ blk rfl hlt ?_ (hH.own i so blk hs hsw hb) ?_ ?_ rfl rfl rfl (by simp [wset]) (fun k hk _ => wset_heap_ne _ _ _ _ hk) (wset_keep e1 (by omega)) (fun T c h => by
          dsimp only at h
          split at h
          · exact ⟨i, h, hb⟩
          · cases h)
        · have key : RowOK ρ (wset w blk (.cells arr' T fr)) ⟨some blk, (ρ i).off + o, (ρ i).size - o, bd.isS, if (ρ i).off + o = 0 then (ρ i).sh else none⟩ true bd.cells := by
            simp only [RowOK]
            refine ⟨arr', T, fr, wset_heap _ _ _ _ e1, by omega, ?_, hcell, fun _ j hj => ?_⟩
            · rw [hlbd]; omega
            · have := e5 (by trivial) (o + j) (by omega)
              simpa [Nat.add_assoc] using this
          refine ObjOK.mk hbm key fun _ => ?_
          show if bd.isS then _ else _
          split
          · rename_i e; exact fun _ => e
          · rename_i e; simpa using e
        · intro j tt hj hjb
          have hne : j ≠ i := fun e0 => by
            subst e0
            unfold Hp.kill at hj; rw [if_neg hi0, Hp.get_del, if_pos rfl] at hj; cases hj
          exact hH.inj i j so tt blk (Ne.symm hne) hs (kill_get hj) hsw hb hjb
        · have := hH.live i so blk hs hb
          simpa [wset] using this
      · rw [upd_same]
        simp only [slrel]
        refine ⟨c, a, hle, ⟨by show 0 + c * inf.size ≤ (ρ i).size - o; omega, fun e => ?_⟩, fun h0 => by rw [hc3 h0]; rfl, rfl⟩
        have hx := obj_ex hH hs hsm (by rw [hb]; simp)
        rw [← hsS, ← hbS, if_pos e] at hx
        have := hcx (hx hsw)
        show 0 + c * inf.size = (ρ i).size - o; omega
      · obtain ⟨h1, h2⟩ := hsh (by simp)
        obtain ⟨h3, k, h4, h5⟩ := h2 (by rw [hb]; simp)
        rw [upd_same]
        exact fun _ => ⟨by show (ρ i).off + o = 0; omega, k, by show (if _ then _ else _) = _; rw [if_pos (by omega)]; exact h4, fun _ h => by cases h⟩
    · have h9 := hgrow _ c rfl hle
      rw [hb] at h9; exact h9
theorem append_inplace (hH : HRel F w0 ρ n H w) {inf : TypeInfo} (hz0 : inf.size ≠ 0) (s : Sem Value) {i o m q : Nat} {y : Value} (hy : slrel (ρ i) o m inf.size y) {so : SO} (hs : H.get i = some so) (hw : so.wr = true)
    (hsm : ∀ es, so.b ≠ .mp es) (hS : so.b.isS = true) (hq : 0 < q) (hfit : o + (m + q) * inf.size ≤ so.b.cells.length)
    (b2 : Body) (news : List Value) (hnl : news.length = q * inf.size) (h2 : All2 (crel ρ) b2.cells news) (h1c : ∀ v ∈ news, v.oneCell' = true)
    (hin : ∀ base sCap, y = .slice base m sCap → m + q ≤ sCap → s.run P w = ((match base with | some a => storeCells (a.add (m * inf.size)) news | none => pure () : Sem Unit).run P w).andThen fun _ w => .ok (.slice base (m + q) sCap) w)
    (b' : Body) (hb' : b'.cells = splice so.b.cells (o + m * inf.size) b2.cells) (hm' : ∀ es, b' ≠ .mp es) (hlt : b'.lt n = true) (hiS : b'.isS = so.b.isS) :
    ∃ y' w', s.run P w = .ok y' w' ∧ HRel F w0 ρ n (H.put i ⟨true, b'⟩) w' ∧ slrel (ρ i) o (m + q) inf.size y' := by
  have hpos : 0 < inf.size := Nat.pos_of_ne_zero hz0
  have hqz : 0 < q * inf.size := Nat.mul_pos hq hpos
  have hadd : (m + q) * inf.size = m * inf.size + q * inf.size := Nat.add_mul ..
  have hrow := obj_row hH hs hsm
  unfold slrel at hy
  cases hb : (ρ i).blk with
  | none =>
    simp only [RowOK, hb] at hrow
    rw [hrow] at hfit
    simp only [List.length_nil] at hfit
    omega
  | some blk =>
    simp only [hb] at hy
    obtain ⟨c, a, hc1, ⟨hc2, hcx⟩, hc3, rfl⟩ := hy
    have hx := obj_ex hH hs hsm (by rw [hb]; simp)
    rw [if_pos hS] at hx
    have hcz := hcx (hx hw)
    simp only [RowOK, hb] at hrow
    obtain ⟨arr, T, fr, e1, e2, e3, e4, e5⟩ := hrow
    have hle : m + q ≤ c := Nat.le_of_mul_le_mul_right (by omega : (m + q) * inf.size ≤ c * inf.size) hpos
    obtain ⟨w', hrun, hH'⟩ := hH.over (P := P) hs hw hsm hb (o + m * inf.size) b2.cells news h2 (by rw [h2.length, hnl]; omega) h1c b' hb' hm' hlt hiS
    refine ⟨.slice (some ⟨blk, a, none⟩) (m + q) c, w', ?_, hH', ?_⟩
    · rw [hin _ c rfl hle]
      simp only []
      rw [hc3 (by omega), add_plain, Nat.add_assoc (ρ i).off, hrun, Result.andThen_ok]
    · simp only [slrel, hb]
      exact ⟨c, a, hle, ⟨hc2, hcx⟩, hc3, rfl⟩
theorem append_keep (hH : HRel F w0 ρ n H w) (hn : n < 1000) {e : TypeId} {inf : TypeInfo} {zv : Value} (hzs : zv.cells.size = inf.size) (s : Sem Value)
    {i o m q : Nat} {y : Value} (hy : slrel (ρ i) o m inf.size y) (b1 : Body) (hp : PartOK ρ H w i o (m * inf.size) b1) {so : SO} (hs : H.get i = some so) (hw : so.wr = true)
    (hsm : ∀ es, so.b ≠ .mp es) (hend : o + m * inf.size = so.b.cells.length) (hsc : b1.cells = (so.b.cells.drop o).take (m * inf.size)) (hsS : b1.isS = so.b.isS)
    (b2 : Body) (news : List Value) (hnl : news.length = q * inf.size) (h2 : All2 (crel ρ) b2.cells news) (h1c : ∀ v ∈ news, v.oneCell' = true)
    (hin : ∀ base sCap, y = .slice base m sCap → m + q ≤ sCap → s.run P w = ((match base with | some a => storeCells (a.add (m * inf.size)) news | none => pure () : Sem Unit).run P w).andThen fun _ w => .ok (.slice base (m + q) sCap) w)
    (hgr : ∀ base sCap (olds : List Value), y = .slice base m sCap → ¬ (m + q ≤ sCap) → (∀ w', w'.heap = w.heap → (Builtin.firstCells inf.size m y).run P w' = .ok olds.toArray w') →
      ∃ cap, m + q ≤ cap ∧ s.run P w = .ok (.slice (some ⟨w.heap.size, 0, none⟩) (m + q) cap) (w.drew.alloc (.cells (olds.toArray ++ news.toArray ++ Builtin.zeroCells zv.cells (cap - (m + q))) e)))
    (bd : Body) (hbm : ∀ es, bd ≠ .mp es) (hbd : bd.cells = b1.cells ++ b2.cells) (hlt : bd.lt n = true) (hbS : bd.isS = b1.isS) :
    ∃ y' w' ρ', s.run P w = .ok y' w' ∧ HRel F w0 ρ' (n + 1) ((H.put i ⟨false, so.b⟩).put n ⟨false, bd⟩) w' ∧ Ext n ρ ρ' ∧ slrel (ρ' n) 0 (m + q) inf.size y' := by
  have hlb2 : b2.cells.length = q * inf.size := by rw [h2.length, hnl]
  have hlbd : bd.cells.length = (m + q) * inf.size := by rw [hbd, List.length_append, hp.len, hlb2, Nat.add_mul]
  obtain ⟨olds, ho1, ho2, ho3⟩ := first_slice (P := P) hp hy m (Nat.le_refl _)
  rw [List.take_of_length_le (by rw [hp.len]; exact Nat.le_refl _)] at ho2
  have hgrow : ∀ (base : Option Addr) (sCap : Nat), y = .slice base m sCap → ¬ m + q ≤ sCap →
      ∃ y' w' ρ', s.run P w = .ok y' w' ∧ HRel F w0 ρ' (n + 1) ((H.put i ⟨false, so.b⟩).put n ⟨false, bd⟩) w' ∧ Ext n ρ ρ' ∧ slrel (ρ' n) 0 (m + q) inf.size y' := by
    intro base sCap hyb hgt
    subst hyb
    obtain ⟨cap, hcap, hrun⟩ := hgr base sCap olds rfl hgt ho3
    have h1 := (hH.ro hs hw hsm).drew.newRow hn e (0, 0) (olds.toArray ++ news.toArray ++ Builtin.zeroCells zv.cells (cap - (m + q))) bd (cap * inf.size) hbm hlt (by
        simp only [Array.size_append, List.size_toArray, zeroCells_size, ho1, hnl, hzs]
        rw [← Nat.add_mul, ← Nat.add_mul, Nat.add_sub_cancel' hcap]; exact Nat.le_refl _) (by intro j _ hh; simp at hh) (by rw [hlbd]; exact Nat.mul_le_mul_right _ hcap) (by
        intro j v hv
        rw [hbd] at hv
        obtain ⟨yv, hyv, hr⟩ := (ho2.append h2).get hv
        refine ⟨yv, ?_, hr⟩
        rw [Array.getElem?_append_left]
        · rw [List.append_toArray]; simpa using hyv
        · have := (List.getElem?_eq_some_iff.1 hyv).1
          simpa using this)
    have h2 := h1.ro (i := n) (s := ⟨true, bd⟩) (by rw [Hp.get_put, if_pos rfl]) rfl hbm
    refine ⟨_, _, _, hrun, h2.sub (fun j t hj => ?_) rfl (fun j t hj hl => ?_), Ext.upd hn, ?_⟩
    · rw [Hp.get_put] at hj
      rw [Hp.get_put]
      by_cases e0 : n = j
      · rw [if_pos e0] at hj ⊢; exact hj
      · rw [if_neg e0] at hj ⊢
        rw [Hp.get_put, if_neg e0]; exact hj
    · by_cases e0 : n = j
      · subst e0; simp [Hp.put, lk] at hl
      · simpa [Hp.put, lk, e0] using hl
    · rw [upd_same]
      simp only [slrel]
      exact ⟨cap, 0, hcap, ⟨by simp, fun _ => by simp⟩, fun _ => rfl, rfl⟩
  have hrow := obj_row hH hs hsm
  unfold slrel at hy
  cases hb : (ρ i).blk with
  | none =>
    simp only [hb] at hy
    simp only [RowOK, hb] at hrow
    obtain ⟨rfl, hy⟩ := hy
    obtain ⟨ad, rfl⟩ := hy.form
    by_cases hq : q = 0
    · subst hq
      have hnews : news = [] := by simpa using hnl
      have hbd0 : bd.cells = [] := by simpa using hlbd
      have h1 := (hH.ro hs hw hsm).newNil hn 1 bd hbm hbd0 hlt
      have h2 := h1.ro (i := n) (s := ⟨true, bd⟩) (by rw [Hp.get_put, if_pos rfl]) rfl hbm
      refine ⟨.slice ad 0 0, w, _, ?_, h2.sub (fun j t hj => ?_) rfl (fun j t hj hl => ?_), Ext.upd hn, ?_⟩
      · rw [hin ad 0 rfl (by omega)]
        subst hnews
        cases ad <;> simp [storeCells]
      · rw [Hp.get_put] at hj
        rw [Hp.get_put]
        by_cases e0 : n = j
        · rw [if_pos e0] at hj ⊢; exact hj
        · rw [if_neg e0] at hj ⊢
          rw [Hp.get_put, if_neg e0]; exact hj
      · by_cases e0 : n = j
        · subst e0; simp [Hp.put, lk] at hl
        · simpa [Hp.put, lk, e0] using hl
      · rw [upd_same]
        cases ad
        · exact ⟨rfl, .inl rfl⟩
        · exact ⟨rfl, .inr ⟨by simp, _, rfl⟩⟩
    · exact hgrow ad 0 rfl (by omega)
  | some blk =>
    simp only [hb] at hy
    obtain ⟨c, a, hc1, ⟨hc2, hcx⟩, hc3, rfl⟩ := hy
    by_cases hle : m + q ≤ c
    · rw [hw] at hrow
      simp only [RowOK, hb] at hrow
      obtain ⟨arr, T, fr, e1, e2, e3, e4, e5⟩ := hrow
      have hqc : (m + q) * inf.size ≤ c * inf.size := Nat.mul_le_mul_right _ hle
      have hfit : (ρ i).off + o + m * inf.size + news.length ≤ arr.size := by
        rw [hnl, Nat.add_mul] at *; omega
      have hst : ∃ arr', (storeCells ((⟨blk, a, none⟩ : Addr).add (m * inf.size)) news).run P w = .ok () (wset w blk (.cells arr' T fr)) ∧ arr'.size = arr.size ∧
          (∀ j, j < (ρ i).off + o + m * inf.size → arr'[j]? = arr[j]?) ∧ (∀ j v, bd.cells[j]? = some v → ∃ yv, arr'[(ρ i).off + o + j]? = some yv ∧ crel ρ v yv) := by
        by_cases h0 : c = 0
        · have hm0 : m = 0 := by omega
          have hq0 : q = 0 := by omega
          have : news = [] := by rw [hq0] at hnl; simpa using hnl
          subst this
          refine ⟨arr, by rw [wset_same _ _ _ e1]; simp [storeCells], rfl, fun _ _ => rfl, fun j v hv => ?_⟩
          have : bd.cells = [] := by
            have := hlbd; rw [hm0, hq0] at this; simpa using this
          rw [this] at hv; simp at hv
        · rw [hc3 h0, add_plain]
          refine ⟨_, run_storeCells news 0 arr w e1 (by simpa using hfit) (fun j hj => ?_) h1c, stc_size _ _ _, fun j hj => ?_, fun j v hv => ?_⟩
          · have := e5 (by trivial) (o + m * inf.size + j) (by rw [hnl] at hj; rw [Nat.add_mul] at hqc; omega)
            simpa [Nat.add_assoc] using this
          · simp only [Nat.add_zero]
            rw [stc_get _ _ _ _ hfit, if_neg (by omega)]
          · simp only [Nat.add_zero]
            rw [stc_get _ _ _ _ hfit]
            rw [hbd] at hv
            by_cases hj : j < m * inf.size
            · rw [if_neg (by omega)]
              rw [List.getElem?_append_left (by rw [hp.len]; exact hj), hsc, List.getElem?_take_of_lt hj, List.getElem?_drop] at hv
              obtain ⟨yv, q1, q2⟩ := e4 (o + j) v hv
              exact ⟨yv, by rw [Nat.add_assoc]; exact q1, q2⟩
            · rw [List.getElem?_append_right (by rw [hp.len]; omega), hp.len] at hv
              obtain ⟨yv, q1, q2⟩ := h2.get hv
              have := (List.getElem?_eq_some_iff.1 q1).1
              refine ⟨yv, ?_, q2⟩
              rw [if_pos (by omega), show (ρ i).off + o + j - ((ρ i).off + o + m * inf.size) = j - m * inf.size by omega]
              exact q1
      obtain ⟨arr', hrun, hsz, hlow, hcell⟩ := hst
      refine ⟨.slice (some ⟨blk, a, none⟩) (m + q) c, wset w blk (.cells arr' T fr), upd ρ n ⟨some blk, (ρ i).off + o, (ρ i).size - o, bd.isS, none⟩, ?_, ?_, Ext.upd hn, ?_⟩
      · rw [hin _ c rfl hle]
        simp only [hrun, Result.andThen_ok]
      · refine hH.share hn hs hw hb ⟨false, bd⟩ ⟨some blk, (ρ i).off + o, (ρ i).size - o, bd.isS, none⟩ rfl rfl hlt ?_ ?_ rfl rfl rfl (by simp [wset]) (fun k hk => wset_heap_ne _ _ _ _ hk) (wset_keep e1 (by omega))
        · refine ObjOK.mk hsm ?_ ((obj_ex hH hs hsm).to rfl fun e => by cases e)
          simp only [RowOK, hb]
          refine ⟨arr', T, fr, wset_heap _ _ _ _ e1, by omega, e3, fun j x hx => ?_, fun e => by cases e⟩
          have hj : j < so.b.cells.length := (List.getElem?_eq_some_iff.1 hx).1
          obtain ⟨yv, q1, q2⟩ := e4 j x hx
          exact ⟨yv, by rw [hlow _ (by omega)]; exact q1, q2⟩
        · refine ObjOK.mk hbm ?_ fun _ => ?_
          · simp only [RowOK]
            refine ⟨arr', T, fr, wset_heap _ _ _ _ e1, by omega, ?_, hcell, fun e => by cases e⟩
            rw [hlbd]; omega
          · show if bd.isS then _ else _
            split
            · exact fun e => by cases e
            · rename_i e; simpa using e
      · rw [upd_same]
        simp only [slrel]
        refine ⟨c, a, hle, ⟨by show 0 + c * inf.size ≤ (ρ i).size - o; omega, fun e => ?_⟩, fun h0 => by rw [hc3 h0]; rfl, rfl⟩
        have hx := obj_ex hH hs hsm (by rw [hb]; simp)
        rw [← hsS, ← hbS, if_pos e] at hx
        have := hcx (hx hw)
        show 0 + c * inf.size = (ρ i).size - o; omega
    · exact hgrow _ c rfl hle
theorem append_ok (hH : HRel F w0 ρ n H w) (hn : n < 1000) {t u e : TypeId} {inf : TypeInfo} (ht : P.underlying t = some (.slice e)) (hi : P.info? e = some inf) {zv : Value} (hzv : inf.zero = some zv) (hzs : zv.cells.size = inf.size)
    {d : TypeDesc} (hu : P.underlying u = some d) (hd : isIntD d = false) {ty : TypeId}
    {i o m q : Nat} {y x : Value} (hy : slrel (ρ i) o m inf.size y) (b1 : Body) (hp : PartOK ρ H w i o (m * inf.size) b1) (hl1 : b1.lt n = true)
    (hgot : i ≠ 0 → ∃ s, H.get i = some s ∧ (∀ es, s.b ≠ .mp es) ∧ o + m * inf.size ≤ s.b.cells.length ∧ b1.cells = (s.b.cells.drop o).take (m * inf.size) ∧ b1.isS = s.b.isS) (hwr : wrOf H i)
    (hlen : (Builtin.lenOf x).run P w = .ok q w) (b2 : Body) (news : List Value) (hnl : news.length = q * inf.size) (h2 : All2 (crel ρ) b2.cells news) (h1c : ∀ v ∈ news, v.oneCell' = true)
    (hnew : ∀ w', w'.heap = w.heap → (Builtin.firstCells inf.size q x).run P w' = .ok news.toArray w')
    (bd : Body) (hbm : ∀ es, bd ≠ .mp es) (hbd : bd.cells = b1.cells ++ b2.cells) (hlt : bd.lt n = true) (hbS : bd.isS = b1.isS) (hbytes : (m + q) * inf.bytes ≤ 140737488355328) (hmq : m + q ≤ 140737488355328) :
    ∃ y' w' ρ', (Builtin.append_ #[t, u] ty #[y, x]).run P w = .ok y' w' ∧ HRel F w0 ρ' (n + 1) ((H.kill i).put n ⟨true, bd⟩) w' ∧ Ext n ρ ρ' ∧ slrel (ρ' n) 0 (m + q) inf.size y' ∧ (((ρ i).blk ≠ none → o = 0 ∧ ShAt (ρ i) e none) → ShAt (ρ' n) e none) := by
  refine append_core (P := P) hH hn (e := e) hzs _ hy b1 hp hl1 hgot hwr b2 news hnl h2 h1c ?_ ?_ bd hbm hbd hlt hbS
  · intro base sCap hyb hle
    subst hyb
    rw [run_append_in ht hi hu hd hlen hle, hnew w rfl, Result.andThen_ok]
    all_goals (cases base <;> rfl)
  · intro base sCap olds hyb hgt ho
    subst hyb
    obtain ⟨cap, hcap, hrun⟩ := run_append_grow (P := P) (w := w) ht hi hu hd (base := base) (sLen := m) hzv hlen hgt hbytes hmq
    rw [ho w.drew rfl, Result.andThen_ok, hnew w.drew rfl, Result.andThen_ok] at hrun
    exact ⟨cap, hcap, hrun⟩
end Go.Sx

/- One operation: what it comes to (all but calls), first half. -/
set_option linter.unusedVariables false
namespace Go.Sx
variable {P : Program} {F : Nat → Prop} {w0 w : World} {ρ : Nat → Loc} {n : Nat} {H : Hp} {tm : List (Nat × SV)} {a : Act} {C : Tab} {o : Oper} {m : MO} {K : SV → Hp → Nat → Prop}
def FW (r : Option Nat) : Fence := { Fence.wide with round := r }
theorem callsFW {f : FuncId} {args : Array Value} {R : Ending → World → Prop} (r : Option Nat) (k : Nat) (h : Calls P f args w R) : CallsIn (FW r) k P f args w R := callsIn_wide.2 h
def OpWp (P : Program) (F : Nat → Prop) (w0 : World) (ρ : Nat → Loc) (n : Nat) (o : Oper) (a : Act) (w : World) (K : SV → Hp → Nat → Prop) : Prop :=
  (∀ c, o.op ≠ .defer c) → ∀ (r : Option Nat) (next : Act → World → Prop) (Q : Exit → Act → World → Prop),
    (∀ v H' n' ρ' x w', K v H' n' → HRel F w0 ρ' n' H' w' → Ext n ρ ρ' → n ≤ n' → rel ρ' v x → ltT n' v = true → next (a.put o.dst x) w') → o.wpIn (FW r) 0 P a w next Q
theorem OpWp.of_gets {s : Sem Value} (he : execOp a.eval o = (do pure (.value (← s)))) (h : Gets P F w0 ρ n s w K) : OpWp P F w0 ρ n o a w K := by
  intro hd r next Q hn
  obtain ⟨x, w', v, H', n', ρ', h1, h2, h3, h4, h5, h6, h7⟩ := h
  refine ⟨fun _ _ => trivial, ?_⟩
  rw [Oper.semAt_eq _ _ _ hd, he, Sem.run_bind, h1, Result.andThen_ok, Sem.run_pure]
  exact hn v H' n' ρ' x w' h2 h3 h4 h5 h6 h7
theorem OpWp.of_unit {s : Sem Unit} {w' : World} {H' : Hp} (he : execOp a.eval o = (do s; pure .skip)) (h1 : s.run P w = .ok () w') (h2 : K (.v undef) H' n) (h3 : HRel F w0 ρ n H' w') : OpWp P F w0 ρ n o a w K := by
  intro hd r next Q hn
  refine ⟨fun _ _ => trivial, ?_⟩
  rw [Oper.semAt_eq _ _ _ hd, he, Sem.run_bind, h1, Result.andThen_ok, Sem.run_pure]
  exact hn (.v undef) H' n ρ undef w' h2 h3 (Ext.refl _ _) (Nat.le_refl _) rfl rfl
theorem OpWp.of_value {x : Value} {v : SV} (he : execOp a.eval o = pure (.value x)) (hH : HRel F w0 ρ n H w) (hK : K v H n) (hr : rel ρ v x) (hl : ltT n v = true) : OpWp P F w0 ρ n o a w K := by
  intro hd r next Q hn
  refine ⟨fun _ _ => trivial, ?_⟩
  rw [Oper.semAt_eq _ _ _ hd, he, Sem.run_pure]
  exact hn v H n ρ x w hK hH (Ext.refl _ _) (Nat.le_refl _) hr hl
theorem s_move {x : Operand} (ho : o.op = .move x ∨ o.op = .assign x) (hm : trOp P o = some m) (hH : HRel F w0 ρ n H w) (hT : TRel ρ n tm a) (h : sop C tm H n m K) : OpWp P F w0 ρ n o a w K := by
  have : m = .mov (trA P o.type x) := by rcases ho with ho | ho <;> simp [trOp, ho] at hm <;> exact hm.symm
  subst this
  obtain ⟨v, hv, hK⟩ := ob_elim h
  obtain ⟨hr, hl⟩ := ev_ok hH hT hv
  exact OpWp.of_value (x := a.eval x) (by unfold execOp; rcases ho with ho | ho <;> rw [ho]) hH hK hr hl
theorem s_pick {c x y : Operand} (ho : o.op = .pick c x y) (hm : trOp P o = some m) (hH : HRel F w0 ρ n H w) (hT : TRel ρ n tm a) (h : sop C tm H n m K) : OpWp P F w0 ρ n o a w K := by
  simp [trOp, ho] at hm; subst hm
  obtain ⟨vc, hvc, h⟩ := ob_elim h
  obtain ⟨b, rfl, h⟩ := asB_elim h
  obtain ⟨v, hv, hK⟩ := ob_elim h
  obtain ⟨hrc, _⟩ := ev_ok hH hT hvc
  rw [rel_v] at hrc
  refine OpWp.of_value (x := if b then a.eval x else a.eval y) (v := v) ?_ hH hK ?_ ?_
  · unfold execOp; rw [ho]; simp only [hrc, asBool, pure_bind]
  · cases b
    · exact (ev_ok hH hT hv).1
    · exact (ev_ok hH hT hv).1
  · cases b
    · exact (ev_ok hH hT hv).2
    · exact (ev_ok hH hT hv).2
theorem run_part_pl {t : TypeId} (hu : (∃ k, P.underlying t = some (.int k)) ∨ P.underlying t = some .string ∨ P.underlying t = some .bool) (cs : Array Value) (off : Nat) (x : Value) (hx : cs[off]? = some x) :
    (part t cs off).run P w = .ok x w := by
  have hi : (isAgg t).run P w = .ok false w := by
    rcases hu with ⟨k, hu⟩ | hu | hu <;> simp [isAgg, run_underlying' hu]
  simp only [part, Sem.run_bind, hi, Bool.false_eq_true, if_false, Result.andThen_ok, hx, Sem.run_pure]
theorem crel_v {x y : Value} : crel ρ (.v x) y ↔ y = x := Iff.rfl
theorem run_eqFs {X Y : Array Value} : ∀ {fs : List Field} {i : Nat} {xs ys : List SV} {e : Bool}, eqFs P fs i = true → aggEq (fs.map fun f => fKind P f.type) xs ys = some e → All2 (crel ρ) xs (X.toList.drop i) → All2 (crel ρ) ys (Y.toList.drop i) →
    (Op.eqFields 9999 X Y fs).run P w = .ok e w
  | [], i, xs, ys, e, _, he, _, _ => by
    rw [List.map_nil, aggEq] at he
    cases he
    rfl
  | f :: fs, i, xs, ys, e, hf, he, hx, hy => by
    unfold eqFs at hf
    simp only [Bool.and_eq_true, bne_iff_ne, ne_eq, beq_iff_eq] at hf
    obtain ⟨⟨⟨h1, h2⟩, h3⟩, h4⟩ := hf
    have hu : (∃ k, P.underlying f.type = some (.int k)) ∨ P.underlying f.type = some .string ∨ P.underlying f.type = some .bool := by
      split at h3
      · rename_i k hk; exact .inl ⟨_, hk⟩
      · rename_i hk; exact .inr (.inl hk)
      · rename_i hk; exact .inr (.inr hk)
      · cases h3
    have key : ∀ {a b : SV} {xs' ys' : List SV} {p q : Value} {r s : Bool}, xs = a :: xs' → ys = b :: ys' → (crel ρ a p → crel ρ b q → (Op.equalIn 9999 f.type p q).run P w = .ok s w) → (∀ {p' q'}, crel ρ a p' → crel ρ b q' → p' = p ∧ q' = q) →
        aggEq (fs.map fun f => fKind P f.type) xs' ys' = some r → e = (s && r) → (Op.eqFields 9999 X Y (f :: fs)).run P w = .ok e w := by
      intro a b xs' ys' p q r s e1 e2 hrun hval hr hs
      subst e1; subst e2
      obtain ⟨p', hp', hpa⟩ := hx.get (j := 0) rfl
      obtain ⟨q', hq', hqb⟩ := hy.get (j := 0) rfl
      obtain ⟨rfl, rfl⟩ := hval hpa hqb
      have hX : X[i]? = some p' := by rw [List.getElem?_drop, Nat.add_zero] at hp'; rw [← Array.getElem?_toList]; exact hp'
      have hY : Y[i]? = some q' := by rw [List.getElem?_drop, Nat.add_zero] at hq'; rw [← Array.getElem?_toList]; exact hq'
      have hx' : All2 (crel ρ) xs' (X.toList.drop (i + 1)) := by have := hx.drop 1; rw [List.drop_drop] at this; exact this
      have hy' : All2 (crel ρ) ys' (Y.toList.drop (i + 1)) := by have := hy.drop 1; rw [List.drop_drop] at this; exact this
      have ih := run_eqFs (fs := fs) (i := i + 1) h4 hr hx' hy'
      simp only [Op.eqFields, if_pos h1, Sem.run_bind]
      rw [h2, run_part_pl hu X i p' hX, Result.andThen_ok, run_part_pl hu Y i q' hY, Result.andThen_ok, hrun hpa hqb, Result.andThen_ok, hs]
      cases s
      · simp
      · simp [ih]
    rw [List.map_cons] at he
    unfold aggEq at he
    split at he
    · rename_i heq; cases heq
    · rename_i fs' k a xs' k' b ys' heq
      injection heq with heq1 heq2
      subst heq2
      split at he
      · rename_i hk
        subst hk
        obtain ⟨r, hr, hs⟩ := Option.map_eq_some_iff.1 he
        refine key rfl rfl (p := .int k a) (q := .int k b) (s := decide (a = b)) (fun _ _ => ?_) (fun h1 h2 => ⟨h1, h2⟩) hr hs.symm
        have hk0 : ∃ k', P.underlying f.type = some (.int k') := by
          rcases hu with h | h | h
          · exact h
          · unfold fKind at heq1; rw [h] at heq1; cases heq1
          · unfold fKind at heq1; rw [h] at heq1; cases heq1
        obtain ⟨k', hk'⟩ := hk0
        rw [show (9999 : Nat) = 9998 + 1 from rfl, run_equalIn_int w 9998 f.type k k' a b hk']
        rfl
      · cases he
    · rename_i fs' a xs' b ys' heq
      injection heq with heq1 heq2
      subst heq2
      obtain ⟨r, hr, hs⟩ := Option.map_eq_some_iff.1 he
      refine key rfl rfl (p := .string a) (q := .string b) (s := seq a b) (fun _ _ => ?_) (fun h1 h2 => ⟨h1, h2⟩) hr hs.symm
      have hk0 : P.underlying f.type = some .string := by
        rcases hu with ⟨k, h⟩ | h | h
        · unfold fKind at heq1; rw [h] at heq1; cases heq1
        · exact h
        · unfold fKind at heq1; rw [h] at heq1; cases heq1
      rw [show (9999 : Nat) = 9998 + 1 from rfl, run_equalIn_string w 9998 f.type a b hk0]
      rfl
    · rename_i fs' a xs' b ys' heq
      injection heq with heq1 heq2
      subst heq2
      obtain ⟨r, hr, hs⟩ := Option.map_eq_some_iff.1 he
      refine key rfl rfl (p := .bool a) (q := .bool b) (s := a == b) (fun _ _ => ?_) (fun h1 h2 => ⟨h1, h2⟩) hr hs.symm
      have hk0 : P.underlying f.type = some .bool := by
        rcases hu with ⟨k, h⟩ | h | h
        · unfold fKind at heq1; rw [h] at heq1; cases heq1
        · unfold fKind at heq1; rw [h] at heq1; cases heq1
        · exact h
      rw [show (9999 : Nat) = 9998 + 1 from rfl, run_equalIn_bool' w 9998 f.type a b hk0]
    · cases he
theorem run_sbinA {op : BinOp} {ty : TypeId} {fs : Array Field} {x y : Operand} {va vb : SV} {xa xb : Value} {K : SV → Prop} (hu : P.underlying ty = some (.struct fs)) (hok : eqOK P ty = true) (ha : rel ρ va xa) (hb : rel ρ vb xb)
    (h : sbinA op (fs.toList.map fun f => fKind P f.type) va vb K) : ∃ z, (do eqGuard op ty x y xa xb; binOp op ty xa xb : Sem Value).run P w = .ok z w ∧ K (.v z) := by
  unfold sbinA at h
  split at h
  · rename_i xs ys
    obtain ⟨e, he, hp⟩ := ob_elim h
    obtain ⟨X, rfl, hX⟩ := ha
    obtain ⟨Y, rfl, hY⟩ := hb
    unfold eqOK at hok
    rw [hu] at hok
    simp only [Bool.and_eq_true, Bool.not_eq_true'] at hok
    obtain ⟨⟨h1, h2⟩, h3⟩ := hok
    have hfo : P.fieldsOf ty = fs := by unfold Program.fieldsOf; rw [hu]
    have hq := run_eqFs (P := P) (w := w) (X := X.toArray) (Y := Y.toArray) (i := 0) h3 he (by simpa using hX) (by simpa using hY)
    have hrun : (Op.equalIn 10000 ty (.agg X.toArray) (.agg Y.toArray)).run P w = .ok e w := by
      rw [show (10000 : Nat) = 9999 + 1 from rfl, run_equalIn_agg w 9999 ty _ _ (by rw [hfo]; exact hu) h1, hfo]
      exact hq
    cases op <;> simp only [ptrbin] at hp
    case eql => exact ⟨_, by rw [Sem.run_bind, run_eqGuard_agg w _ _ _ _ _ _ h2, Result.andThen_ok, run_eql_struct, hrun, Result.andThen_ok], hp⟩
    case neq => exact ⟨_, by rw [Sem.run_bind, run_eqGuard_agg w _ _ _ _ _ _ h2, Result.andThen_ok, run_neq_struct, hrun, Result.andThen_ok], hp⟩
    all_goals exact hp.elim
  · exact h.elim
theorem s_bin {op : BinOp} {t u : TypeId} {x y : Operand} (ho : o.op = .binOp op t x y u) (hm : trOp P o = some m) (hH : HRel F w0 ρ n H w) (hT : TRel ρ n tm a) (h : sop C tm H n m K) : OpWp P F w0 ρ n o a w K := by
  have hex : execOp a.eval o = (do pure (.value (← (do eqGuard op t x y (a.eval x) (a.eval y); binOp op t (a.eval x) (a.eval y))))) := by unfold execOp; rw [ho]
  simp only [trOp, ho] at hm
  split at hm
  case h_7 => cases hm
  case h_4 =>
    rename_i fs hu
    split at hm
    · rename_i hok
      cases hm
      obtain ⟨va, hva, h⟩ := ob_elim h
      obtain ⟨vb, hvb, h⟩ := ob_elim h
      obtain ⟨z, hz, hK⟩ := run_sbinA (P := P) (w := w) (ty := t) (x := x) (y := y) hu hok (ev_ok hH hT hva).1 (ev_ok hH hT hvb).1 h
      exact OpWp.of_gets hex (Gets.same hH hz hK rfl rfl)
    · cases hm
  case h_6 =>
    rename_i e hu
    have key : ∀ (ne : Bool), (op = if ne then .neq else .eql) → y = .const (.slice none 0 0) → m = .slnil ne (trA P t x) → OpWp P F w0 ρ n o a w K := by
      intro ne hop hy hm
      subst hm
      obtain ⟨va, hva, h'⟩ := ob_elim h
      obtain ⟨i, o', q, z, e0, h2'⟩ := asSl_elim h'
      clear h h'
      subst e0
      have h := h2'
      have hr := (ev_ok hH hT hva).1
      have hr : slrel (ρ i) o' q z (a.eval x) := hr
      have run : ∀ (b : Option Addr) (l c : Nat), a.eval x = .slice b l c → (do eqGuard op t x y (a.eval x) (a.eval y); binOp op t (a.eval x) (a.eval y) : Sem Value).run P w = .ok (.bool (if ne then !b.isNone else b.isNone)) w := by
        intro b l c hx
        have hyv : a.eval y = .slice none 0 0 := by rw [hy]; rfl
        rw [hx, hyv, Sem.run_bind, run_eqGuard (by simp) (by simp), Result.andThen_ok]
        cases ne
        · simp only [Bool.false_eq_true, if_false] at hop ⊢
          subst hop
          simp only [binOp, Sem.run_bind, run_equal_slice_nil w t e b l c hu, Result.andThen_ok]; rfl
        · simp only [if_true] at hop ⊢
          subst hop
          simp only [binOp, Sem.run_bind, run_equal_slice_nil w t e b l c hu, Result.andThen_ok]; rfl
      have fin : ∀ b : Bool, K (.v (.bool b)) H n → (do eqGuard op t x y (a.eval x) (a.eval y); binOp op t (a.eval x) (a.eval y) : Sem Value).run P w = .ok (.bool b) w → OpWp P F w0 ρ n o a w K := fun b hK hz => OpWp.of_gets hex (Gets.same hH hz hK rfl rfl)
      by_cases hi : i = 0
      · rw [if_pos hi] at h
        subst hi
        have hn := hH.nil.1
        simp only [slrel, hn, hH.nil.2] at hr
        refine fin _ h ?_
        rw [run none 0 0 hr.2.zero]
        cases ne <;> rfl
      · rw [if_neg hi] at h
        obtain ⟨s, hs, h1, h2⟩ := ob_elim h
        have hobj := hH.obj i s hs
        cases hb : (ρ i).blk with
        | none =>
          simp only [slrel, hb] at hr
          have hc : s.b.cells = [] := by
            by_cases hm : ∀ es, s.b ≠ .mp es
            · have := (hobj.row hm).1; simpa only [RowOK, hb] using this
            · cases hbb : s.b <;> first | rfl | (exact absurd (fun es => by rw [hbb]; simp) hm)
          rcases hr.2 with e | ⟨_, ad, e⟩
          · refine fin _ (h1 hr.1 hc) ?_
            rw [run none 0 0 e]
            cases ne <;> rfl
          · refine fin _ h2 ?_
            rw [run _ 0 0 e]
            cases ne <;> rfl
        | some b =>
          simp only [slrel, hb] at hr
          obtain ⟨c, ad, _, _, _, hx⟩ := hr
          refine fin _ h2 ?_
          rw [run _ _ _ hx]
          cases ne <;> rfl
    split at hm
    · cases hm; exact key false rfl rfl rfl
    · cases hm; exact key true rfl rfl rfl
    · cases hm
  all_goals
    rename_i hu
    cases hm
    obtain ⟨va, hva, h⟩ := ob_elim h
    obtain ⟨vb, hvb, h⟩ := ob_elim h
    have hg : ∃ z, (do eqGuard op t x y (a.eval x) (a.eval y); binOp op t (a.eval x) (a.eval y) : Sem Value).run P w = .ok z w ∧ K (.v z) H n := by first
      | exact run_sbin (P := P) (w := w) (ty := t) (x := x) (y := y) (ev_ok hH hT hva).1 (ev_ok hH hT hvb).1 h
      | exact run_sbinB (P := P) (w := w) (ty := t) (x := x) (y := y) hu (ev_ok hH hT hva).1 (ev_ok hH hT hvb).1 h
      | exact run_sbinP (P := P) (w := w) (ty := t) (x := x) (y := y) hu (ev_ok hH hT hva).1 (ev_ok hH hT hvb).1 h
    obtain ⟨z, hz, hK⟩ := hg
    exact OpWp.of_gets hex (Gets.same hH hz hK rfl rfl)
theorem s_un {op : UnOp} {t : TypeId} {x : Operand} (ho : o.op = .unOp op t x) (hm : trOp P o = some m) (hH : HRel F w0 ρ n H w) (hT : TRel ρ n tm a) (h : sop C tm H n m K) : OpWp P F w0 ρ n o a w K := by
  simp [trOp, ho] at hm; subst hm
  obtain ⟨va, hva, h⟩ := ob_elim h
  obtain ⟨z, hz, hK⟩ := run_sun (P := P) (w := w) (ev_ok hH hT hva).1 h
  exact OpWp.of_gets (s := Op.unary op (a.eval x)) (by unfold execOp; rw [ho]) (Gets.same hH hz hK rfl rfl)
theorem tx_eq (ys : List Int) : ys.foldl (fun r n => r.push (UInt8.ofNat n.toNat)) ByteArray.empty = tx ys := by
  have key : ∀ (ys : List Int) (s : ByteArray), ys.foldl (fun r n => r.push (UInt8.ofNat n.toNat)) s = ⟨s.data ++ (ys.map fun n => UInt8.ofNat n.toNat).toArray⟩ := by
    intro ys
    induction ys with
    | nil => intro s; simp
    | cons y l ih => intro s; simp only [List.foldl_cons, ih]; cases s; simp [ByteArray.push]
  rw [key]; simp [tx]
theorem freeze_alloc (w : World) (c : Array Value) (e : TypeId) (k : Nat) : (w.alloc (.cells c e)).freeze ⟨w.heap.size, k, none⟩ 1 = w.alloc (.cells c e (k, k + 1)) := by
  unfold World.freeze World.alloc
  simp only [Nat.one_ne_zero, if_false]
  congr 1
  apply Array.ext_getElem?
  intro i
  rw [Array.getElem?_modify]
  by_cases hi : w.heap.size = i
  · subst hi; simp
  · simp only [hi, if_false]
    rw [Array.getElem?_push, Array.getElem?_push]; simp [Ne.symm hi]
def s2bCap (w : World) (e : TypeId) (z : ByteArray) : Nat := (Question.appendCap z.size 0 e).cut (w.tape w.drawn (.appendCap z.size 0 e))
def s2bArr (z : ByteArray) (cap : Nat) : Array Value := (z.data.map fun b => Value.int .u8 b.toNat) ++ Array.replicate (cap - z.size) (.int .u8 0)
theorem s2bCap_le (w : World) (e : TypeId) (z : ByteArray) : z.size ≤ s2bCap w e z := by simp [s2bCap, Question.cut]
theorem s2bArr_size (z : ByteArray) (cap : Nat) (h : z.size ≤ cap) : (s2bArr z cap).size = cap := by
  simp only [s2bArr, Array.size_append, Array.size_map, Array.size_replicate]
  have : z.data.size = z.size := rfl
  omega
theorem s2bArr_get (z : ByteArray) (cap j : Nat) (x : SV) (hx : (Body.ints .u8 (bts z)).cells[j]? = some x) : ∃ y, (s2bArr z cap)[j]? = some y ∧ crel ρ x y := by
  simp only [Body.cells, bts, List.map_map, List.getElem?_map, Option.map_eq_some_iff] at hx
  obtain ⟨b, hb, rfl⟩ := hx
  refine ⟨.int .u8 b.toNat, ?_, rfl⟩
  have hlt : j < z.data.size := by have := (List.getElem?_eq_some_iff.1 hb).1; simpa using this
  simp only [s2bArr]
  rw [Array.getElem?_append_left (by simpa using hlt), Array.getElem?_map]
  have : z.data[j]? = some b := by rw [← Array.getElem?_toList]; exact hb
  rw [this]; rfl
theorem run_s2b (e : TypeId) (z : ByteArray) : (Conv.stringToBytes e z).run P w = .ok (.slice (some ⟨w.heap.size, 0, none⟩) z.size (s2bCap w e z)) (w.drew.alloc (.cells (s2bArr z (s2bCap w e z)) e (s2bCap w e z, s2bCap w e z + 1))) := by
  have h1 : (w.drew.alloc (.cells (s2bArr z (s2bCap w e z)) e)).shape? w.heap.size = some (e, s2bCap w e z) := by
    have := heap_alloc_new w.drew (.cells (s2bArr z (s2bCap w e z)) e)
    simp only [World.size_drew] at this
    simp only [World.shape?, this, s2bArr_size _ _ (s2bCap_le w e z)]
  have h2 := freeze_alloc w.drew (s2bArr z (s2bCap w e z)) e (s2bCap w e z)
  simp only [World.size_drew] at h2
  simp only [Conv.stringToBytes, Sem.run_bind, run_choose, Question.forced, Bool.false_eq_true, if_false, Result.andThen_ok, newRow, run_newObj, Sem.run_pure, markStringish, World.drew_eq, World.alloc_eq]
  rw [← h2]
  have h3 : (shape w.drew.heap.size).run P (w.drew.alloc (.cells (s2bArr z (s2bCap w e z)) e)) = .ok (some (e, s2bCap w e z)) (w.drew.alloc (.cells (s2bArr z (s2bCap w e z)) e)) := by
    rw [run_shape]; simp only [World.size_drew]; rw [h1]
  have h4 : (Array.map (fun b => Value.int .u8 b.toNat) z.data ++ Array.replicate ((Question.appendCap z.size 0 e).cut (w.tape w.drawn (.appendCap z.size 0 e)) - z.size) (.int .u8 0)) = s2bArr z (s2bCap w e z) := rfl
  rw [h4, h3]
  simp only [Result.andThen_ok, run_freeze]
  rfl
theorem s_conv {s d : TypeId} {x : Operand} (ho : o.op = .convert s d x) (hm : trOp P o = some m) (hH : HRel F w0 ρ n H w) (hT : TRel ρ n tm a) (h : sop C tm H n m K) : OpWp P F w0 ρ n o a w K := by
  have hex : execOp a.eval o = (do pure (.value (← convert s d (a.eval x)))) := by unfold execOp; rw [ho]
  simp only [trOp, ho] at hm
  split at hm
  · -- int to int
    rename_i k1 k hs hd
    cases hm
    obtain ⟨va, hva, h⟩ := ob_elim h
    obtain ⟨k', z, rfl, hK⟩ := asI_elim h
    have hr := (ev_ok hH hT hva).1
    rw [rel_v] at hr
    refine OpWp.of_gets hex (Gets.same hH (x := .int k (k.wrap z)) ?_ hK rfl rfl)
    simp [convert, run_underlying' hs, run_underlying' hd, hr, Conv.intToInt]
  · -- string to string
    rename_i hs hd
    cases hm
    obtain ⟨va, hva, h⟩ := ob_elim h
    have hh : ∃ z, va = .v (.string z) ∧ K (.v (.string (z ++ ByteArray.empty))) H n := by
      have h' : sbin .add va (.v (.string .empty)) fun c => K c H n := h
      unfold sbin at h'
      split at h'
      · rename_i e; cases e
      · rename_i e; cases e
        exact ⟨_, rfl, h'.2⟩
      · exact h'.elim
    obtain ⟨z, rfl, hK⟩ := hh
    rw [ByteArray.append_empty] at hK
    have hr := (ev_ok hH hT hva).1
    rw [rel_v] at hr
    refine OpWp.of_gets hex (Gets.same hH (x := .string z) ?_ hK rfl rfl)
    simp [convert, run_underlying' hs, run_underlying' hd, hr]
  · -- string to bytes
    rename_i e hs hd
    split at hm
    · rename_i he
      cases hm
      obtain ⟨va, hva, h⟩ := ob_elim h
      obtain ⟨z, rfl, h⟩ := asS_elim h
      obtain ⟨hsz, hn1, hK⟩ := h
      have hr := (ev_ok hH hT hva).1
      rw [rel_v] at hr
      have hcap := s2bCap_le w e z
      have hcells : (Body.ints .u8 (bts z)).cells.length = z.size := by simp [Body.cells, bts]
      have hnew := hH.drew.newRow hn1 e (s2bCap w e z, s2bCap w e z + 1) (s2bArr z (s2bCap w e z)) (.ints .u8 (bts z)) (s2bCap w e z) (by simp) rfl (by rw [s2bArr_size _ _ hcap]; exact Nat.le_refl _) (by intro j hj; simp; omega) (by rw [hcells]; exact hcap) (fun j x hx => s2bArr_get z _ j x hx)
      refine OpWp.of_gets hex ⟨.slice (some ⟨w.heap.size, 0, none⟩) z.size (s2bCap w e z), _, _, _, _, _, ?_, hK, hnew, Ext.upd hn1, Nat.le_succ _, ?_, ?_⟩
      · simp only [convert, Sem.run_bind, run_underlying' hs, run_underlying' hd, run_underlying' he, Result.andThen_ok, hr, run_s2b]
      · show slrel _ 0 z.size 1 _
        rw [upd_same]
        simp only [slrel]
        exact ⟨_, 0, hcap, ⟨by simp, fun e => by simp [Body.isS] at e⟩, fun _ => rfl, rfl⟩
      · show idOK (n + 1) n = true
        unfold idOK; simp
    · cases hm
  · -- bytes to string
    rename_i e hs hd
    split at hm
    · rename_i he
      cases hm
      obtain ⟨va, hva, h⟩ := ob_elim h
      obtain ⟨i, o', k, z, rfl, h⟩ := asSl_elim h
      obtain ⟨hz, h⟩ := h
      have hr : slrel (ρ i) o' k z (a.eval x) := (ev_ok hH hT hva).1
      have hm0 : (ρ i).blk = none → k = 0 := fun hb => by simp only [slrel, hb] at hr; exact hr.1
      obtain ⟨b, h, hl, hp, hgot⟩ := rowOf_elim hH (e := .ints .u8 []) rfl (by simp) rfl hm0 h
      clear hgot
      obtain ⟨ys, rfl, h⟩ := asBy_elim h
      · have hb : (convert s d (a.eval x)).run P w = .ok (.string (tx ys)) w := by
          cases hbk : (ρ i).blk with
          | none =>
            have hys : ys = [] := by have := hp.none hbk; simpa [Body.cells] using this
            simp only [slrel, hbk] at hr
            rcases hr.2 with e | ⟨_, ad, e⟩
            · rw [e, hys]
              simp [convert, run_underlying' hs, run_underlying' hd, run_underlying' he, Conv.bytesToString]; rfl
            · rw [e, hys]
              simp [convert, run_underlying' hs, run_underlying' hd, run_underlying' he, Conv.bytesToString, loadCells, loadCellsFrom]; rfl
          | some blk =>
            have hi0 : i ≠ 0 := fun e0 => by subst e0; rw [hH.nil.1] at hbk; cases hbk
            have := hz hi0; subst this
            have hp' : PartOK ρ H w i o' (k * 1) (.ints .u8 ys) := by simpa using hp
            obtain ⟨vs, e1, e2, e3⟩ := first_slice (P := P) hp' hr k (Nat.le_refl _)
            simp only [slrel, hbk] at hr
            obtain ⟨c, ad, q1, q2, q3, hval⟩ := hr
            have e4 := e3 w rfl
            rw [hval] at e4 ⊢
            simp only [Builtin.firstCells, Nat.mul_one] at e4
            have hvs : vs = ys.map (Value.int .u8) := by
              refine all2_v (ρ := ρ) ?_
              rw [List.take_of_length_le (by rw [hp'.len]; exact Nat.le_refl _)] at e2
              simpa [Body.cells, Function.comp_def] using e2
            rw [hvs] at e4
            simp only [convert, Sem.run_bind, run_underlying' hs, run_underlying' hd, run_underlying' he, Result.andThen_ok]
            rw [run_bytesToString w _ k c ys e4, tx_eq]
        exact OpWp.of_gets hex (Gets.same hH hb h rfl rfl)
    · cases hm
  · -- int to string
    rename_i k1 hs hd
    cases hm
    obtain ⟨va, hva, h⟩ := ob_elim h
    obtain ⟨k', z, rfl, hK⟩ := asI_elim h
    have hr := (ev_ok hH hT hva).1
    rw [rel_v] at hr
    refine OpWp.of_gets hex (Gets.same hH (x := .string (Utf8.encode z)) ?_ hK rfl rfl)
    simp [convert, run_underlying' hs, run_underlying' hd, hr, Conv.intToString]
  · cases hm
end Go.Sx

/- One operation: variables, addresses, loads, stores, parts. -/
set_option linter.unusedVariables false
namespace Go.Sx
variable {P : Program} {F : Nat → Prop} {w0 w : World} {ρ : Nat → Loc} {n : Nat} {H : Hp} {tm : List (Nat × SV)} {a : Act} {C : Tab} {o : Oper} {m : MO} {K : SV → Hp → Nat → Prop}
theorem numOf_eq {k : IntKind} {v : Value} (h : isIntK k v = true) : v = .int k (numOf v) := by
  cases v <;> simp [isIntK] at h
  subst h; rfl
theorem strOf_eq {v : Value} (h : isStrV v = true) : v = .string (strOf v) := by
  cases v <;> simp [isStrV] at h
  rfl
theorem all2_ints {k : IntKind} {zs : List Value} (h : zs.all (isIntK k) = true) : All2 (crel ρ) (Body.ints k (zs.map numOf)).cells zs := by
  simp only [Body.cells, List.map_map]
  refine All2.map_left.2 ?_
  refine All2.of_get rfl fun j v hv => ⟨v, hv, ?_⟩
  exact numOf_eq (List.all_eq_true.1 h v (List.mem_of_getElem? hv))
theorem all2_strs {zs : List Value} (h : zs.all isStrV = true) : All2 (crel ρ) (Body.strs (zs.map strOf)).cells zs := by
  simp only [Body.cells, List.map_map]
  refine All2.map_left.2 ?_
  refine All2.of_get rfl fun j v hv => ⟨v, hv, ?_⟩
  exact strOf_eq (List.all_eq_true.1 h v (List.mem_of_getElem? hv))
theorem crel_svOf (hn : (ρ 0).blk = none) (z : Nat) (x : Value) : crel ρ (svOf z x) x := by
  unfold svOf
  split
  · show slrel (ρ 0) 0 0 z _
    simp [slrel, slno, hn]
  · rfl
theorem ltB_svOf (hp : 0 < n) (z : Nat) (x : Value) : ltB n (svOf z x) = true := by
  unfold svOf
  split
  · show idOK n 0 = true
    unfold idOK; simp; omega
  · rfl
theorem all2_svs (hn : (ρ 0).blk = none) : ∀ {l : List Nat} {zs : List Value}, All2 (crel ρ) (svs l zs) zs
  | z :: l, v :: r => ⟨crel_svOf hn _ _, all2_svs hn⟩
  | [], v :: r => ⟨crel_svOf hn _ _, all2_svs hn⟩
  | _ :: _, [] => trivial
  | [], [] => trivial
theorem ltB_svs (hp : 0 < n) : ∀ {l : List Nat} {zs : List Value}, ∀ c ∈ svs l zs, ltB n c = true
  | z :: l, v :: r, c, hc => by
    simp only [svs, List.mem_cons] at hc
    rcases hc with rfl | hc
    · exact ltB_svOf hp _ _
    · exact ltB_svs hp c hc
  | [], v :: r, c, hc => by
    simp only [svs, List.mem_cons] at hc
    rcases hc with rfl | hc
    · exact ltB_svOf hp _ _
    · exact ltB_svs hp c hc
  | _ :: _, [], c, hc => by simp [svs] at hc
  | [], [], c, hc => by simp [svs] at hc
theorem svs_len : ∀ {l : List Nat} {zs : List Value}, (svs l zs).length = zs.length
  | z :: l, v :: r => by simp [svs, svs_len]
  | [], v :: r => by simp [svs, svs_len]
  | _ :: _, [] => rfl
  | [], [] => rfl
theorem all2_svOf (hn : (ρ 0).blk = none) (f : Value → Nat) (zs : List Value) : All2 (crel ρ) (zs.map fun z => svOf (f z) z) zs := by
  refine All2.map_left.2 ?_
  exact All2.of_get rfl fun j v hv => ⟨v, hv, crel_svOf hn _ v⟩
theorem rowBody_ok (hn : (ρ 0).blk = none) (hp : 0 < n) {e : TypeId} {zs : List Value} {b : Body} (h : rowBody P e zs = some b) : All2 (crel ρ) b.cells zs ∧ (∀ es, b ≠ .mp es) ∧ b.lt n = true := by
  unfold rowBody at h
  split at h
  · split at h
    · cases h; rename_i h1; exact ⟨all2_ints h1, by simp, rfl⟩
    · cases h
  · split at h
    · split at h
      · cases h; rename_i h1; exact ⟨all2_strs h1, by simp, rfl⟩
      · cases h
    · split at h
      · cases h; exact ⟨all2_v_mk _, by simp, rfl⟩
      · cases h
        exact ⟨all2_svs hn, by simp, by simp only [Body.lt, List.all_eq_true]; exact ltB_svs hp⟩
theorem varBody_ok (hn : (ρ 0).blk = none) (hp : 0 < n) {t : TypeId} {zs : List Value} {b : Body} (h : varBody P t zs = some b) : All2 (crel ρ) b.cells zs ∧ (∀ es, b ≠ .mp es) ∧ b.lt n = true := by
  unfold varBody at h
  split at h
  · split at h
    · split at h
      · cases h; rename_i h1; exact ⟨all2_ints h1, by simp, rfl⟩
      · cases h
    · split at h
      · cases h; exact ⟨all2_v_mk _, by simp, rfl⟩
      · cases h
        exact ⟨all2_svs hn, by simp, by simp only [Body.lt, List.all_eq_true]; exact ltB_svs hp⟩
  · cases h
    refine ⟨all2_svOf hn (fun _ => elemSz P t) zs, by simp, ?_⟩
    simp only [Body.lt, List.all_map, List.all_eq_true, Function.comp_apply]
    exact fun x _ => ltB_svOf hp _ _
theorem HRel.newVals (hH : HRel F w0 ρ n H w) (hn : n < 1000) (T : TypeId) (ys : List Value) (b : Body) (hm : ∀ es, b ≠ .mp es) (hlt : b.lt n = true) (hc : All2 (crel ρ) b.cells ys) :
    HRel F w0 (upd ρ n ⟨some w.heap.size, 0, ys.length, b.isS, none⟩) (n + 1) (H.put n ⟨true, b⟩) (w.alloc (.cells ys.toArray T)) :=
  hH.newRow hn T (0, 0) ys.toArray b ys.length hm hlt (by simp) (by intro j _ hh; simp at hh) (by rw [hc.length]; exact Nat.le_refl _) (fun j x hx => by
    obtain ⟨y, hy, hr⟩ := hc.get hx
    exact ⟨y, by simpa using hy, hr⟩)
theorem HRel.newValsT (hH : HRel F w0 ρ n H w) (hn : n + 1 < 1000) (T : TypeId) (ys : List Value) (b : Body) (hm : ∀ es, b ≠ .mp es) (hlt : b.lt n = true) (hc : All2 (crel ρ) b.cells ys) :
    ∃ ρ', HRel F w0 ρ' (n + 2) ((H.put n ⟨true, b⟩).put (n + 1) ⟨false, .mp (.shp n T (some ys.length))⟩) (w.alloc (.cells ys.toArray T)) ∧ Ext n ρ ρ' ∧ (ρ' n).blk = some w.heap.size ∧ (ρ' n).off = 0 := by
  have h1 := hH.newRowT (by omega) T (0, 0) ys.toArray b ys.length hm hlt (by simp) (by intro j _ hh; simp at hh) (by rw [hc.length]; exact Nat.le_refl _) (fun j x hx => by
    obtain ⟨y, hy, hr⟩ := hc.get hx
    exact ⟨y, by simpa using hy, hr⟩)
  have h2 := h1.newGhost hn n T (some ys.length) (by unfold idOK; simp) (by rw [upd_same]; exact fun _ => ⟨rfl, _, rfl, fun q h => by cases h; simp⟩)
  have e : ∀ l, upd (upd ρ n l) (n + 1) ⟨none, 0, 0, false, none⟩ n = l := fun l => by simp [upd]
  refine ⟨_, h2, (Ext.upd (by omega)).trans (Ext.upd hn) (Nat.le_succ _), by rw [e], by rw [e]⟩
theorem rel_new' {ρ' : Nat → Loc} {i k : Nat} (hl : (ρ' i).blk = some k) (h0 : (ρ' i).off = 0) : rel ρ' (.ptr i 0) (.pointer (some ⟨k, 0, none⟩)) :=
  ⟨k, hl, by rw [h0]⟩
theorem lt_new' : ltT (n + 2) (.ptr n 0) = true := by
  show idOK (n + 2) n = true
  unfold idOK; simp
theorem rel_new {l : Loc} {k : Nat} (hl : l.blk = some k) (h0 : l.off = 0) : rel (upd ρ n l) (.ptr n 0) (.pointer (some ⟨k, 0, none⟩)) := by
  refine ⟨k, by rw [upd_same]; exact hl, ?_⟩
  rw [upd_same, h0]
theorem lt_new : ltT (n + 1) (.ptr n 0) = true := by
  show idOK (n + 1) n = true
  unfold idOK; simp
theorem lt_new_sl {k z : Nat} : ltT (n + 1) (.sl n 0 k z) = true := by
  show idOK (n + 1) n = true
  unfold idOK; simp
theorem zerosOf_info {t : TypeId} {zs : List Value} (h : zerosOf P t = some zs) : ∃ inf zv, P.info? t = some inf ∧ inf.zero = some zv ∧ zv.cells.toList = zs := by
  unfold zerosOf at h
  cases hi : P.info? t with
  | none => simp [hi] at h
  | some inf =>
    cases hz : inf.zero with
    | none => simp [hi, hz] at h
    | some zv => exact ⟨inf, zv, rfl, hz, by simpa [hi, hz] using h⟩
theorem run_zero {t : TypeId} {inf : TypeInfo} {zv : Value} (hi : P.info? t = some inf) (hz : inf.zero = some zv) : (zeroValue t).run P w = .ok zv w := by
  simp [zeroValue, typeInfo, hi, hz]
theorem s_alloc {t : TypeId} (ho : o.op = .alloc t) (hm : trOp P o = some m) (hH : HRel F w0 ρ n H w) (hT : TRel ρ n tm a) (h : sop C tm H n m K) : OpWp P F w0 ρ n o a w K := by
  have hex : execOp a.eval o = (do pure (.value (← Instr.alloc t true (.tuple #[])))) := by unfold execOp; rw [ho]
  simp only [trOp, ho] at hm
  cases hz : zerosOf P t with
  | none => simp [hz] at hm
  | some zs =>
    cases hb : varBody P t zs with
    | none => simp [hz, hb] at hm
    | some b =>
      simp only [hz, hb, Option.bind_some, Option.map_some, Option.some.injEq] at hm
      obtain ⟨inf, zv, hi, hzv, hc⟩ := zerosOf_info hz
      obtain ⟨h1, h2, h3⟩ := varBody_ok (ρ := ρ) (n := n) hH.nil.1 hH.pos hb
      split at hm
      · subst hm
        obtain ⟨hn, hK⟩ := h
        obtain ⟨ρ', q1, q2, q3, q4⟩ := hH.newValsT hn t zs b h2 h3 h1
        refine OpWp.of_gets hex ⟨.pointer (some ⟨w.heap.size, 0, none⟩), _, _, _, _, _, ?_, hK, q1, q2, Nat.le_add_right _ _, rel_new' q3 q4, lt_new'⟩
        simp only [Instr.alloc, Sem.run_bind, run_zero hi hzv, Result.andThen_ok, newVar, newRow, run_newObj, Sem.run_pure, World.alloc_eq]
        rw [← hc]
      subst hm
      obtain ⟨hn, hK⟩ := h
      have hnew := hH.newVals hn t zs b h2 h3 h1
      refine OpWp.of_gets hex ⟨.pointer (some ⟨w.heap.size, 0, none⟩), _, _, _, _, _, ?_, hK, hnew, Ext.upd hn, Nat.le_succ _, rel_new rfl rfl, lt_new⟩
      simp only [Instr.alloc, Sem.run_bind, run_zero hi hzv, Result.andThen_ok, newVar, newRow, run_newObj, Sem.run_pure, World.alloc_eq]
      rw [← hc]
theorem s_box {t : TypeId} {x : Operand} (ho : o.op = .box t x) (hm : trOp P o = some m) (hH : HRel F w0 ρ n H w) (hT : TRel ρ n tm a) (h : sop C tm H n m K) : OpWp P F w0 ρ n o a w K := by
  have hex : execOp a.eval o = (do pure (.value (← Instr.box t (a.eval x)))) := by unfold execOp; rw [ho]
  simp only [trOp, ho, Option.some.injEq] at hm
  split at hm
  · subst hm
    obtain ⟨va, hva, h⟩ := ob_elim h
    obtain ⟨hr, hl⟩ := ev_ok hH hT hva
    split at h
    · rename_i cs
      obtain ⟨ys, he, hz⟩ := hr
      obtain ⟨hn, hK⟩ := h
      obtain ⟨ρ', q1, q2, q3, q4⟩ := hH.newValsT hn t ys (.sv cs) (by simp) hl hz
      rw [← hz.length] at q1
      refine OpWp.of_gets hex ⟨.pointer (some ⟨w.heap.size, 0, none⟩), _, _, _, _, _, ?_, hK, q1, q2, Nat.le_add_right _ _, rel_new' q3 q4, lt_new'⟩
      have hc : (a.eval x).cells = ys.toArray := by rw [he]; rfl
      simp only [Instr.box, Sem.run_bind, newVar, newRow, run_newObj, Result.andThen_ok, Sem.run_pure, World.alloc_eq, hc]
    · exact h.elim
  subst hm
  obtain ⟨va, hva, h⟩ := ob_elim h
  obtain ⟨hr, hl⟩ := ev_ok hH hT hva
  have key : ∀ (b : Body) (ys : List Value), (∀ es, b ≠ .mp es) → b.lt n = true → All2 (crel ρ) b.cells ys → (a.eval x).cells = ys.toArray → fresh H n b (fun H' n' => K (.ptr n 0) H' n') → OpWp P F w0 ρ n o a w K := by
    intro b ys h2 h3 h1 hc ⟨hn, hK⟩
    have hnew := hH.newVals hn t ys b h2 h3 h1
    refine OpWp.of_gets hex ⟨.pointer (some ⟨w.heap.size, 0, none⟩), _, _, _, _, _, ?_, hK, hnew, Ext.upd hn, Nat.le_succ _, rel_new rfl rfl, lt_new⟩
    simp only [Instr.box, Sem.run_bind, newVar, newRow, run_newObj, Result.andThen_ok, Sem.run_pure, World.alloc_eq, hc]
  split at h
  · rename_i k ys
    have hr : a.eval x = .agg (ys.map (Value.int k)).toArray := hr
    exact key _ _ (by simp) rfl (by simpa [Body.cells, Function.comp_def] using all2_v_mk (ρ := ρ) (ys.map (Value.int k))) (by rw [hr]; rfl) h
  · rename_i xs
    rw [rel_v] at hr
    exact key (.pl xs) xs (by simp) rfl (all2_v_mk _) (by rw [hr]; rfl) h
  · rename_i cs
    obtain ⟨ys, he, hz⟩ := hr
    exact key (.sv cs) ys (by simp) hl hz (by rw [he]; rfl) h
  · exact h.elim
  · exact h.elim
  · rename_i h1 h2 h3 h4 h5
    have hone : va.one = true := by
      cases va with
      | v y => cases y <;> first | rfl | (rename_i q; cases q; exact absurd rfl (h2 _)) | (rename_i q; exact absurd rfl (h5 q))
      | agg cs => exact absurd rfl (h3 cs)
      | ai k ys => exact absurd rfl (h1 k ys)
      | tup cs => exact absurd rfl (h4 cs)
      | _ => rfl
    obtain ⟨hc, ho1⟩ := crel_of_rel hone hr
    refine key (.sv [va]) [a.eval x] (by simp) ?_ ⟨hc, trivial⟩ (by rw [cells_one ho1]) h
    simp only [Body.lt, List.all_cons, List.all_nil, Bool.and_true]
    exact ltB_of_ltT hone hl
theorem run_sure {v : Value} {b k : Nat} (h : v = .pointer (some ⟨b, k, none⟩)) : (Instr.sureAddr v).run P w = .ok ⟨b, k, none⟩ w := by subst h; rfl
theorem s_load {t : TypeId} {x : Operand} (ho : o.op = .load t x) (hm : trOp P o = some m) (hH : HRel F w0 ρ n H w) (hT : TRel ρ n tm a) (hu : ∃ d, P.underlying t = some d) (h : sop C tm H n m K) : OpWp P F w0 ρ n o a w K := by
  have hex : execOp a.eval o = (do pure (.value (← Instr.loadAt t (a.eval x)))) := by unfold execOp; rw [ho]
  obtain ⟨d, hu⟩ := hu
  obtain ⟨inf, hi⟩ := info_of_underlying hu
  simp only [trOp, ho] at hm
  split at hm
  · rename_i hag
    cases hm
    obtain ⟨va, hva, h⟩ := ob_elim h
    obtain ⟨i, q, rfl, h⟩ := asP_elim h
    obtain ⟨s, hs, h⟩ := ob_elim h
    obtain ⟨v, hle, hK, hmp, hrel, hlt⟩ := getN_elim h
    obtain ⟨blk, hb, hval⟩ := (ev_ok hH hT hva).1
    obtain ⟨c, T, fr, ys, e1, e2, e3, e4⟩ := row_read (obj_row hH hs hmp) hb q _ hle
    refine OpWp.of_gets hex (Gets.same hH (x := .agg ys.toArray) ?_ hK (hrel ρ ys e3) (hlt n (hH.lt i s hs).2))
    have := run_loadCells (P := P) e1 ys e4
    rw [e2, szOf_eq hi] at this
    simp only [Instr.loadAt, Sem.run_bind, run_sure hval, Result.andThen_ok, loadVar, run_isAgg' hu, hag, if_true, run_sizeOf' hi, this, Sem.run_pure]
  · rename_i hag
    cases hm
    obtain ⟨va, hva, h⟩ := ob_elim h
    obtain ⟨i, q, rfl, h⟩ := asP_elim h
    obtain ⟨s, hs, h⟩ := ob_elim h
    obtain ⟨v, hv, hK, hmp⟩ := get_elim h
    obtain ⟨blk, hb, hval⟩ := (ev_ok hH hT hva).1
    have hrow := obj_row hH hs hmp
    simp only [RowOK, hb] at hrow
    obtain ⟨c, T, fr, e1, e2, e3, e4, e5⟩ := hrow
    obtain ⟨y, hy, hr⟩ := e4 q v hv
    refine OpWp.of_gets hex (Gets.same hH (x := y) ?_ hK (rel_of_crel hr) (ltT_of_ltB (Body.lt_cells (hH.lt i s hs).2 (List.mem_of_getElem? hv))))
    have := run_ld (P := P) e1 hy
    simp only [Instr.loadAt, Sem.run_bind, run_sure hval, Result.andThen_ok, loadVar, run_isAgg' hu, hag, Bool.false_eq_true, if_false, this]
theorem s_store {t : TypeId} {x y : Operand} (ho : o.op = .store t x y) (hm : trOp P o = some m) (hH : HRel F w0 ρ n H w) (hT : TRel ρ n tm a) (hi : ∃ inf, P.info? t = some inf) (h : sop C tm H n m K) : OpWp P F w0 ρ n o a w K := by
  have hex : execOp a.eval o = (do Instr.storeAt t (a.eval x) (a.eval y); pure .skip) := by unfold execOp; rw [ho]
  obtain ⟨inf, hi⟩ := hi
  simp only [trOp, ho] at hm
  split at hm
  · cases hm
    obtain ⟨vp, hvp, h⟩ := ob_elim h
    obtain ⟨va, hva, h⟩ := ob_elim h
    obtain ⟨i, q, rfl, h⟩ := asP_elim h
    obtain ⟨s, hs, hw, h⟩ := ob_elim h
    obtain ⟨b', zs, ⟨hbS, hK⟩, hzl, hle, hbc, hmp, hmp', hrel, hlt⟩ := setN_elim (Body.setN_isS h)
    obtain ⟨hr, hl⟩ := ev_ok hH hT hva
    obtain ⟨blk, hb, hval⟩ := (ev_ok hH hT hvp).1
    obtain ⟨ys, hy, hz, h1c⟩ := hrel ρ _ hr
    obtain ⟨w', hrun, hH'⟩ := hH.over (P := P) hs hw hmp hb q zs ys hz (by omega) h1c b' hbc hmp' (hlt n (hH.lt i s hs).2 hl) hbS
    refine OpWp.of_unit hex ?_ hK hH'
    have hsz : (Value.agg ys.toArray).cells.size = inf.size := by
      show ys.toArray.size = _
      rw [List.size_toArray, ← hz.length, hzl, szOf_eq hi]
    rw [hy]
    simp only [Instr.storeAt, Sem.run_bind, run_sure hval, Result.andThen_ok, storeVar, run_sizeOf' hi, hsz, ne_eq, not_true_eq_false, if_false]
    exact hrun
  · split at hm
    · rename_i hs1
      cases hm
      obtain ⟨vp, hvp, h⟩ := ob_elim h
      obtain ⟨va, hva, h⟩ := ob_elim h
      obtain ⟨i, q, rfl, h⟩ := asP_elim h
      obtain ⟨s, hs, hw, h⟩ := ob_elim h
      obtain ⟨b', ⟨hbS, hK⟩, hle, hbc, hmp, hmp', hone, hlt⟩ := set_elim (Body.set_isS h)
      obtain ⟨hr, hl⟩ := ev_ok hH hT hva
      obtain ⟨blk, hb, hval⟩ := (ev_ok hH hT hvp).1
      obtain ⟨hc, ho1⟩ := crel_of_rel hone hr
      obtain ⟨w', hrun, hH'⟩ := hH.over (P := P) hs hw hmp hb q [va] [a.eval y] ⟨hc, trivial⟩ (by simpa using hle) (by simpa using ho1) b' hbc hmp' (hlt n (hH.lt i s hs).2 (ltB_of_ltT hone hl)) hbS
      refine OpWp.of_unit hex ?_ hK hH'
      have hsz : (a.eval y).cells.size = inf.size := by rw [cells_one ho1]; rw [szOf_eq hi] at hs1; simp [hs1]
      simp only [Instr.storeAt, Sem.run_bind, run_sure hval, Result.andThen_ok, storeVar, run_sizeOf' hi, hsz, ne_eq, not_true_eq_false, if_false]
      rw [cells_one ho1]
      exact hrun
    · cases hm
theorem s_nilck {x : Operand} (ho : o.op = .nilCheck x) (hm : trOp P o = some m) (hH : HRel F w0 ρ n H w) (hT : TRel ρ n tm a) (h : sop C tm H n m K) : OpWp P F w0 ρ n o a w K := by
  simp [trOp, ho] at hm; subst hm
  obtain ⟨va, hva, h⟩ := ob_elim h
  obtain ⟨hr, hl⟩ := ev_ok hH hT hva
  split at h
  · obtain ⟨b, hb, hval⟩ := hr
    refine OpWp.of_value (x := a.eval x) ?_ hH h ⟨b, hb, hval⟩ hl
    unfold execOp; rw [ho]; simp only; rw [hval]
  · obtain ⟨ys, hval, hz⟩ := hr
    refine OpWp.of_value (x := a.eval x) ?_ hH h ⟨ys, hval, hz⟩ hl
    unfold execOp; rw [ho]; simp only; rw [hval]
  · rw [rel_v] at hr
    refine OpWp.of_value (x := a.eval x) ?_ hH h hr hl
    unfold execOp; rw [ho]; simp only; rw [hr]
  · exact h.elim
end Go.Sx

/- One operation: addresses, parts, slices. -/
set_option linter.unusedVariables false
namespace Go.Sx
variable {P : Program} {F : Nat → Prop} {w0 w : World} {ρ : Nat → Loc} {n : Nat} {H : Hp} {tm : List (Nat × SV)} {a : Act} {C : Tab} {o : Oper} {m : MO} {K : SV → Hp → Nat → Prop}
theorem s_fadr {s : TypeId} {x : Operand} {f : Nat} (ho : o.op = .fieldAddr s x f) (hm : trOp P o = some m) (hH : HRel F w0 ρ n H w) (hT : TRel ρ n tm a) (h : sop C tm H n m K) : OpWp P F w0 ρ n o a w K := by
  have hex : execOp a.eval o = (do pure (.value (← Instr.fieldAt s (a.eval x) f))) := by unfold execOp; rw [ho]
  simp only [trOp, ho] at hm
  split at hm
  · rename_i fs hs
    cases hf : fs[f]? with
    | none => simp [hf] at hm
    | some fd =>
      simp only [hf, Option.bind_some] at hm
      split at hm
      · cases hm
      · rename_i hsz
        cases hm
        replace h := ob_elim h; obtain ⟨va, hva, h⟩ := h
        replace h := asP_elim h; obtain ⟨i, q, rfl, hK⟩ := h
        obtain ⟨⟨blk, hb, hval⟩, hl⟩ := ev_ok hH hT hva
        have hi : ∃ inf, P.info? fd.type = some inf := by
          cases hi : P.info? fd.type with
          | none => simp [szOf, hi] at hsz
          | some inf => exact ⟨inf, rfl⟩
        obtain ⟨inf, hi⟩ := hi
        rw [szOf_eq hi] at hsz
        refine OpWp.of_gets hex (Gets.same hH (x := .pointer (some ⟨blk, (ρ i).off + (q + fd.offset), none⟩)) ?_ hK ⟨blk, hb, rfl⟩ hl)
        simp only [Instr.fieldAt, Sem.run_bind, run_underlying' hs, Result.andThen_ok, hf, run_sure hval, fieldPlace, run_sizeOf' hi, hsz, if_false, Sem.run_pure, add_plain, Nat.add_assoc]
  · cases hm
theorem extract_list (ys : List Value) (off k : Nat) : ys.toArray.extract off (off + k) = ((ys.drop off).take k).toArray := by
  apply Array.ext'
  simp [List.extract_eq_take_drop]
theorem fldOf_elim {v : SV} {off k : Nat} {ag : Bool} {K : SV → Prop} (h : fldOf v off k ag K) : ∃ c, K c ∧ (∀ ρ y, rel ρ v y → ∃ cs : Array Value, y = .agg cs ∧
    (ag = true → rel ρ c (.agg (cs.extract off (off + k)))) ∧ (ag = false → ∃ x, cs[off]? = some x ∧ rel ρ c x)) ∧ (∀ n, ltT n v = true → ltT n c = true) := by
  unfold fldOf at h
  split at h
  · rename_i cs
    split at h
    · obtain ⟨h1, h⟩ := h
      refine ⟨_, h, fun ρ y ⟨ys, hy, hz⟩ => ⟨ys.toArray, hy, fun _ => ⟨(ys.drop off).take k, ?_, All2.take _ (All2.drop _ hz)⟩, fun e => absurd e (by simp [*])⟩, fun n hn => ?_⟩
      · rw [extract_list]
      · simp only [ltT, ltC, List.all_eq_true] at *
        exact fun x hx => hn x (List.mem_of_mem_drop (List.mem_of_mem_take hx))
    · replace h := ob_elim h; obtain ⟨c, hc, h⟩ := h
      refine ⟨c, h, fun ρ y ⟨ys, hy, hz⟩ => ⟨ys.toArray, hy, fun e => absurd e (by simp [*]), fun _ => ?_⟩, fun n hn => ?_⟩
      · obtain ⟨x, hx, hr⟩ := hz.get hc
        exact ⟨x, by simpa using hx, rel_of_crel hr⟩
      · simp only [ltT, ltC, List.all_eq_true] at hn
        exact ltT_of_ltB (hn c (List.mem_of_getElem? hc))
  · rename_i kk ys
    split at h
    · obtain ⟨h1, h⟩ := h
      refine ⟨_, h, fun ρ y hy => ⟨(ys.map (Value.int kk)).toArray, hy, fun _ => ?_, fun e => absurd e (by simp [*])⟩, fun n hn => rfl⟩
      show _ = _
      rw [extract_list]; simp [List.map_take, List.map_drop]
    · obtain ⟨h1, h⟩ := h
      refine ⟨_, h, fun ρ y hy => ⟨(ys.map (Value.int kk)).toArray, hy, fun e => absurd e (by simp [*]), fun _ => ⟨.int kk (ys.getD off 0), ?_, rfl⟩⟩, fun n hn => rfl⟩
      simp [List.getElem?_eq_getElem h1]
  · rename_i xs
    split at h
    · obtain ⟨h1, h⟩ := h
      refine ⟨_, h, fun ρ y hy => ⟨xs.toArray, hy, fun _ => ?_, fun e => absurd e (by simp [*])⟩, fun n hn => rfl⟩
      show _ = _
      rw [extract_list]
    · replace h := ob_elim h; obtain ⟨c, hc, h⟩ := h
      exact ⟨_, h, fun ρ y hy => ⟨xs.toArray, hy, fun e => absurd e (by simp [*]), fun _ => ⟨c, by simpa using hc, rfl⟩⟩, fun n hn => rfl⟩
  · exact h.elim
theorem run_part_agg {t : TypeId} {d : TypeDesc} {inf : TypeInfo} (hu : P.underlying t = some d) (hi : P.info? t = some inf) (hag : isAggT P t = true) (cs : Array Value) (off : Nat) :
    (part t cs off).run P w = .ok (.agg (cs.extract off (off + inf.size))) w := by
  simp only [part, Sem.run_bind, run_isAgg' hu, hag, if_true, Result.andThen_ok, run_sizeOf' hi, Sem.run_pure]
theorem run_part_one {t : TypeId} {d : TypeDesc} (hu : P.underlying t = some d) (hag : isAggT P t = false) (cs : Array Value) (off : Nat) (x : Value) (hx : cs[off]? = some x) :
    (part t cs off).run P w = .ok x w := by
  simp only [part, Sem.run_bind, run_isAgg' hu, hag, Bool.false_eq_true, if_false, Result.andThen_ok, hx, Sem.run_pure]
theorem s_field {s : TypeId} {x : Operand} {f : Nat} (ho : o.op = .field s x f) (hm : trOp P o = some m) (hH : HRel F w0 ρ n H w) (hT : TRel ρ n tm a) (hfu : ∀ fs fd, P.underlying s = some (.struct fs) → fs[f]? = some fd → ∃ d, P.underlying fd.type = some d) (h : sop C tm H n m K) : OpWp P F w0 ρ n o a w K := by
  have hex : execOp a.eval o = (do pure (.value (← Instr.field s (a.eval x) f))) := by unfold execOp; rw [ho]
  simp only [trOp, ho] at hm
  split at hm
  · rename_i fs hs
    cases hf : fs[f]? with
    | none => simp [hf] at hm
    | some fd =>
      simp only [hf, Option.map_some, Option.some.injEq] at hm
      subst hm
      obtain ⟨d, hd⟩ := hfu fs fd hs hf
      obtain ⟨inf, hi⟩ := info_of_underlying hd
      replace h := ob_elim h; obtain ⟨va, hva, h⟩ := h
      obtain ⟨hr, hl⟩ := ev_ok hH hT hva
      replace h := fldOf_elim h; obtain ⟨c, hK, hc, hlt⟩ := h
      obtain ⟨cs, hval, h1, h2⟩ := hc ρ _ hr
      cases hag : isAggT P fd.type with
      | true =>
        refine OpWp.of_gets hex (Gets.same hH ?_ hK (h1 hag) (hlt n hl))
        simp only [Instr.field, Sem.run_bind, run_underlying' hs, Result.andThen_ok, hf, hval, asAgg, Sem.run_pure, run_part_agg hd hi hag, szOf_eq hi]
      | false =>
        obtain ⟨y, hy, hr'⟩ := h2 hag
        refine OpWp.of_gets hex (Gets.same hH (x := y) ?_ hK hr' (hlt n hl))
        simp only [Instr.field, Sem.run_bind, run_underlying' hs, Result.andThen_ok, hf, hval, asAgg, Sem.run_pure, run_part_one hd hag cs _ y hy]
  · cases hm
theorem run_asInt {k : IntKind} {j : Int} : (asIntOf (.int k j)).run P w = .ok (k, j) w := rfl
theorem bts_get (s : ByteArray) (j : Nat) (h : j < s.size) : ∃ b, s[j]? = some b ∧ (bts s).getD j 0 = b.toNat := by
  have h2 : s.data.toList[j]? = some s.data.toList[j] := List.getElem?_eq_getElem (by simpa using h)
  refine ⟨s[j], by simp [h], ?_⟩
  simp only [bts, List.getD_eq_getElem?_getD, List.getElem?_map, h2, Option.map_some, Option.getD_some]
  rfl
theorem s_indexAddr {t : TypeId} {x y : Operand} (ho : o.op = .indexAddr t x y) (hm : trOp P o = some m) (hH : HRel F w0 ρ n H w) (hT : TRel ρ n tm a) (hei : ∀ e, (P.underlying t = some (.slice e) ∨ ∃ k, P.underlying t = some (.array k e)) → ∃ inf, P.info? e = some inf) (h : sop C tm H n m K) : OpWp P F w0 ρ n o a w K := by
  have hex : execOp a.eval o = (do pure (.value (← Instr.indexAt t (a.eval x) (a.eval y)))) := by unfold execOp; rw [ho]
  simp only [trOp, ho] at hm
  split at hm
  · rename_i e hu
    cases hm
    obtain ⟨inf, hi⟩ := hei e (.inl hu)
    replace h := ob_elim h; obtain ⟨va, hva, h⟩ := h
    replace h := ob_elim h; obtain ⟨vi, hvi, h⟩ := h
    replace h := asSl_elim h; obtain ⟨i, q, len, z, rfl, h⟩ := h
    replace h := asI_elim h; obtain ⟨k, j, rfl, h⟩ := h
    obtain ⟨rfl, ⟨hj0, hj1⟩, hK⟩ := h
    obtain ⟨hr, hl⟩ := ev_ok hH hT hva
    have hri := (ev_ok hH hT hvi).1
    rw [rel_v] at hri
    have hr : slrel (ρ i) q len (szOf P e) (a.eval x) := hr
    unfold slrel at hr
    cases hb : (ρ i).blk with
    | none => simp only [hb] at hr; omega
    | some blk =>
      simp only [hb] at hr
      obtain ⟨c, ad, h1, h2, h3, hval⟩ := hr
      have had := h3 (by omega)
      refine OpWp.of_gets hex (Gets.same hH (x := .pointer (some ⟨blk, (ρ i).off + (q + j.toNat * szOf P e), none⟩)) ?_ hK ⟨blk, hb, rfl⟩ hl)
      simp only [Instr.indexAt, Sem.run_bind, hri, run_asInt, Result.andThen_ok, run_underlying' hu, hval, Sem.run_pure]
      rw [if_pos ⟨hj0, hj1⟩]
      simp only [Sem.run_bind, run_sizeOf' hi, Result.andThen_ok, Sem.run_pure, add_plain, had, szOf_eq hi, Nat.add_assoc]
  · rename_i k e hu
    cases hm
    obtain ⟨inf, hi⟩ := hei e (.inr ⟨k, hu⟩)
    replace h := ob_elim h; obtain ⟨va, hva, h⟩ := h
    replace h := ob_elim h; obtain ⟨vi, hvi, h⟩ := h
    replace h := asP_elim h; obtain ⟨i, q, rfl, h⟩ := h
    replace h := asI_elim h; obtain ⟨kk, j, rfl, h⟩ := h
    obtain ⟨⟨hj0, hj1⟩, hK⟩ := h
    obtain ⟨⟨blk, hb, hval⟩, hl⟩ := ev_ok hH hT hva
    have hri := (ev_ok hH hT hvi).1
    rw [rel_v] at hri
    refine OpWp.of_gets hex (Gets.same hH (x := .pointer (some ⟨blk, (ρ i).off + (q + j.toNat * szOf P e), none⟩)) ?_ hK ⟨blk, hb, rfl⟩ hl)
    simp only [Instr.indexAt, Sem.run_bind, hri, run_asInt, Result.andThen_ok, run_underlying' hu, hval, Sem.run_pure, Instr.sureAddr]
    rw [if_pos ⟨hj0, hj1⟩]
    simp only [Sem.run_bind, run_sizeOf' hi, Result.andThen_ok, Sem.run_pure, add_plain, szOf_eq hi, Nat.add_assoc]
  · cases hm
theorem s_index {t : TypeId} {x y : Operand} (ho : o.op = .index t x y) (hm : trOp P o = some m) (hH : HRel F w0 ρ n H w) (hT : TRel ρ n tm a) (heu : ∀ k e, P.underlying t = some (.array k e) → ∃ d, P.underlying e = some d) (h : sop C tm H n m K) : OpWp P F w0 ρ n o a w K := by
  have hex : execOp a.eval o = (do pure (.value (← Instr.index t (a.eval x) (a.eval y)))) := by unfold execOp; rw [ho]
  simp only [trOp, ho] at hm
  split at hm
  · rename_i hu
    cases hm
    replace h := ob_elim h; obtain ⟨va, hva, h⟩ := h
    replace h := ob_elim h; obtain ⟨vi, hvi, h⟩ := h
    replace h := asS_elim h; obtain ⟨s, rfl, h⟩ := h
    replace h := asI_elim h; obtain ⟨k, j, rfl, h⟩ := h
    obtain ⟨⟨hj0, hj1⟩, hK⟩ := h
    have hr := (ev_ok hH hT hva).1
    have hri := (ev_ok hH hT hvi).1
    rw [rel_v] at hr hri
    obtain ⟨b, hb1, hb2⟩ := bts_get s j.toNat (by omega)
    rw [hb2] at hK
    refine OpWp.of_gets hex (Gets.same hH (x := .int .u8 b.toNat) ?_ hK rfl rfl)
    simp only [Instr.index, Sem.run_bind, hri, run_asInt, Result.andThen_ok, run_underlying' hu, hr, hj0, if_true, hb1, Sem.run_pure]
  · rename_i k e hu
    split at hm
    · cases hm
    · rename_i hne
      simp only [Bool.or_eq_true, bne_iff_ne, ne_eq, not_or, Bool.not_eq_true, Decidable.not_not] at hne
      obtain ⟨hag, hsz⟩ := hne
      cases hm
      obtain ⟨d, hd⟩ := heu k e hu
      obtain ⟨inf, hi⟩ := info_of_underlying hd
      rw [szOf_eq hi] at hsz
      replace h := ob_elim h; obtain ⟨va, hva, h⟩ := h
      replace h := ob_elim h; obtain ⟨vi, hvi, h⟩ := h
      replace h := asI_elim h; obtain ⟨kk, j, rfl, h⟩ := h
      obtain ⟨⟨hj0, hj1⟩, h⟩ := h
      obtain ⟨hr, hl⟩ := ev_ok hH hT hva
      have hri := (ev_ok hH hT hvi).1
      rw [rel_v] at hri
      replace h := fldOf_elim h; obtain ⟨c, hK, hc, hlt⟩ := h
      obtain ⟨cs, hval, _, h2⟩ := hc ρ _ hr
      obtain ⟨z, hz, hrz⟩ := h2 rfl
      refine OpWp.of_gets hex (Gets.same hH (x := z) ?_ hK hrz (hlt n hl))
      simp only [Instr.index, Sem.run_bind, hri, run_asInt, Result.andThen_ok, run_underlying' hu, hval]
      rw [if_pos ⟨hj0, hj1⟩]
      simp only [Sem.run_bind, run_sizeOf' hi, Result.andThen_ok, hsz, Nat.mul_one, run_part_one hd hag cs _ z hz]
  · cases hm
theorem bnd_elim (hH : HRel F w0 ρ n H w) (hT : TRel ρ n tm a) {x : Option Operand} {d : Int} {K : Int → Prop} (h : bnd tm (x.map (trA P 0)) d K) :
    ∃ j, K j ∧ (x = none → j = d) ∧ (∀ y, x = some y → ∃ k, a.eval y = .int k j) := by
  cases x with
  | none => exact ⟨d, h, fun _ => rfl, by simp⟩
  | some y =>
    simp only [Option.map_some, bnd] at h
    replace h := ob_elim h; obtain ⟨v, hv, h⟩ := h
    replace h := asI_elim h; obtain ⟨k, j, rfl, hK⟩ := h
    have hr := (ev_ok hH hT hv).1
    rw [rel_v] at hr
    exact ⟨j, hK, by simp, fun z hz => by cases hz; exact ⟨k, hr⟩⟩
theorem run_bounds (b : Bool) {len cap : Nat} {lo hi : Option Operand} {l h : Int} (hh1 : hi = none → h = len) (hh2 : ∀ y, hi = some y → ∃ k, a.eval y = .int k h) (hl1 : lo = none → l = 0) (hl2 : ∀ y, lo = some y → ∃ k, a.eval y = .int k l)
    (h0 : 0 ≤ l) (h1 : l ≤ h) (h2 : h ≤ len) (hc : len ≤ cap) : (Instr.sliceBounds b len cap (lo.map a.eval) (hi.map a.eval) none).run P w = .ok (l.toNat, h.toNat, cap) w := by
  have key : ∀ (v : Value) (k : IntKind) (j : Int) (y : Nat) (c : BoundsCode), v = .int k j → 0 ≤ j → j ≤ y → (Instr.sliceBound v y c).run P w = .ok j.toNat w := by
    intro v k j y c hv h0 h1
    subst hv
    simp only [Instr.sliceBound, Sem.run_bind, run_asInt, Result.andThen_ok]
    rw [if_pos ⟨h0, h1⟩]; rfl
  cases hi with
  | none =>
    have := hh1 rfl; subst this
    cases lo with
    | none => have := hl1 rfl; subst this; simp [Instr.sliceBounds]
    | some y =>
      obtain ⟨k, hk⟩ := hl2 y rfl
      simp [Instr.sliceBounds, key _ k l len .sliceB hk h0 h1]
  | some z =>
    obtain ⟨kh, hkh⟩ := hh2 z rfl
    cases lo with
    | none => have := hl1 rfl; subst this; simp [Instr.sliceBounds, key _ kh h cap _ hkh (by omega) (by omega)]
    | some y =>
      obtain ⟨k, hk⟩ := hl2 y rfl
      simp [Instr.sliceBounds, key _ kh h cap _ hkh (by omega) (by omega), key _ k l h.toNat .sliceB hk h0 (by omega)]
theorem s_slice {t : TypeId} {x : Operand} {lo hi : Option Operand} (ho : o.op = .slice t x lo hi none) (hm : trOp P o = some m) (hH : HRel F w0 ρ n H w) (hT : TRel ρ n tm a)
    (hei : ∀ e, (P.underlying t = some (.slice e) ∨ ∃ k, P.underlying t = some (.array k e)) → ∃ inf, P.info? e = some inf) (h : sop C tm H n m K) : OpWp P F w0 ρ n o a w K := by
  have hex : execOp a.eval o = (do pure (.value (← Instr.sliceAt t (a.eval x) (lo.map a.eval) (hi.map a.eval) none))) := by unfold execOp; rw [ho]; rfl
  simp only [trOp, ho] at hm
  split at hm
  · -- a string
    rename_i hu
    cases hm
    replace h := ob_elim h; obtain ⟨va, hva, h⟩ := h
    replace h := asS_elim h; obtain ⟨s, rfl, h⟩ := h
    replace h := bnd_elim (P := P) hH hT h; obtain ⟨hh, h, hh1, hh2⟩ := h
    replace h := bnd_elim (P := P) hH hT h; obtain ⟨ll, h, hl1, hl2⟩ := h
    obtain ⟨⟨b0, b1, b2⟩, hK⟩ := h
    have hr := (ev_ok hH hT hva).1
    rw [rel_v] at hr
    refine OpWp.of_gets hex (Gets.same hH (x := .string (s.extract ll.toNat hh.toNat)) ?_ hK rfl rfl)
    simp only [Instr.sliceAt, Sem.run_bind, run_underlying' hu, Result.andThen_ok, Instr.slice, hr, Option.isSome_none, Bool.false_eq_true, if_false, run_bounds (P := P) (w := w) false hh1 hh2 hl1 hl2 b0 b1 b2 (Nat.le_refl _), Sem.run_pure]
  · -- a slice
    rename_i e hu
    cases hm
    obtain ⟨inf, hi'⟩ := hei e (.inl hu)
    replace h := ob_elim h; obtain ⟨va, hva, h⟩ := h
    replace h := asSl_elim h; obtain ⟨i, q, len, z, rfl, h⟩ := h
    obtain ⟨rfl, h⟩ := h
    replace h := bnd_elim (P := P) hH hT h; obtain ⟨hh, h, hh1, hh2⟩ := h
    replace h := bnd_elim (P := P) hH hT h; obtain ⟨ll, h, hl1, hl2⟩ := h
    obtain ⟨⟨b0, b1, b2⟩, hK⟩ := h
    obtain ⟨hr, hl⟩ := ev_ok hH hT hva
    have hr : slrel (ρ i) q len (szOf P e) (a.eval x) := hr
    unfold slrel at hr
    cases hb : (ρ i).blk with
    | none =>
      simp only [hb] at hr
      obtain ⟨rfl, hval0⟩ := hr
      have e1 : ll = 0 := by omega
      have e2 : hh = 0 := by omega
      subst e1; subst e2
      rcases hval0 with hval | ⟨hsz, ad, hval⟩
      case inr =>
        refine OpWp.of_gets hex (Gets.same hH (x := .slice (some ad) 0 0) ?_ hK ?_ hl)
        · simp only [Instr.sliceAt, Sem.run_bind, run_underlying' hu, Result.andThen_ok, Instr.slice, hval, run_bounds (P := P) (w := w) true hh1 hh2 hl1 hl2 b0 b1 b2 (Nat.le_refl _), run_sizeOf' hi', Sem.run_pure, Option.map_some]
          rfl
        · show slrel _ _ _ _ _
          simp [slrel, slno, hb]
          exact hsz
      refine OpWp.of_gets hex (Gets.same hH (x := .slice none 0 0) ?_ hK ?_ hl)
      · simp only [Instr.sliceAt, Sem.run_bind, run_underlying' hu, Result.andThen_ok, Instr.slice, hval, run_bounds (P := P) (w := w) true hh1 hh2 hl1 hl2 b0 b1 b2 (Nat.le_refl _), run_sizeOf' hi', Sem.run_pure]
        rfl
      · show slrel _ _ _ _ _
        simp [slrel, slno, hb]
    | some blk =>
      simp only [hb] at hr
      obtain ⟨c, ad, h1, ⟨h2, hx2⟩, h3, hval⟩ := hr
      have hmul : ll.toNat * szOf P e + (c - ll.toNat) * szOf P e = c * szOf P e := by rw [← Nat.add_mul]; congr 1; omega
      refine OpWp.of_gets hex (Gets.same hH (x := .slice (if c = ll.toNat then some ⟨blk, ad, none⟩ else some ((⟨blk, ad, none⟩ : Addr).add (ll.toNat * szOf P e))) (hh.toNat - ll.toNat) (c - ll.toNat)) ?_ hK ?_ hl)
      · simp only [Instr.sliceAt, Sem.run_bind, run_underlying' hu, Result.andThen_ok, Instr.slice, hval, run_bounds (P := P) (w := w) true hh1 hh2 hl1 hl2 b0 b1 b2 h1, run_sizeOf' hi', Sem.run_pure, Option.map_some, szOf_eq hi']
      · show slrel _ _ _ _ _
        simp only [slrel, hb]
        by_cases hcl : c = ll.toNat
        · refine ⟨c - ll.toNat, ad, by omega, ⟨by omega, fun e => by have := hx2 e; omega⟩, fun h => absurd hcl (by omega), by rw [if_pos hcl]⟩
        · refine ⟨c - ll.toNat, ad + ll.toNat * szOf P e, by omega, ⟨by omega, fun e => by have := hx2 e; omega⟩, fun _ => by rw [h3 (by omega)]; omega, by rw [if_neg hcl, add_plain]⟩
  · -- an array behind a pointer
    rename_i k e hu
    cases hm
    obtain ⟨inf, hi'⟩ := hei e (.inr ⟨k, hu⟩)
    replace h := ob_elim h; obtain ⟨va, hva, h⟩ := h
    replace h := asP_elim h; obtain ⟨i, q, rfl, h⟩ := h
    replace h := ob_elim h; obtain ⟨s, hs, h⟩ := h
    obtain ⟨hpos, hfit, hloose, h⟩ := h
    replace h := bnd_elim (P := P) hH hT h; obtain ⟨hh, h, hh1, hh2⟩ := h
    replace h := bnd_elim (P := P) hH hT h; obtain ⟨ll, h, hl1, hl2⟩ := h
    obtain ⟨⟨b0, b1, b2⟩, hK⟩ := h
    obtain ⟨⟨blk, hb, hval⟩, hl⟩ := ev_ok hH hT hva
    have hmp : ∀ es, s.b ≠ .mp es := fun es he => by
      rw [he] at hfit
      simp only [Body.cells, List.length_nil] at hfit
      omega
    have hsize : s.b.cells.length ≤ (ρ i).size := by
      have := obj_row hH hs hmp
      simp only [RowOK, hb] at this
      obtain ⟨c, T, fr, _, _, h3, _, _⟩ := this
      exact h3
    have hnx : (ρ i).ex = false := loose_ex (obj_ex hH hs hmp) hloose (by rw [hb]; simp)
    have hmul : ll.toNat * szOf P e + (k - ll.toNat) * szOf P e = k * szOf P e := by rw [← Nat.add_mul]; congr 1; omega
    refine OpWp.of_gets hex (Gets.same hH (x := .slice (some (if k = ll.toNat then (⟨blk, (ρ i).off + q, none⟩ : Addr) else (⟨blk, (ρ i).off + q, none⟩ : Addr).add (ll.toNat * szOf P e))) (hh.toNat - ll.toNat) (k - ll.toNat)) ?_ hK ?_ hl)
    · simp only [Instr.sliceAt, Sem.run_bind, run_underlying' hu, Result.andThen_ok, run_sure hval, run_bounds (P := P) (w := w) false hh1 hh2 hl1 hl2 b0 b1 b2 (Nat.le_refl _), run_sizeOf' hi', Sem.run_pure, szOf_eq hi']
    · show slrel _ _ _ _ _
      simp only [slrel, hb]
      by_cases hcl : k = ll.toNat
      · refine ⟨k - ll.toNat, (ρ i).off + q, by omega, ⟨by omega, fun e => by rw [hnx] at e; cases e⟩, fun h => absurd hcl (by omega), by rw [if_pos hcl]⟩
      · refine ⟨k - ll.toNat, (ρ i).off + q + ll.toNat * szOf P e, by omega, ⟨by omega, fun e => by rw [hnx] at e; cases e⟩, fun _ => by omega, by rw [if_neg hcl, add_plain]⟩
  · cases hm
theorem run_bounds3 {len cap : Nat} {lo : Option Operand} {hi mx : Operand} {l h c : Int} (hm : ∃ k, a.eval mx = .int k c) (hh : ∃ k, a.eval hi = .int k h) (hl1 : lo = none → l = 0) (hl2 : ∀ y, lo = some y → ∃ k, a.eval y = .int k l)
    (h0 : 0 ≤ l) (h1 : l ≤ h) (h2 : h ≤ c) (hc : c ≤ cap) : (Instr.sliceBounds true len cap (lo.map a.eval) (some (a.eval hi)) (some (a.eval mx))).run P w = .ok (l.toNat, h.toNat, c.toNat) w := by
  have key : ∀ (v : Value) (k : IntKind) (j : Int) (y : Nat) (c : BoundsCode), v = .int k j → 0 ≤ j → j ≤ y → (Instr.sliceBound v y c).run P w = .ok j.toNat w := by
    intro v k j y c hv h0 h1
    subst hv
    simp only [Instr.sliceBound, Sem.run_bind, run_asInt, Result.andThen_ok]
    rw [if_pos ⟨h0, h1⟩]; rfl
  obtain ⟨km, hm⟩ := hm
  obtain ⟨kh, hh⟩ := hh
  cases lo with
  | none => have := hl1 rfl; subst this; simp [Instr.sliceBounds, key _ km c cap _ hm (by omega) (by omega), key _ kh h c.toNat _ hh (by omega) (by omega)]
  | some y =>
    obtain ⟨k, hk⟩ := hl2 y rfl
    simp [Instr.sliceBounds, key _ km c cap _ hm (by omega) (by omega), key _ kh h c.toNat _ hh (by omega) (by omega), key _ k l h.toNat _ hk h0 (by omega)]
theorem s_slice3 {t : TypeId} {x hi mx : Operand} {lo : Option Operand} (ho : o.op = .slice t x lo (some hi) (some mx)) (hm : trOp P o = some m) (hH : HRel F w0 ρ n H w) (hT : TRel ρ n tm a)
    (hei : ∀ e, (P.underlying t = some (.slice e) ∨ ∃ k, P.underlying t = some (.array k e)) → ∃ inf, P.info? e = some inf) (h : sop C tm H n m K) : OpWp P F w0 ρ n o a w K := by
  have hex : execOp a.eval o = (do pure (.value (← Instr.sliceAt t (a.eval x) (lo.map a.eval) (some (a.eval hi)) (some (a.eval mx))))) := by unfold execOp; rw [ho]; rfl
  simp only [trOp, ho] at hm
  split at hm
  case h_2 => cases hm
  rename_i e hu
  cases hm
  obtain ⟨inf, hi'⟩ := hei e (.inl hu)
  replace h := ob_elim h; obtain ⟨va, hva, h⟩ := h
  replace h := asSl_elim h; obtain ⟨i, q, len, z, rfl, h⟩ := h
  obtain ⟨rfl, h⟩ := h
  replace h := ob_elim h; obtain ⟨vm, hvm, h⟩ := h
  replace h := asI_elim h; obtain ⟨km, cc, rfl, h⟩ := h
  replace h := ob_elim h; obtain ⟨vh, hvh, h⟩ := h
  replace h := asI_elim h; obtain ⟨kh, hh, rfl, h⟩ := h
  replace h := bnd_elim (P := P) hH hT h; obtain ⟨ll, h, hl1, hl2⟩ := h
  obtain ⟨⟨b0, b1, b2, b3⟩, h⟩ := h
  replace h := ob_elim h; obtain ⟨s, hs, hloose, hK⟩ := h
  obtain ⟨hr, hl⟩ := ev_ok hH hT hva
  have hrm := (ev_ok hH hT hvm).1
  have hrh := (ev_ok hH hT hvh).1
  rw [rel_v] at hrm hrh
  have hmp : ∀ es, s.b ≠ .mp es := fun es he => by rw [he] at hloose; exact hloose
  have hr : slrel (ρ i) q len (szOf P e) (a.eval x) := hr
  unfold slrel at hr
  cases hb : (ρ i).blk with
  | none =>
    simp only [hb] at hr
    obtain ⟨rfl, hval0⟩ := hr
    obtain ⟨ad, hval⟩ := hval0.form
    have e0 : cc = 0 := by omega
    have e1 : ll = 0 := by omega
    have e2 : hh = 0 := by omega
    subst e0; subst e1; subst e2
    refine OpWp.of_gets hex (Gets.same hH (x := .slice ad 0 0) ?_ hK ?_ hl)
    · simp only [Instr.sliceAt, Sem.run_bind, run_underlying' hu, Result.andThen_ok, Instr.slice, hval, run_bounds3 (P := P) (w := w) ⟨km, hrm⟩ ⟨kh, hrh⟩ hl1 hl2 b0 b1 b2 (by omega : (0 : Int) ≤ (0 : Nat)), run_sizeOf' hi', Sem.run_pure]
      rfl
    · show slrel _ _ _ _ _
      simp only [slrel, hb]
      rw [hval] at hval0
      exact ⟨by simp, hval0⟩
  | some blk =>
    have hnx : (ρ i).ex = false := loose_ex (obj_ex hH hs hmp) hloose (by rw [hb]; simp)
    simp only [hb] at hr
    obtain ⟨c, ad, h1, ⟨h2, hx2⟩, h3, hval⟩ := hr
    have hmul : ll.toNat * szOf P e + (cc.toNat - ll.toNat) * szOf P e = cc.toNat * szOf P e := by rw [← Nat.add_mul]; congr 1; omega
    have hle : cc.toNat * szOf P e ≤ c * szOf P e := Nat.mul_le_mul_right _ (by omega)
    refine OpWp.of_gets hex (Gets.same hH (x := .slice (if cc.toNat = ll.toNat then some ⟨blk, ad, none⟩ else some ((⟨blk, ad, none⟩ : Addr).add (ll.toNat * szOf P e))) (hh.toNat - ll.toNat) (cc.toNat - ll.toNat)) ?_ hK ?_ hl)
    · simp only [Instr.sliceAt, Sem.run_bind, run_underlying' hu, Result.andThen_ok, Instr.slice, hval, run_bounds3 (P := P) (w := w) ⟨km, hrm⟩ ⟨kh, hrh⟩ hl1 hl2 b0 b1 b2 (by omega : cc ≤ (c : Int)), run_sizeOf' hi', Sem.run_pure, Option.map_some, szOf_eq hi']
    · show slrel _ _ _ _ _
      simp only [slrel, hb]
      by_cases hcl : cc.toNat = ll.toNat
      · refine ⟨cc.toNat - ll.toNat, ad, by omega, ⟨by omega, fun e => by rw [hnx] at e; cases e⟩, fun h => absurd hcl (by omega), by rw [if_pos hcl]⟩
      · refine ⟨cc.toNat - ll.toNat, ad + ll.toNat * szOf P e, by omega, ⟨by omega, fun e => by rw [hnx] at e; cases e⟩, fun _ => by rw [h3 (by omega)]; omega, by rw [if_neg hcl, add_plain]⟩
end Go.Sx

/- One operation: building, making, appending, copying. -/
set_option linter.unusedVariables false
namespace Go.Sx
variable {P : Program} {F : Nat → Prop} {w0 w : World} {ρ : Nat → Loc} {n : Nat} {H : Hp} {tm : List (Nat × SV)} {a : Act} {C : Tab} {o : Oper} {m : MO} {K : SV → Hp → Nat → Prop}
theorem s_extract {x : Operand} {ix : Nat} (ho : o.op = .extract x ix) (hm : trOp P o = some m) (hH : HRel F w0 ρ n H w) (hT : TRel ρ n tm a) (h : sop C tm H n m K) : OpWp P F w0 ρ n o a w K := by
  have hex : execOp a.eval o = (do pure (.value (← Instr.extract (a.eval x) ix))) := by unfold execOp; rw [ho]
  simp [trOp, ho] at hm; subst hm
  replace h := ob_elim h; obtain ⟨va, hva, h⟩ := h
  obtain ⟨hr, hl⟩ := ev_ok hH hT hva
  split at h
  · rename_i cs
    replace h := ob_elim h; obtain ⟨c, hc, hK⟩ := h
    obtain ⟨ys, hval, hz⟩ := hr
    obtain ⟨y, hy, hry⟩ := hz.get hc
    have hl' : ltC n c = true := List.all_eq_true.1 hl c (List.mem_of_getElem? hc)
    refine OpWp.of_gets hex (Gets.same hH (x := y) ?_ hK ?_ ?_)
    · simp [Instr.extract, hval, hy]
    · cases c <;> first | exact hry | (simp only [srel, crel, arel] at hry)
    · cases c <;> first | exact hl' | (simp only [ltC, ltB, ltA] at hl'; cases hl')
  · rename_i xs
    replace h := ob_elim h; obtain ⟨c, hc, hK⟩ := h
    rw [rel_v] at hr
    refine OpWp.of_gets hex (Gets.same hH (x := c) ?_ hK rfl rfl)
    simp [Instr.extract, hr, hc]
  · exact h.elim
theorem evs_map {xs : List Operand} {vs : List SV} (hH : HRel F w0 ρ n H w) (hT : TRel ρ n tm a) (f : Operand → TypeId) (h : evs tm (xs.map fun x => trA P (f x) x) = some vs) : All2 (rel ρ) vs (xs.map a.eval) ∧ vs.all (ltT n) = true := by
  have := evs_ok (P := P) hH hT (xs := xs.map fun x => (x, f x)) (vs := vs) (by simpa [Function.comp_def] using h)
  simpa [Function.comp_def] using this
theorem s_makeFunc {fn : Fn} {first caps : Array Operand} (ho : o.op = .makeFunc fn first caps) (hm : trOp P o = some m) (hH : HRel F w0 ρ n H w) (hT : TRel ρ n tm a) (h : sop C tm H n m K) : OpWp P F w0 ρ n o a w K := by
  simp only [trOp, ho] at hm
  split at hm
  case h_2 => cases hm
  rename_i f hf
  cases hm
  have hf0 : first = #[] := by apply Array.ext'; simpa using hf
  subst hf0
  have hex : execOp a.eval o = (do pure (.value (← Instr.makeFunc (.func f) #[] (caps.map a.eval)))) := by unfold execOp; rw [ho]; simp
  replace h := ob_elim h; obtain ⟨vs, hvs, hc, hK⟩ := h
  obtain ⟨hz, hl⟩ := evs_map (P := P) hH hT (fun _ => 0) hvs
  refine OpWp.of_gets hex (Gets.same hH (x := .func (.func f) #[] (caps.map a.eval)) rfl hK ?_ ?_)
  · cases vs with
    | nil =>
      have h0 : caps.toList.map a.eval = [] := by have := hz.length; simpa using this.symm
      have : caps.map a.eval = #[] := by apply Array.ext'; simpa using h0
      simp only [List.isEmpty_nil, if_true]; rw [this]; rfl
    | cons v l =>
      simp only [List.isEmpty_cons, Bool.false_eq_true, if_false]
      refine ⟨caps.toList.map a.eval, ?_, All2.mono (fun c y hcm hcr => ?_) hz⟩
      · congr 1; apply Array.ext'; simp
      · have := List.all_eq_true.1 hc c hcm
        cases c <;> first | exact hcr | (simp [SV.leaf] at this)
  · cases vs with
    | nil => rfl
    | cons v l =>
      simp only [List.isEmpty_cons, Bool.false_eq_true, if_false]
      show List.all _ _ = true
      rw [List.all_eq_true] at *
      intro x hx
      have h1 := hc x hx
      have h2 := hl x hx
      cases x <;> first | exact h2 | (simp [SV.leaf] at h1)
theorem known_info {t : TypeId} (h : known P t = true) : (∃ d, P.underlying t = some d) ∧ ∃ inf, P.info? t = some inf := by
  simp only [known, Bool.and_eq_true, Option.isSome_iff_exists] at h
  exact h
theorem run_mapM_list {α β : Type} (f : α → Sem β) (g : α → β) : ∀ (l : List α), (∀ x ∈ l, (f x).run P w = .ok (g x) w) → (l.mapM f).run P w = .ok (l.map g) w
  | [], _ => rfl
  | x :: l, h => by
    simp only [List.mapM_cons, Sem.run_bind, h x (List.mem_cons_self ..), Result.andThen_ok, run_mapM_list f g l (fun y hy => h y (List.mem_cons_of_mem _ hy)), Sem.run_pure, List.map_cons]
theorem run_mapM_arr {α β : Type} (f : α → Sem β) (g : α → β) (l : Array α) (h : ∀ x ∈ l.toList, (f x).run P w = .ok (g x) w) : (l.mapM f).run P w = .ok (l.map g) w := by
  have := run_mapM_list (P := P) (w := w) f g l.toList h
  rw [Array.mapM_eq_mapM_toList, Sem.run_map, this]
  simp only [Result.andThen_ok]
  congr 1; apply Array.ext'; simp
theorem zipIdx_fold (vs : Array Value) (off : Nat) (cs : Array Value) : vs.zipIdx.foldl (fun cs (c, j) => cs.setIfInBounds (off + j) c) cs = stc cs off vs.toList := by
  have key : ∀ (l : List Value) (k : Nat) (cs : Array Value), (l.zipIdx k).foldl (fun cs (c, j) => cs.setIfInBounds (off + j) c) cs = stc cs (off + k) l := by
    intro l
    induction l with
    | nil => intro k cs; rfl
    | cons v r ih => intro k cs; simp only [List.zipIdx_cons, List.foldl_cons, stc]; rw [ih, Nat.add_assoc]
  rw [← Array.foldl_toList]
  simpa using key vs.toList 0 cs
theorem stc_list (c : List Value) (o : Nat) (vs : List Value) (h : o + vs.length ≤ c.length) : (stc c.toArray o vs).toList = splice c o vs := by
  apply List.ext_getElem?
  intro j
  rw [splice_get _ _ _ _ h, Array.getElem?_toList, stc_get _ _ _ _ (by simpa using h)]
  simp
theorem partCells_ok {v : SV} {y : Value} (h : rel ρ v y) (h0 : (partCells v).length ≠ 0) : All2 (crel ρ) (partCells v) y.cells.toList := by
  unfold partCells at *
  split at h0
  · obtain ⟨ys, rfl, hz⟩ := h; simpa [Value.cells] using hz
  · rename_i k ys
    have h : y = .agg (ys.map (Value.int k)).toArray := h
    subst h
    simpa [Value.cells, Function.comp_def] using all2_v_mk (ρ := ρ) (ys.map (Value.int k))
  · rename_i xs
    rw [rel_v] at h; subst h
    exact all2_v_mk xs
  · simp at h0
  · simp at h0
  · rename_i h1 h2 h3 h4 h5
    have hone : v.one = true := by
      cases v with
      | v y => cases y <;> first | rfl | (rename_i q; cases q; exact absurd rfl (h3 _)) | (rename_i q; exact absurd rfl (h5 q))
      | agg cs => exact absurd rfl (h1 cs)
      | ai k ys => exact absurd rfl (h2 k ys)
      | tup cs => exact absurd rfl (h4 cs)
      | _ => rfl
    obtain ⟨hc, ho⟩ := crel_of_rel hone h
    rw [cells_one ho]
    exact ⟨hc, trivial⟩
theorem partCells_lt {v : SV} (h : ltT n v = true) (h0 : (partCells v).length ≠ 0) : ∀ c ∈ partCells v, ltB n c = true := by
  unfold partCells at *
  split at h0
  · exact fun c hc => List.all_eq_true.1 h c hc
  · intro c hc; simp at hc; obtain ⟨q, _, rfl⟩ := hc; rfl
  · intro c hc; simp at hc; obtain ⟨q, _, rfl⟩ := hc; rfl
  · simp at h0
  · simp at h0
  · rename_i h1 h2 h3 h4 h5
    have hone : v.one = true := by
      cases v with
      | v y => cases y <;> first | rfl | (rename_i q; cases q; exact absurd rfl (h3 _)) | (rename_i q; exact absurd rfl (h5 q))
      | agg cs => exact absurd rfl (h1 cs)
      | ai k ys => exact absurd rfl (h2 k ys)
      | tup cs => exact absurd rfl (h4 cs)
      | _ => rfl
    intro c hc
    simp at hc; subst hc
    exact ltB_of_ltT hone h
theorem All2.splice {α β : Type} {R : α → β → Prop} {l : List α} {m : List β} {zs : List α} {ys : List β} (h : All2 R l m) (hz : All2 R zs ys) (o : Nat) : All2 R (Sx.splice l o zs) (Sx.splice m o ys) := by
  unfold Sx.splice
  refine All2.append (All2.append (h.take o) hz) ?_
  rw [← hz.length]; exact h.drop _
theorem fill_ok (hH : HRel F w0 ρ n H w) (hT : TRel ρ n tm a) (place : Nat → Option (Nat × Nat × TypeId)) (place' : Nat → Option (Nat × Nat)) (hp : ∀ i q, place i = some q → place' i = some (q.1, q.2.1)) :
    ∀ (parts : List (Nat × Operand)) (mp : List (Nat × Nat × MA)) (ps : List (Nat × SV)) (sc : List SV) (rc : List Value), trParts P place parts = some mp → evq tm sc.length mp = some ps → All2 (crel ρ) sc rc → (∀ c ∈ sc, ltB n c = true) →
      ∃ rc' : List Value, Instr.fill place' rc.toArray (parts.map fun p => (p.1, a.eval p.2)) = some rc'.toArray ∧ All2 (crel ρ) (fillS sc ps) rc' ∧ (∀ c ∈ fillS sc ps, ltB n c = true)
  | [], mp, ps, sc, rc, hm, he, hz, hl => by
    simp only [trParts, Option.some.injEq] at hm; subst hm
    simp only [evq, Option.some.injEq] at he; subst he
    exact ⟨rc, rfl, hz, hl⟩
  | (i, x) :: l, mp, ps, sc, rc, hm, he, hz, hl => by
    simp only [trParts] at hm
    cases hpl : place i with
    | none => simp [hpl] at hm
    | some q =>
      obtain ⟨off, sz, t⟩ := q
      cases hr : trParts P place l with
      | none => simp [hpl, hr] at hm
      | some r =>
        simp only [hpl, hr, Option.some.injEq] at hm; subst hm
        simp only [evq] at he
        cases hv : ev tm (trA P t x) with
        | none => simp [hv] at he
        | some v =>
          cases hr2 : evq tm sc.length r with
          | none => simp [hv, hr2] at he
          | some r2 =>
            simp only [hv, hr2] at he
            split at he
            · rename_i hc
              obtain ⟨h1, h2, h3⟩ := hc
              simp only [Option.some.injEq] at he; subst he
              obtain ⟨hrel, hlt⟩ := ev_ok hH hT hv
              have hpc := partCells_ok hrel (by omega)
              have hsz : (a.eval x).cells.size = sz := by have := hpc.length; simp at this; omega
              have hscl : (Sx.splice sc off (partCells v)).length = sc.length := length_splice _ _ _ (by omega)
              obtain ⟨rc', e1, e2, e3⟩ := fill_ok hH hT place place' hp l r r2 (Sx.splice sc off (partCells v)) (Sx.splice rc off (a.eval x).cells.toList) hr (by rw [hscl]; exact hr2) (hz.splice hpc off) (fun c hc => by
                rcases mem_splice hc with hc | hc
                · exact hl c hc
                · exact partCells_lt hlt (by omega) c hc)
              refine ⟨rc', ?_, e2, e3⟩
              simp only [List.map_cons, Instr.fill, hp i _ hpl]
              have hlen := hz.length
              rw [if_neg (by simp [hsz]; omega), zipIdx_fold]
              rw [← e1]
              congr 1
              apply Array.ext'
              rw [stc_list _ _ _ (by simp; omega)]
            · cases he
theorem fillI_ok (hH : HRel F w0 ρ n H w) (hT : TRel ρ n tm a) (kk : IntKind) : ∀ (l : List (Nat × Operand)) (ps : List (Nat × SV)) (ys0 ys : List Int), evp tm (l.map fun p => (p.1, trA P 0 p.2)) = some ps → fillI kk ys0 ps = some ys →
    Instr.fill (fun i => some (i * 1, 1)) (ys0.map (Value.int kk)).toArray (l.map fun p => (p.1, a.eval p.2)) = some (ys.map (Value.int kk)).toArray
  | [], ps, ys0, ys, he, hf => by
    simp only [List.map_nil, evp, Option.some.injEq] at he; subst he
    simp only [fillI, Option.some.injEq] at hf; subst hf; rfl
  | (i, x) :: l, ps, ys0, ys, he, hf => by
    simp only [List.map_cons, evp] at he
    cases hv : ev tm (trA P 0 x) with
    | none => simp [hv] at he
    | some v =>
      cases hr : evp tm (l.map fun p => (p.1, trA P 0 p.2)) with
      | none => simp [hv, hr] at he
      | some r =>
        simp only [hv, hr, Option.some.injEq] at he; subst he
        unfold fillI at hf
        split at hf
        · rename_i e; cases e
        · rename_i o' k' z r' e
          cases e
          split at hf
          · rename_i hc
            obtain ⟨rfl, hlt⟩ := hc
            have hval := (ev_ok hH hT hv).1
            rw [rel_v] at hval
            have ih := fillI_ok hH hT _ l r (ys0.set i z) ys hr hf
            simp only [List.map_cons, Instr.fill, hval]
            rw [if_neg (by simp [Value.cells]; omega), ← ih]
            congr 1
            apply Array.ext'
            simp [Value.cells, List.map_set]
          · cases hf
        · cases hf
theorem all_zero {k : IntKind} {m : Nat} {zs : List Value} (h1 : zs.length = m) (h2 : zs.all (isZeroK k) = true) : zs = (List.replicate m (0 : Int)).map (Value.int k) := by
  subst h1
  induction zs with
  | nil => rfl
  | cons z l ih =>
    simp only [List.all_cons, Bool.and_eq_true] at h2
    have hz : z = .int k 0 := by
      have := h2.1
      cases z <;> simp [isZeroK] at this
      obtain ⟨rfl, rfl⟩ := this; rfl
    simp only [List.length_cons, List.replicate_succ, List.map_cons, hz]
    rw [← ih h2.2]
theorem s_build {t : TypeId} {parts : Array (Nat × Operand)} (ho : o.op = .build t parts) (hty : tyOK P t = true) (hm : trOp P o = some m) (hH : HRel F w0 ρ n H w) (hT : TRel ρ n tm a) (h : sop C tm H n m K) : OpWp P F w0 ρ n o a w K := by
  have hex : execOp a.eval o = (do pure (.value (← Instr.build t (parts.map fun (i, x) => (i, a.eval x))))) := by unfold execOp; rw [ho]
  have hpl : (parts.map fun (i, x) => (i, a.eval x)).toList = parts.toList.map fun p => (p.1, a.eval p.2) := by simp
  simp only [trOp, ho] at hm
  simp only [tyOK, Bool.and_eq_true] at hty
  obtain ⟨_, hty⟩ := hty
  split at hm
  · rename_i fs zs hu hz
    rw [hu] at hty
    obtain ⟨inf, zv, hi, hzv, hcz⟩ := zerosOf_info hz
    simp only [Option.map_eq_some_iff] at hm
    obtain ⟨mp, hmp, rfl⟩ := hm
    replace h := ob_elim h; obtain ⟨ps, hps, hK⟩ := h
    obtain ⟨rc', e1, e2, e3⟩ := fill_ok (P := P) hH hT _ (fun i => (fs.map fun f => (f.offset, szOf P f.type))[i]?) (fun i q hq => by
      cases hf : fs[i]? with
      | none => simp [hf] at hq
      | some f => simp [hf] at hq; subst hq; simp [hf]) parts.toList mp ps (svs (cellZ P 8 t) zs) zs hmp hps (all2_svs hH.nil.1) (ltB_svs hH.pos)
    refine OpWp.of_gets hex (Gets.same hH (x := .agg rc'.toArray) ?_ hK ⟨rc', rfl, e2⟩ (by simp only [ltT, ltC, List.all_eq_true]; exact e3))
    have hmm : (fs.mapM fun f => (do pure (f.offset, ← sizeOf f.type) : Sem (Nat × Nat))).run P w = .ok (fs.map fun f => (f.offset, szOf P f.type)) w := by
      refine run_mapM_arr _ _ fs fun f hf => ?_
      obtain ⟨_, ⟨inf', hi'⟩⟩ := known_info (List.all_eq_true.1 hty f hf)
      simp only [Sem.run_bind, run_sizeOf' hi', Result.andThen_ok, Sem.run_pure, szOf_eq hi']
    have hza : zv.cells = zs.toArray := by apply Array.ext'; simpa using hcz
    simp only [Instr.build, Sem.run_bind, run_zero hi hzv, Result.andThen_ok, run_underlying' hu, hmm, hpl, hza, e1, Sem.run_pure]
  · rename_i k e zs hu hz
    rw [hu] at hty
    obtain ⟨⟨d, hd⟩, ⟨infe, hie⟩⟩ := known_info hty
    obtain ⟨inf, zv, hi, hzv, hcz⟩ := zerosOf_info hz
    have hza : zv.cells = zs.toArray := by apply Array.ext'; simpa using hcz
    split at hm
    · rename_i kk hk
      split at hm
      · rename_i hc
        obtain ⟨hc1, hc2, hc3⟩ := hc
        cases hm
        replace h := ob_elim h; obtain ⟨ps, hps, h⟩ := h
        replace h := ob_elim h; obtain ⟨ys, hys, hK⟩ := h
        have hfill := fillI_ok (P := P) hH hT kk parts.toList ps _ ys hps hys
        rw [← all_zero hc1 hc2] at hfill
        rw [szOf_eq hie] at hc3
        refine OpWp.of_gets hex (Gets.same hH (x := .agg (ys.map (Value.int kk)).toArray) ?_ hK rfl rfl)
        simp only [Instr.build, Sem.run_bind, run_zero hi hzv, Result.andThen_ok, run_underlying' hu, run_sizeOf' hie, hpl, hza, hc3, hfill, Sem.run_pure]
      · cases hm
    · simp only [Option.map_eq_some_iff] at hm
      obtain ⟨mp, hmp, rfl⟩ := hm
      replace h := ob_elim h; obtain ⟨ps, hps, hK⟩ := h
      obtain ⟨rc', e1, e2, e3⟩ := fill_ok (P := P) hH hT _ (fun i => some (i * infe.size, infe.size)) (fun i q hq => by
        cases hq; simp [szOf_eq hie]) parts.toList mp ps (svs (cellZ P 8 t) zs) zs hmp hps (all2_svs hH.nil.1) (ltB_svs hH.pos)
      refine OpWp.of_gets hex (Gets.same hH (x := .agg rc'.toArray) ?_ hK ⟨rc', rfl, e2⟩ (by simp only [ltT, ltC, List.all_eq_true]; exact e3))
      simp only [Instr.build, Sem.run_bind, run_zero hi hzv, Result.andThen_ok, run_underlying' hu, run_sizeOf' hie, hpl, hza, e1, Sem.run_pure]
  · cases hm
end Go.Sx

/- One operation: rows that are built. -/
set_option linter.unusedVariables false
namespace Go.Sx
variable {P : Program} {F : Nat → Prop} {w0 w : World} {ρ : Nat → Loc} {n : Nat} {H : Hp} {tm : List (Nat × SV)} {a : Act} {C : Tab} {o : Oper} {m : MO} {K : SV → Hp → Nat → Prop}
def idx (z : Nat) : Nat → List SV → List (Nat × SV)
  | _, [] => []
  | k, v :: r => (k * z, v) :: idx z (k + 1) r
theorem evs_map' (hH : HRel F w0 ρ n H w) (hT : TRel ρ n tm a) {e : TypeId} {l : List (Nat × Operand)} {vs : List SV} (h : evs tm (l.map fun p => trA P e p.2) = some vs) : vs.length = l.length := by
  have := (evs_ok (P := P) hH hT (xs := l.map fun p => (p.2, e)) (vs := vs) (by simpa [Function.comp_def] using h)).1.length
  simpa using this
theorem evq_of_evs {e : TypeId} {z top : Nat} (hz : z ≠ 0) : ∀ (l : List (Nat × Operand)) (k : Nat) (vs : List SV), l.map (·.1) = List.range' k l.length → evs tm (l.map fun p => trA P e p.2) = some vs → (vs.all fun a => (partCells a).length == z) = true →
    (k + l.length) * z ≤ top → ∃ mp, trParts P (fun i => some (i * z, z, e)) l = some mp ∧ evq tm top mp = some (idx z k vs)
  | [], k, vs, _, he, _, _ => by
    simp only [List.map_nil, evs, Option.some.injEq] at he; subst he
    exact ⟨[], rfl, rfl⟩
  | (i, x) :: l, k, vs, hi, he, hall, htop => by
    simp only [List.map_cons, List.length_cons, List.range'_succ, List.cons.injEq] at hi
    obtain ⟨rfl, hi⟩ := hi
    simp only [List.map_cons, evs] at he
    cases hv : ev tm (trA P e x) with
    | none => simp [hv] at he
    | some v =>
      cases hr : evs tm (l.map fun p => trA P e p.2) with
      | none => simp [hv, hr] at he
      | some r =>
        simp only [hv, hr, Option.some.injEq] at he; subst he
        simp only [List.all_cons, Bool.and_eq_true, beq_iff_eq] at hall
        simp only [List.length_cons] at htop
        obtain ⟨mp, h1, h2⟩ := evq_of_evs hz l (i + 1) r hi hr hall.2 (by rw [Nat.add_right_comm]; exact htop)
        refine ⟨_, by simp only [trParts, h1]; rfl, ?_⟩
        simp only [evq, hv, h2]
        have hle : i * z + z ≤ top := by
          have h3 : (i + 1) * z ≤ (i + (l.length + 1)) * z := Nat.mul_le_mul_right z (by omega)
          have h4 : (i + 1) * z = i * z + z := by rw [Nat.add_mul, Nat.one_mul]
          omega
        rw [if_pos ⟨hall.1, hz, hle⟩]
        rfl
theorem fillS_idx {z : Nat} : ∀ (vs : List SV) (k : Nat) (sc : List SV), sc.length = (k + vs.length) * z → (vs.all fun a => (partCells a).length == z) = true → fillS sc (idx z k vs) = sc.take (k * z) ++ vs.flatMap partCells
  | [], k, sc, hl, _ => by
    simp only [idx, fillS, List.flatMap_nil, List.append_nil]
    rw [List.take_of_length_le (by rw [hl]; simp)]
  | v :: r, k, sc, hl, hall => by
    simp only [List.all_cons, Bool.and_eq_true, beq_iff_eq] at hall
    simp only [List.length_cons] at hl
    have hkz : k * z + z ≤ sc.length := by rw [hl, Nat.add_mul, Nat.add_mul]; omega
    simp only [idx, fillS]
    rw [fillS_idx r (k + 1) _ (by rw [length_splice _ _ _ (by omega), hl]; congr 1; omega) hall.2]
    simp only [List.flatMap_cons, ← List.append_assoc]
    congr 1
    unfold splice
    have h1 : (k + 1) * z = (sc.take (k * z) ++ partCells v).length := by
      rw [List.length_append, List.length_take, hall.1, Nat.min_eq_left (by omega), Nat.add_mul]; omega
    rw [h1, List.take_left']
    rfl
theorem run_buildSlice (hH : HRel F w0 ρ n H w) (hT : TRel ρ n tm a) {t e : TypeId} {parts : Array (Nat × Operand)} {k : Nat} (hu : P.underlying t = some (.slice e)) (hty : known P e = true) (hr : parts.toList.map (·.1) = List.range k) (hk : k * szOf P e ≤ 16777216)
    (hz1 : (zs1 P e).isSome = true) {vs : List SV} (hvs : evs tm (parts.toList.map fun p => trA P e p.2) = some vs) (hall : (vs.all fun a => (partCells a).length == szOf P e) = true) :
    ∃ rc : List Value, (Instr.buildSlice t k (parts.map fun (i, x) => (i, a.eval x))).run P w = .ok (.slice (some ⟨w.heap.size, 0, none⟩) k k) (w.alloc (.cells rc.toArray e)) ∧ All2 (crel ρ) (vs.flatMap partCells) rc ∧ (∀ c ∈ vs.flatMap partCells, ltB n c = true) ∧ rc.length = k * szOf P e ∧ vs.length = k := by
  obtain ⟨⟨d, hd⟩, ⟨inf, hi⟩⟩ := known_info hty
  simp only [Option.isSome_iff_exists] at hz1
  obtain ⟨zs, hz1⟩ := hz1
  simp only [zs1, Option.bind_eq_some_iff] at hz1
  obtain ⟨zs', hz, hz2⟩ := hz1
  split at hz2
  case isFalse => cases hz2
  rename_i hzc
  obtain ⟨hzl, hz0⟩ := hzc
  cases hz2
  obtain ⟨inf', zv, hi', hzv, hcz⟩ := zerosOf_info hz
  rw [hi] at hi'; cases hi'
  have hpl : (parts.map fun (i, x) => (i, a.eval x)).toList = parts.toList.map fun p => (p.1, a.eval p.2) := by simp
  have hlen : parts.toList.length = k := by have := congrArg List.length hr; simpa using this
  have hvl : vs.length = k := by
    have := (evs_map' (P := P) hH hT hvs)
    omega
  obtain ⟨mp, h1, h2⟩ := evq_of_evs (P := P) (top := k * szOf P e) hz0 parts.toList 0 vs (by rw [hr, hlen, List.range_eq_range']) hvs hall (by rw [hlen]; simp)
  let rc0 : List Value := ((Array.range (k * szOf P e)).map (zv.cells[· % zv.cells.size]!)).toList
  have hrc0 : rc0.length = k * szOf P e := by simp [rc0]
  obtain ⟨rc', e1, e2, e3⟩ := fill_ok (P := P) hH hT _ (fun i => some (i * szOf P e, szOf P e)) (fun i q hq => by cases hq; rfl) parts.toList mp _ (rc0.map (svOf 1)) rc0 h1 (by rw [List.length_map, hrc0]; exact h2) (all2_svOf hH.nil.1 (fun _ => 1) rc0) (fun c hc => by simp at hc; obtain ⟨q, _, rfl⟩ := hc; exact ltB_svOf hH.pos _ _)
  rw [fillS_idx vs 0 _ (by rw [List.length_map, hrc0, Nat.zero_add, hvl]) hall] at e2 e3
  simp only [Nat.zero_mul, List.take_zero, List.nil_append] at e2 e3
  refine ⟨rc', ?_, e2, e3, ?_, hvl⟩
  · have hr0 : rc0.toArray = (Array.range (k * szOf P e)).map (zv.cells[· % zv.cells.size]!) := by apply Array.ext'; simp [rc0]
    rw [hr0] at e1
    rw [szOf_eq hi] at *
    simp only [Instr.buildSlice, Sem.run_bind, run_underlying' hu, run_sizeOf' hi, Result.andThen_ok]
    rw [if_neg (by omega)]
    by_cases hk0 : k * inf.size = 0
    · rw [if_pos hk0]
      rw [hk0] at e1 ⊢
      simp only [Sem.run_bind, Sem.run_pure, Result.andThen_ok, hpl]
      have : (Array.range 0).map (zv.cells[· % zv.cells.size]!) = (Array.range 0).map ((#[] : Array Value)[· % (#[] : Array Value).size]!) := by simp
      rw [← this, e1]
      rfl
    · rw [if_neg hk0]
      simp only [Sem.run_bind, run_zero hi hzv, Sem.run_pure, Result.andThen_ok, hpl, e1, newRow, run_newObj, World.alloc_eq]
  · rw [← e2.length]
    have : ∀ (l : List SV), (l.all fun a => (partCells a).length == szOf P e) = true → (l.flatMap partCells).length = l.length * szOf P e := by
      intro l
      induction l with
      | nil => intro _; simp
      | cons x r ih =>
        intro h
        simp only [List.all_cons, Bool.and_eq_true, beq_iff_eq] at h
        simp only [List.flatMap_cons, List.length_append, h.1, ih h.2, List.length_cons, Nat.add_mul]; omega
    rw [this vs hall, hvl]
theorem intsOf_ok {k : IntKind} : ∀ {l : List SV} {ys : List Int}, intsOf k l = some ys → l = ys.map (fun n => .v (.int k n))
  | [], ys, h => by simp only [intsOf, Option.some.injEq] at h; subst h; rfl
  | x :: l, ys, h => by
    unfold intsOf at h
    split at h
    · rename_i e; cases e
    · rename_i k' z l' e
      cases e
      split at h
      · rename_i hk; subst hk
        simp only [Option.map_eq_some_iff] at h
        obtain ⟨r, hr, rfl⟩ := h
        rw [intsOf_ok hr]; rfl
      · cases h
    · cases h
theorem strsOf_ok : ∀ {l : List SV} {ys : List ByteArray}, strsOf l = some ys → l = ys.map (fun n => .v (.string n))
  | [], ys, h => by simp only [strsOf, Option.some.injEq] at h; subst h; rfl
  | x :: l, ys, h => by
    unfold strsOf at h
    split at h
    · rename_i e; cases e
    · rename_i z l' e
      cases e
      simp only [Option.map_eq_some_iff] at h
      obtain ⟨r, hr, rfl⟩ := h
      rw [strsOf_ok hr]; rfl
    · cases h
theorem flat_one {k : IntKind} (ys : List Int) : (ys.map (fun n => SV.v (.int k n))).flatMap partCells = ys.map (fun n => SV.v (.int k n)) := by
  induction ys with
  | nil => rfl
  | cons y l ih => simp only [List.map_cons, List.flatMap_cons, ih]; rfl
theorem flat_one' (ys : List ByteArray) : (ys.map (fun n => SV.v (.string n))).flatMap partCells = ys.map (fun n => SV.v (.string n)) := by
  induction ys with
  | nil => rfl
  | cons y l ih => simp only [List.map_cons, List.flatMap_cons, ih]; rfl
theorem bodyOf_ok {e : Body} {l : List SV} {b : Body} (h : bodyOf e l = some b) : b.cells = l ∧ ∀ es, b ≠ .mp es := by
  unfold bodyOf at h
  cases e <;> simp only [Option.map_eq_some_iff] at h
  · obtain ⟨ys, hy, rfl⟩ := h; exact ⟨(intsOf_ok hy).symm, by simp⟩
  · obtain ⟨ys, hy, rfl⟩ := h; exact ⟨(strsOf_ok hy).symm, by simp⟩
  · obtain ⟨ys, hy, rfl⟩ := h; exact ⟨(plsOf_ok hy).symm, by simp⟩
  · cases h; exact ⟨rfl, by simp⟩
  · cases h
theorem s_buildSlice {t : TypeId} {k : Nat} {parts : Array (Nat × Operand)} (ho : o.op = .buildSlice t k parts) (hty : tyOK P t = true) (hm : trOp P o = some m) (hH : HRel F w0 ρ n H w) (hT : TRel ρ n tm a) (h : sop C tm H n m K) : OpWp P F w0 ρ n o a w K := by
  have hex : execOp a.eval o = (do pure (.value (← Instr.buildSlice t k (parts.map fun (i, x) => (i, a.eval x))))) := by unfold execOp; rw [ho]
  simp only [trOp, ho] at hm
  simp only [tyOK, Bool.and_eq_true] at hty
  obtain ⟨_, hty⟩ := hty
  split at hm
  case h_2 => cases hm
  rename_i e hu
  rw [hu] at hty
  split at hm
  case isFalse => cases hm
  rename_i hc
  obtain ⟨hr, hk, hz1⟩ := hc
  have hz0 : szOf P e ≠ 0 := by
    simp only [Option.isSome_iff_exists] at hz1
    obtain ⟨zs, hz1⟩ := hz1
    simp only [zs1, Option.bind_eq_some_iff] at hz1
    obtain ⟨zs', hz, hz2⟩ := hz1
    split at hz2
    · rename_i hh; exact hh.2
    · cases hz2
  have key : ∀ (vs : List SV) (b : Body), evs tm (parts.toList.map fun p => trA P e p.2) = some vs → (vs.all fun a => (partCells a).length == szOf P e) = true → b.cells = vs.flatMap partCells → (∀ es, b ≠ .mp es) →
      n < 1000 → K (.sl n 0 vs.length (szOf P e)) (H.put n ⟨true, b⟩) (n + 1) → OpWp P F w0 ρ n o a w K := by
    intro vs b hvs hall hb hbm hn hK
    obtain ⟨rc, e1, e2, e3, e4, e5⟩ := run_buildSlice (P := P) hH hT hu hty hr hk hz1 hvs hall
    have hlt : b.lt n = true := by
      cases b with
      | sv cs => simp only [Body.cells] at hb; subst hb; simp only [Body.lt, List.all_eq_true]; exact e3
      | mp es => exact absurd rfl (hbm es)
      | _ => rfl
    have hnew := hH.newVals hn e rc b hbm hlt (by rw [hb]; exact e2)
    refine OpWp.of_gets hex ⟨_, _, _, _, _, _, e1, hK, hnew, Ext.upd hn, Nat.le_succ _, ?_, lt_new_sl⟩
    show slrel _ _ _ _ _
    rw [upd_same]
    simp only [slrel]
    exact ⟨k, 0, by omega, ⟨by show 0 + _ ≤ rc.length; omega, fun _ => by show 0 + _ = rc.length; omega⟩, fun _ => rfl, by rw [e5]⟩
  split at hm
  · split at hm
    · rename_i kk _ h1
      cases hm
      replace h := ob_elim h; obtain ⟨vs, hvs, h⟩ := h
      replace h := ob_elim h; obtain ⟨ys, hys, hn, hK⟩ := h
      have hv := intsOf_ok hys
      refine key vs (.ints kk ys) hvs ?_ ?_ (by simp) hn (by rw [h1]; have : vs.length = ys.length := by rw [hv]; simp
                                                             rw [this]; exact hK)
      · rw [hv, h1]; simp [partCells]
      · rw [hv]; exact (flat_one _).symm
    · cases hm
  · split at hm
    · rename_i _ h1
      cases hm
      replace h := ob_elim h; obtain ⟨vs, hvs, h⟩ := h
      replace h := ob_elim h; obtain ⟨ys, hys, hn, hK⟩ := h
      have hv := strsOf_ok hys
      refine key vs (.strs ys) hvs ?_ ?_ (by simp) hn (by rw [h1]; have : vs.length = ys.length := by rw [hv]; simp
                                                          rw [this]; exact hK)
      · rw [hv, h1]; simp [partCells]
      · rw [hv]; exact (flat_one' _).symm
    · cases hm
  · rw [Option.map_eq_some_iff] at hm
    obtain ⟨b0, _, rfl⟩ := hm
    replace h := ob_elim h; obtain ⟨vs, hvs, hall, _, h⟩ := h
    replace h := ob_elim h; obtain ⟨b, hb, hn, hK⟩ := h
    exact key vs b hvs hall (bodyOf_ok hb).1 (bodyOf_ok hb).2 hn hK
end Go.Sx

/- One operation: make, len, min, max, append, copy. -/
set_option linter.unusedVariables false
set_option linter.unusedSimpArgs false
namespace Go.Sx
variable {P : Program} {F : Nat → Prop} {w0 w : World} {ρ : Nat → Loc} {n : Nat} {H : Hp} {tm : List (Nat × SV)} {a : Act} {C : Tab} {o : Oper} {m : MO} {K : SV → Hp → Nat → Prop}
theorem zs1_info {e : TypeId} {zs : List Value} (h : zs1 P e = some zs) : ∃ inf zv, P.info? e = some inf ∧ inf.zero = some zv ∧ zv.cells.toList = zs ∧ zs.length = inf.size ∧ inf.size ≠ 0 := by
  simp only [zs1, Option.bind_eq_some_iff] at h
  obtain ⟨zs', hz, h2⟩ := h
  split at h2
  case isFalse => cases h2
  rename_i hc
  cases h2
  obtain ⟨inf, zv, hi, hzv, hcz⟩ := zerosOf_info hz
  rw [szOf_eq hi] at hc
  exact ⟨inf, zv, hi, hzv, hcz, hc.1, hc.2⟩
theorem reps_cells (b : Body) (q : Nat) (hm : ∀ es, b ≠ .mp es) : (b.reps q).cells = reps q b.cells := by
  have one : ∀ {α β : Type} (f : α → β) (x : α) (q : Nat), (List.replicate q x).map f = reps q [f x] := by
    intro α β f x q
    induction q with
    | zero => rfl
    | succ q ih => simp only [List.replicate_succ, List.map_cons, ih, Sx.reps, List.flatten_cons]; rfl
  have many : ∀ {α β : Type} (f : α → β) (l : List α) (q : Nat), (reps q l).map f = reps q (l.map f) := by
    intro α β f l q
    simp [Sx.reps, List.map_flatten]
  unfold Body.reps
  split <;> simp only [Body.cells]
  · exact one _ _ _
  · exact many _ _ _
  · exact one _ _ _
  · exact many _ _ _
  · exact one _ _ _
  · exact many _ _ _
  · have := one (id : SV → SV) ‹SV› q; simpa using this
  · exact absurd rfl (hm _)
theorem reps_mp (b : Body) (q : Nat) (hm : ∀ es, b ≠ .mp es) : ∀ es, b.reps q ≠ .mp es := by
  intro es
  unfold Body.reps
  split <;> first | exact absurd rfl (hm _) | simp
theorem mem_reps {α : Type} {x : α} {q : Nat} {l : List α} (h : x ∈ reps q l) : x ∈ l := by
  simp only [Sx.reps, List.mem_flatten, List.mem_replicate] at h
  obtain ⟨l', ⟨_, rfl⟩, hx⟩ := h
  exact hx
theorem reps_lt {b : Body} {q : Nat} (h : b.lt n = true) : (b.reps q).lt n = true := by
  unfold Body.reps
  split <;> first
    | rfl
    | exact h
    | (simp only [Body.lt, List.all_eq_true] at *; intro x hx; first | exact h x (mem_reps hx) | (rw [List.mem_replicate] at hx; exact h x (by simp [hx.2])))
theorem All2.reps {α β : Type} {R : α → β → Prop} {l : List α} {k : List β} (h : All2 R l k) : ∀ q, All2 R (Sx.reps q l) (Sx.reps q k)
  | 0 => trivial
  | q + 1 => by
    simp only [Sx.reps, List.replicate_succ, List.flatten_cons]
    exact All2.append h (All2.reps h q)
theorem length_reps {α : Type} (q : Nat) (l : List α) : (reps q l).length = q * l.length := by
  induction q with
  | zero => simp [Sx.reps]
  | succ q ih =>
    simp only [Sx.reps, List.replicate_succ, List.flatten_cons, List.length_append] at *
    rw [ih, Nat.add_mul]; omega
theorem reps_get {α : Type} (q : Nat) (l : List α) (j : Nat) (h : j < q * l.length) : (reps q l)[j]? = l[j % l.length]? := by
  induction q generalizing j with
  | zero => simp at h
  | succ q ih =>
    have hl : 0 < l.length := by
      rcases Nat.eq_zero_or_pos l.length with h0 | h0
      · rw [h0] at h; simp at h
      · exact h0
    simp only [Sx.reps, List.replicate_succ, List.flatten_cons]
    by_cases hj : j < l.length
    · rw [List.getElem?_append_left hj, Nat.mod_eq_of_lt hj]
    · rw [List.getElem?_append_right (by omega)]
      have h5 : (q + 1) * l.length = q * l.length + l.length := by rw [Nat.add_mul, Nat.one_mul]
      have := ih (j - l.length) (by omega)
      simp only [Sx.reps] at this
      rw [this]; congr 1; exact (Nat.mod_eq_sub_mod (by omega)).symm
theorem made_eq (z : Array Value) (q : Nat) : (Array.range (q * z.size)).map (z[· % z.size]!) = (reps q z.toList).toArray := by
  apply Array.ext'
  apply List.ext_getElem?
  intro j
  simp only [Array.toList_map, Array.toList_range, List.getElem?_map]
  by_cases hj : j < q * z.size
  · rw [List.getElem?_range hj, reps_get q _ j (by simpa using hj)]
    have hz : 0 < z.size := by
      rcases Nat.eq_zero_or_pos z.size with h0 | h0
      · rw [h0] at hj; simp at hj
      · exact h0
    have hlt := Nat.mod_lt j hz
    simp [hlt]
  · rw [List.getElem?_eq_none (by simpa using hj), List.getElem?_eq_none (by rw [length_reps]; simpa using hj)]; rfl
theorem zeroCells_eq (z : Array Value) (q : Nat) : Builtin.zeroCells z q = (reps q z.toList).toArray := made_eq z q
theorem wrap64_id {x : Int} (h0 : 0 ≤ x) (h1 : x ≤ 9223372036854775807) : IntKind.i64.wrap x = x := by
  have e1 : IntKind.i64.bits = 64 := rfl
  unfold IntKind.wrap
  simp only [e1, IntKind.signed, Bool.true_and]
  have : x % (2 ^ 64 : Int) = x := Int.emod_eq_of_lt h0 (by omega)
  rw [this, if_neg]
  simp; omega
theorem s_makeSlice {t : TypeId} {x y : Operand} (ho : o.op = .makeSlice t x y) (hm : trOp P o = some m) (hH : HRel F w0 ρ n H w) (hT : TRel ρ n tm a) (h : sop C tm H n m K) : OpWp P F w0 ρ n o a w K := by
  have hex : execOp a.eval o = (do pure (.value (← Instr.makeSlice t (a.eval x) (a.eval y)))) := by unfold execOp; rw [ho]
  simp only [trOp, ho] at hm
  split at hm
  case h_2 => cases hm
  rename_i e hu
  simp only [Option.bind_eq_some_iff, Option.map_eq_some_iff] at hm
  obtain ⟨zs, hzs, b, hb, rfl⟩ := hm
  obtain ⟨inf, zv, hi, hzv, hcz, hzl, hz0⟩ := zs1_info hzs
  obtain ⟨h1, h2, h3⟩ := rowBody_ok (P := P) (ρ := ρ) (n := n) hH.nil.1 hH.pos hb
  replace h := ob_elim h; obtain ⟨vl, hvl, h⟩ := h
  replace h := ob_elim h; obtain ⟨vc, hvc, h⟩ := h
  replace h := asI_elim h; obtain ⟨kl, l, rfl, h⟩ := h
  replace h := asI_elim h; obtain ⟨kc, c, rfl, h⟩ := h
  obtain ⟨⟨b0, b1, b2, b3⟩, hn, hK⟩ := h
  have hrl := (ev_ok hH hT hvl).1
  have hrc := (ev_ok hH hT hvc).1
  rw [rel_v] at hrl hrc
  rw [byOf_eq hi] at b3
  have hsz : zv.cells.size = inf.size := by rw [← hzl, ← hcz]; simp
  have hnew := hH.newVals hn e (reps c.toNat zs) (b.reps c.toNat) (reps_mp b _ h2) (reps_lt h3) (by rw [reps_cells b _ h2]; exact h1.reps _)
  have hwl := wrap64_id b0 (by omega : l ≤ 9223372036854775807)
  have hwc := wrap64_id (by omega : 0 ≤ c) (by omega : c ≤ 9223372036854775807)
  refine OpWp.of_gets hex ⟨.slice (some ⟨w.heap.size, 0, none⟩) l.toNat c.toNat, _, _, _, _, _, ?_, hK, hnew, Ext.upd hn, Nat.le_succ _, ?_, lt_new_sl⟩
  · have hti : ∀ w : World, (typeInfo e).run P w = .ok inf w := fun w => by simp [typeInfo, hi]
    have hbig : ((c < 0 || decide ((inf.bytes : Int) * c > 2 ^ 48)) || decide (l < 0) || decide (l > c)) = false := by
      have : ¬ ((inf.bytes : Int) * c > 2 ^ 48) := by omega
      simp [this]; omega
    simp only [Instr.makeSlice, Sem.run_bind, run_underlying' hu, Result.andThen_ok, hrl, hrc, asInt, run_asInt, Sem.run_pure, hti, hwl, hwc]
    rw [if_neg (by
      have h9 : ¬ ((inf.bytes : Int) * c > 2 ^ 48) := by omega
      simp [h9]; omega)]
    simp only [run_askRoom, Sem.run_bind, Result.andThen_ok, run_sizeOf' hi, Sem.run_pure]
    by_cases hc0 : c.toNat * inf.size = 0
    · rw [if_pos hc0]
      simp only [Sem.run_bind, Sem.run_pure, Result.andThen_ok, newRow, run_newObj, World.alloc_eq]
      have : c.toNat = 0 := by
        rcases Nat.mul_eq_zero.1 hc0 with h | h
        · exact h
        · exact absurd h hz0
      have h00 : Array.range 0 = #[] := by apply Array.ext'; simp
      rw [this, Nat.zero_mul, h00]; simp [Sx.reps]
    · rw [if_neg hc0]
      simp only [Sem.run_bind, run_zero hi hzv, Sem.run_pure, Result.andThen_ok, newRow, run_newObj, World.alloc_eq]
      rw [← hsz, made_eq, hcz]
  · show slrel _ _ _ _ _
    rw [upd_same]
    simp only [slrel]
    refine ⟨c.toNat, 0, by omega, ⟨?_, fun _ => ?_⟩, fun _ => rfl, rfl⟩
    · simp only [length_reps, hzl, szOf_eq hi]; omega
    · simp only [length_reps, hzl, szOf_eq hi]; omega
theorem lenOf_slice {a' : Option Addr} {k cc : Nat} : (Builtin.lenOf (.slice a' k cc)).run P w = .ok k w := rfl
theorem slrel_form {l : Loc} {q k z : Nat} {y : Value} (h : slrel l q k z y) : ∃ ad cc, y = .slice ad k cc := by
  unfold slrel at h
  split at h
  · obtain ⟨a, e⟩ := h.2.form
    exact ⟨a, 0, by rw [e, h.1]⟩
  · obtain ⟨c, a, _, _, _, rfl⟩ := h
    exact ⟨_, c, rfl⟩
theorem str_news (s : ByteArray) : ((s.extract 0 s.size).data.map fun b => Value.int .u8 b.toNat) = ((bts s).map (Value.int .u8)).toArray := by
  apply Array.ext'
  simp [bts, ByteArray.extract_zero_size, Function.comp_def]
theorem bts_length (s : ByteArray) : (bts s).length = s.size := by simp [bts]
theorem all2_int_mk (k : IntKind) (ys : List Int) : All2 (crel ρ) (Body.ints k ys).cells (ys.map (Value.int k)) := by
  have := all2_v_mk (ρ := ρ) (ys.map (Value.int k))
  simpa [Body.cells, Function.comp_def] using this
theorem ones_ok {b : Body} {ys : List Value} (h : b.ones) (hz : All2 (crel ρ) b.cells ys) : ∀ y ∈ ys, y.oneCell' = true := by
  intro y hy
  obtain ⟨j, hj⟩ := List.getElem?_of_mem hy
  have hlt : j < b.cells.length := by rw [hz.length]; exact (List.getElem?_eq_some_iff.1 hj).1
  obtain ⟨y', e, hr⟩ := hz.get (List.getElem?_eq_getElem hlt)
  rw [hj] at e; cases e
  refine (crel_of_rel ?_ (rel_of_crel hr)).2
  have hm := List.getElem_mem hlt
  generalize b.cells[j] = c at hm
  cases b <;> simp only [Body.ones, Body.cells, List.mem_map, List.all_eq_true] at *
  · obtain ⟨q, _, rfl⟩ := hm; rfl
  · obtain ⟨q, _, rfl⟩ := hm; rfl
  · obtain ⟨q, hq, rfl⟩ := hm
    have := h q hq
    cases q <;> first | rfl | (simp [Value.oneCell'] at this)
  · exact h c hm
theorem builtin_hex {c : Call} {b : Builtin} (ho : o.op = .call c) (hcal : c.callee = .builtin b) (s : Sem Value) (h : builtin b c.argTypes o.type (c.args.map fun | .const _ => true | _ => false) (c.args.map a.eval) = (do pure (.value (← s)))) :
    execOp a.eval o = (do pure (.value (← s))) := by
  unfold execOp; rw [ho]; simp only [resolve, hcal, pure_bind, invoke]; exact h
theorem s_append {c : Call} (ho : o.op = .call c) (hcal : c.callee = .builtin .append) (hm : trOp P o = some m) (hH : HRel F w0 ρ n H w) (hT : TRel ρ n tm a) (h : sop C tm H n m K) : OpWp P F w0 ρ n o a w K := by
  simp only [trOp, ho, hcal] at hm
  split at hm
  case h_2 => cases hm
  rename_i x y t u hargs hats
  have hargs : c.args = #[x, y] := by apply Array.ext'; simpa using hargs
  have hats : c.argTypes = #[t, u] := by apply Array.ext'; simpa using hats
  have hex := builtin_hex (a := a) ho hcal (Builtin.append_ #[t, u] o.type #[a.eval x, a.eval y]) (by rw [hargs, hats]; simp [builtin])
  split at hm
  case h_2 => cases hm
  rename_i e hu
  simp only [Option.bind_eq_some_iff] at hm
  obtain ⟨zs, hzs, b0, hb0, hm⟩ := hm
  obtain ⟨inf, zv, hi, hzv, hcz, hzl, hz0⟩ := zs1_info hzs
  have hsz : zv.cells.size = inf.size := by rw [← hzl, ← hcz]; simp
  obtain ⟨hb1, hb2, hb3⟩ := rowBody_ok (P := P) (ρ := ρ) (n := n) hH.nil.1 hH.pos hb0
  have hb0c : b0.cells = [] := by have := hb1.length; simpa using this
  -- what holds of the slice that is appended to
  have src : ∀ {i o' m' z1 : Nat} {b1 : Body → Prop}, ev tm (trA P t x) = some (.sl i o' m' z1) → (i ≠ 0 → z1 = inf.size) → slrel (ρ i) o' m' inf.size (a.eval x) := by
    intro i o' m' z1 _ hv hz
    have hr : slrel (ρ i) o' m' z1 (a.eval x) := (ev_ok hH hT hv).1
    by_cases hi0 : i = 0
    · subst hi0
      simp only [slrel, hH.nil.1] at hr ⊢; exact hr
    · rw [← hz hi0]; exact hr
  split at hm
  · -- a text
    rename_i hut
    split at hm
    case isFalse => cases hm
    rename_i hc8
    obtain ⟨hc8, hs1, hy1⟩ := hc8
    rw [szOf_eq hi] at hs1
    rw [byOf_eq hi] at hy1
    simp only [Option.some.injEq] at hm
    split at hm
    · subst hm
      replace h := ob_elim h; obtain ⟨va, hva, h⟩ := h
      replace h := ob_elim h; obtain ⟨vb, hvb, h⟩ := h
      replace h := asSl_elim h; obtain ⟨i, o', m', z1, rfl, h⟩ := h
      replace h := asS_elim h; obtain ⟨s, rfl, h⟩ := h
      obtain ⟨hz1, hwr, hmq, hshp, h⟩ := h
      have hsl := src (b1 := fun _ => True) hva (fun hi0 => by rw [hz1 hi0, hs1])
      have hm0 : (ρ i).blk = none → m' = 0 := fun hb => by simp only [slrel, hb] at hsl; exact hsl.1
      replace h := rowOf_elim hH hb0c hb2 hb3 hm0 h
      obtain ⟨b1, h, hl1, hp, hgot⟩ := h
      replace h := cat_elim (Body.cat_isS h)
      obtain ⟨bd, ⟨hbS, hn1, hK⟩, hbd, _, _, hbm, hblt⟩ := h
      have hn : n < 1000 := by omega
      have hrs := (ev_ok hH hT hvb).1
      rw [rel_v] at hrs
      obtain ⟨y', w', ρ', e1, e2, e3, e4, e5⟩ := append_ok (P := P) hH hn hu hi hzv hsz hut rfl (ty := o.type) (x := a.eval y) (q := s.size) hsl b1 (by rw [hs1, Nat.mul_one]; exact hp) hl1 (by rw [hs1, Nat.mul_one]; exact hgot) hwr (by rw [hrs]; rfl)
        (.ints .u8 (bts s)) ((bts s).map (Value.int .u8)) (by rw [hs1, List.length_map, bts_length, Nat.mul_one]) (all2_int_mk _ _) (by intro v hv; simp at hv; obtain ⟨q, _, rfl⟩ := hv; rfl)
        (fun w' hw' => by rw [hrs]; simp only [Builtin.firstCells, str_news, Sem.run_pure]) bd hbm hbd (hblt n hl1 rfl) hbS (by rw [hy1]; omega) hmq
      have hsh : ShAt (ρ' n) e none := e5 fun hb => by
        have hi0 : i ≠ 0 := fun e0 => hb (by rw [e0]; exact hH.nil.1)
        obtain ⟨h1, j, so, h2, h3⟩ := hshp hi0
        have := hH.obj j so h2
        unfold ObjOK at this
        rw [h3] at this
        exact ⟨h1, this.2⟩
      have hg := e2.newGhost hn1 n e none (by unfold idOK; simp) hsh
      refine OpWp.of_gets hex ⟨y', w', _, _, _, _, e1, hK, hg, e3.trans (Ext.upd hn1) (Nat.le_succ _), Nat.le_add_right _ _, ?_, ?_⟩
      · show slrel _ _ _ _ _
        have e9 : upd ρ' (n + 1) ⟨none, 0, 0, false, none⟩ n = ρ' n := by simp [upd]
        rw [hs1] at e4
        rw [e9]; exact e4
      · show idOK (n + 2) n = true
        unfold idOK; simp
    subst hm
    replace h := ob_elim h; obtain ⟨va, hva, h⟩ := h
    replace h := ob_elim h; obtain ⟨vb, hvb, h⟩ := h
    replace h := asSl_elim h; obtain ⟨i, o', m', z1, rfl, h⟩ := h
    replace h := asS_elim h; obtain ⟨s, rfl, h⟩ := h
    obtain ⟨hz1, hwr, hmq, h⟩ := h
    have hsl := src (b1 := fun _ => True) hva (fun hi0 => by rw [hz1 hi0, hs1])
    have hm0 : (ρ i).blk = none → m' = 0 := fun hb => by simp only [slrel, hb] at hsl; exact hsl.1
    replace h := rowOf_elim hH hb0c hb2 hb3 hm0 h
    obtain ⟨b1, h, hl1, hp, hgot⟩ := h
    replace h := cat_elim (Body.cat_isS h)
    obtain ⟨bd, ⟨hbS, hn, hK⟩, hbd, _, _, hbm, hblt⟩ := h
    have hrs := (ev_ok hH hT hvb).1
    rw [rel_v] at hrs
    obtain ⟨y', w', ρ', e1, e2, e3, e4, e5⟩ := append_ok (P := P) hH hn hu hi hzv hsz hut rfl (ty := o.type) (x := a.eval y) (q := s.size) hsl b1 (by rw [hs1, Nat.mul_one]; exact hp) hl1 (by rw [hs1, Nat.mul_one]; exact hgot) hwr (by rw [hrs]; rfl)
      (.ints .u8 (bts s)) ((bts s).map (Value.int .u8)) (by rw [hs1, List.length_map, bts_length, Nat.mul_one]) (all2_int_mk _ _) (by intro v hv; simp at hv; obtain ⟨q, _, rfl⟩ := hv; rfl)
      (fun w' hw' => by rw [hrs]; simp only [Builtin.firstCells, str_news, Sem.run_pure]) bd hbm hbd (hblt n hl1 rfl) hbS (by rw [hy1]; omega) hmq
    refine OpWp.of_gets hex ⟨y', w', _, _, _, ρ', e1, hK, e2, e3, Nat.le_succ _, ?_, lt_new_sl⟩
    show slrel _ _ _ _ _
    rw [← hs1]; exact e4
  · -- zeros
    rename_i k hut
    simp only [Option.map_eq_some_iff] at hm
    obtain ⟨bz, hbz, rfl⟩ := hm
    obtain ⟨hz1', hz2', hz3'⟩ := rowBody_ok (P := P) (ρ := ρ) (n := n) hH.nil.1 hH.pos hbz
    replace h := ob_elim h; obtain ⟨va, hva, h⟩ := h
    replace h := ob_elim h; obtain ⟨vb, hvb, h⟩ := h
    replace h := asSl_elim h; obtain ⟨i, o', m', z1, rfl, h⟩ := h
    replace h := asI_elim h; obtain ⟨kq, q, rfl, h⟩ := h
    obtain ⟨hz1, hwr, hq0, hby, hmq, hones, h⟩ := h
    rw [szOf_eq hi] at *
    rw [byOf_eq hi] at hby
    have hsl := src (b1 := fun _ => True) hva hz1
    have hm0 : (ρ i).blk = none → m' * inf.size = 0 := fun hb => by simp only [slrel, hb] at hsl; rw [hsl.1]; simp
    replace h := rowOf_elim hH hb0c hb2 hb3 hm0 h
    obtain ⟨b1, h, hl1, hp, hgot⟩ := h
    replace h := cat_elim (Body.cat_isS h)
    obtain ⟨bd, ⟨hbS, hn, hK⟩, hbd, _, _, hbm, hblt⟩ := h
    have hrs := (ev_ok hH hT hvb).1
    rw [rel_v] at hrs
    have hnews : All2 (crel ρ) (bz.reps q.toNat).cells (reps q.toNat zs) := by rw [reps_cells bz _ hz2']; exact hz1'.reps _
    have hzc : (Builtin.zeroCells zv.cells q.toNat).toList = reps q.toNat zs := by rw [zeroCells_eq, hcz]
    obtain ⟨y', w', ρ', e1, e2, e3, e4, e5⟩ := append_core (P := P) (q := q.toNat) hH hn (e := e) (zv := zv) hsz (Builtin.append_ #[t, u] o.type #[a.eval x, a.eval y]) hsl b1 hp hl1 hgot hwr (bz.reps q.toNat) (reps q.toNat zs)
      (by rw [length_reps, hzl]) hnews (by intro v hv; exact ones_ok hones hz1' v (mem_reps hv))
      (fun base sCap hyb hle => by
        rw [hyb, hrs, run_append_zin hu hi hut hzv hsz hq0 (by omega) hby hle, hzc]
        all_goals (cases base <;> rfl))
      (fun base sCap olds hyb hgt ho => by
        rw [hyb, hrs]
        obtain ⟨cap, hcap, hrun⟩ := run_append_zgrow (P := P) (w := w) (ty := o.type) (kq := kq) (base := base) (sLen := m') (sCap := sCap) hu hi hut hzv hsz (.inr trivial) hq0 hmq hby hgt
        rw [hyb] at ho
        rw [ho w.drew rfl, Result.andThen_ok] at hrun
        refine ⟨cap, hcap, ?_⟩
        rw [hrun, ← hzc, Array.toArray_toList]; rfl)
      bd hbm hbd (hblt n hl1 (reps_lt hz3')) hbS
    exact OpWp.of_gets hex ⟨y', w', _, _, _, ρ', e1, hK, e2, e3, Nat.le_succ _, e4, lt_new_sl⟩
  · -- a slice
    rename_i e2' hut
    cases hm
    replace h := ob_elim h; obtain ⟨va, hva, h⟩ := h
    replace h := ob_elim h; obtain ⟨vb, hvb, h⟩ := h
    replace h := asSl_elim h; obtain ⟨i, o', m', z1, rfl, h⟩ := h
    replace h := asSl_elim h; obtain ⟨j, p, q, z2, rfl, h⟩ := h
    obtain ⟨hz1, hz2, hwr, hby, hmq, h⟩ := h
    rw [szOf_eq hi] at *
    rw [byOf_eq hi] at hby
    have hsl := src (b1 := fun _ => True) hva hz1
    have hsl2 : slrel (ρ j) p q inf.size (a.eval y) := by
      have hr : slrel (ρ j) p q z2 (a.eval y) := (ev_ok hH hT hvb).1
      by_cases hj0 : j = 0
      · subst hj0; simp only [slrel, hH.nil.1] at hr ⊢; exact hr
      · rw [← hz2 hj0]; exact hr
    have hm0 : (ρ i).blk = none → m' * inf.size = 0 := fun hb => by simp only [slrel, hb] at hsl; rw [hsl.1]; simp
    have hm2 : (ρ j).blk = none → q * inf.size = 0 := fun hb => by simp only [slrel, hb] at hsl2; rw [hsl2.1]; simp
    replace h := rowOf_elim hH hb0c hb2 hb3 hm0 h
    obtain ⟨b1, h, hl1, hp, hgot⟩ := h
    replace h := rowOf_elim hH hb0c hb2 hb3 hm2 h
    obtain ⟨b2, h, hl2, hp2, hgot2⟩ := h
    obtain ⟨hones, h⟩ := h
    obtain ⟨ys, hy1, hy2, hy3⟩ := first_slice (P := P) hp2 hsl2 q (Nat.le_refl _)
    rw [List.take_of_length_le (by rw [hp2.len]; exact Nat.le_refl _)] at hy2
    obtain ⟨ad, cc, hform⟩ := slrel_form hsl2
    have hyl : ys.length = q * inf.size := by rw [hy1]
    have hlen : (Builtin.lenOf (a.eval y)).run P w = .ok q w := by rw [hform]; rfl
    have hin : ∀ base sCap, a.eval x = .slice base m' sCap → m' + q ≤ sCap → (Builtin.append_ #[t, u] o.type #[a.eval x, a.eval y]).run P w = ((match base with | some a => storeCells (a.add (m' * inf.size)) ys | none => pure () : Sem Unit).run P w).andThen fun _ w => .ok (.slice base (m' + q) sCap) w := by
      intro base sCap hyb hle
      rw [hyb, run_append_in hu hi hut rfl hlen hle, hy3 w rfl, Result.andThen_ok]
      all_goals (cases base <;> rfl)
    have hgr : ∀ base sCap (olds : List Value), a.eval x = .slice base m' sCap → ¬ (m' + q ≤ sCap) → (∀ w', w'.heap = w.heap → (Builtin.firstCells inf.size m' (a.eval x)).run P w' = .ok olds.toArray w') →
        ∃ cap, m' + q ≤ cap ∧ (Builtin.append_ #[t, u] o.type #[a.eval x, a.eval y]).run P w = .ok (.slice (some ⟨w.heap.size, 0, none⟩) (m' + q) cap) (w.drew.alloc (.cells (olds.toArray ++ ys.toArray ++ Builtin.zeroCells zv.cells (cap - (m' + q))) e)) := by
      intro base sCap olds hyb hgt ho
      obtain ⟨cap, hcap, hrun⟩ := run_append_grow (P := P) (w := w) (ty := o.type) hu hi hut rfl (base := base) (sLen := m') hzv hlen hgt hby hmq
      rw [hyb] at ho
      rw [ho w.drew rfl, Result.andThen_ok, hy3 w.drew rfl, Result.andThen_ok] at hrun
      exact ⟨cap, hcap, by rw [hyb]; exact hrun⟩
    have kill : (b1.cat b2 fun b => fresh (H.kill i) n b fun H' n' => K (.sl n 0 (m' + q) inf.size) H' n') → OpWp P F w0 ρ n o a w K := by
      intro h
      replace h := cat_elim (Body.cat_isS h)
      obtain ⟨bd, ⟨hbS, hn, hK⟩, hbd, _, _, hbm, hblt⟩ := h
      obtain ⟨y', w', ρ', e1, e2, e3, e4, e5⟩ := append_core (P := P) hH hn (e := e) hsz _ hsl b1 hp hl1 hgot hwr b2 ys hyl hy2 (ones_ok hones hy2) hin hgr bd hbm hbd (hblt n hl1 hl2) hbS
      exact OpWp.of_gets hex ⟨y', w', _, _, _, ρ', e1, hK, e2, e3, Nat.le_succ _, e4, lt_new_sl⟩
    unfold appC at h
    simp only at h
    split at h
    case h_2 => exact kill h
    split at h
    · exact kill h
    rename_i hi0
    obtain ⟨so, hs, hsm, hso, hsc, hsS⟩ := hgot hi0
    have hsw : so.wr = true := by unfold wrOf at hwr; rw [if_neg hi0, hs] at hwr; exact hwr
    rcases h with h | h | h
    · exact kill h
    · rw [hs] at h
      obtain ⟨hq, hS, hfit, h⟩ := h
      replace h := over_elim (Body.over_isS h)
      obtain ⟨bd, ⟨hbS, hK⟩, hbl, hbd, _, hbm, hblt⟩ := h
      obtain ⟨y', w', e1, e2, e3⟩ := append_inplace (P := P) hH hz0 _ hsl hs hsw hsm hS hq hfit b2 ys hyl hy2 (ones_ok hones hy2) hin bd hbd hbm (hblt n (hH.lt i so hs).2 hl2) hbS
      refine OpWp.of_gets hex ⟨y', w', _, _, _, ρ, e1, hK, e2, Ext.refl _ _, Nat.le_refl _, e3, ?_⟩
      exact (hH.lt i so hs).1
    · rw [hs] at h
      obtain ⟨hq, hend, hn, h⟩ := h
      replace h := cat_elim (Body.cat_isS h)
      obtain ⟨bd, ⟨hbS, hK⟩, hbd, _, _, hbm, hblt⟩ := h
      obtain ⟨y', w', ρ', e1, e2, e3, e4⟩ := append_keep (P := P) hH hn (e := e) hsz _ hsl b1 hp hs hsw hsm hend hsc hsS b2 ys hyl hy2 (ones_ok hones hy2) hin hgr bd hbm hbd (hblt n hl1 hl2) hbS
      exact OpWp.of_gets hex ⟨y', w', _, _, _, ρ', e1, hK, e2, e3, Nat.le_succ _, e4, lt_new_sl⟩
  · cases hm
end Go.Sx
