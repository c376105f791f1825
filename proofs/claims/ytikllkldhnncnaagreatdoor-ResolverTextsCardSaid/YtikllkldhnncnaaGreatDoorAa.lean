/- A logic of my own over the model: abstract values, what they say of machine values, and the state of a function's run. Runs of one function: the steps of the model's machine, and the judgement 'W'. Memory: what a new block, a store, a row that moves, do to the state. Loads and stores of cells; type tables. -/
import Derived.Calls
import Derived.Below
import Derived.KernelRfl
import Derived.Laws.Sem
set_option linter.all false
namespace Go.Aw
open Go.RowKit (Below)

/-- How long a string or a slice may be. -/
def LIM : Nat := 140737488355328

/-- What is known of a machine value. -/
inductive AV where
  | lit (v : Value)
  | str (s : List UInt8)
  | seq (xs : List (List AV))
  | full (xs : List (List AV))
  | own (id len : Nat)
  | ptr (id off : Nat)
  | sub (id off n : Nat)
  | pel (id len i off : Nat)
  | ref (xs : List AV) (off : Nat)
  | agg (xs : List AV)
  | tup (xs : List AV)
  | clo (f : Nat) (cs : List AV)
  | iface (t : Nat) (x : AV)
  | mapv (es : List (AV × AV))
  | omap (id : Nat)
  | it (id : Nat)
  | any
  deriving Inhabited

/-- The objects of a run: variables in memory, rows that grow, maps that are filled. -/
inductive AObj where
  | box (xs : List AV)
  | buf (sz : Nat) (xs : List (List AV))
  | omap (es : List (AV × AV))
  | iter (es : List (AV × AV)) (seen : List Nat)
  | dead
  deriving Inhabited

abbrev Sto := Nat → Option Obj
abbrev Plc := Nat → Nat × Nat

/-- The stamps of a map's entries. -/
def Stamps (ents : Array MapEntry) (clock : Nat) : Prop :=
  (∀ i, i < ents.size → (ents.getD i default).born < clock) ∧ ∀ i j, i < j → j < ents.size → (ents.getD i default).born ≠ (ents.getD j default).born

inductive Rep (K : Sto) (σ : Plc) : List AObj → Value → AV → Prop where
  | lit {O : List AObj} (v : Value) : Rep K σ O v (.lit v)
  | any {O : List AObj} (v : Value) : Rep K σ O v .any
  | str {O : List AObj} (s : List UInt8) : s.length ≤ LIM → Rep K σ O (.string ⟨s.toArray⟩) (.str s)
  | seq {O : List AObj} (xs : List (List AV)) (a : Option Addr) (cap sz : Nat) (u : Nat → Nat → Value) :
      (∀ x ∈ xs, x.length = sz) →
      (xs ≠ [] → ∃ b o arr t fr, a = some ⟨b, o, none⟩ ∧ K b = some (.cells arr t fr) ∧ ∀ i j, i < xs.length → j < sz → arr[o + i * sz + j]? = some (u i j)) →
      xs.length ≤ LIM → xs.length ≤ cap →
      (∀ i (h : i < xs.length) j (hj : j < xs[i].length), Rep K σ [] (u i j) xs[i][j]) → Rep K σ O (.slice a xs.length cap) (.seq xs)
  | full {O : List AObj} (xs : List (List AV)) (a : Addr) (sz : Nat) (u : Nat → Nat → Value) :
      (∀ x ∈ xs, x.length = sz) →
      (xs ≠ [] → ∃ b o arr t fr, a = ⟨b, o, none⟩ ∧ K b = some (.cells arr t fr) ∧ ∀ i j, i < xs.length → j < sz → arr[o + i * sz + j]? = some (u i j)) →
      xs.length ≤ LIM →
      (∀ i (h : i < xs.length) j (hj : j < xs[i].length), Rep K σ [] (u i j) xs[i][j]) → Rep K σ O (.slice (some a) xs.length xs.length) (.full xs)
  | own {O : List AObj} (v : Value) (id len : Nat) : v.oneCell' = true → id < O.length →
      (∀ sz xs, O[id]? = some (.buf sz xs) → len ≤ xs.length ∧ (len = xs.length → v = .slice (some ⟨(σ id).1, 0, none⟩) len (σ id).2)) → Rep K σ O v (.own id len)
  | ptr {O : List AObj} (v : Value) (id off : Nat) : v.oneCell' = true → id < O.length →
      (∀ xs, O[id]? = some (.box xs) → v = .pointer (some ⟨(σ id).1, off, none⟩)) → Rep K σ O v (.ptr id off)
  | sub {O : List AObj} (v : Value) (id off n : Nat) : v.oneCell' = true → id < O.length →
      (∀ xs, O[id]? = some (.box xs) → v = .slice (some ⟨(σ id).1, off, none⟩) n n ∧ off + n ≤ xs.length) → Rep K σ O v (.sub id off n)
  | pel {O : List AObj} (v : Value) (id len i off : Nat) : v.oneCell' = true → id < O.length → i < len →
      (∀ sz xs, O[id]? = some (.buf sz xs) → len ≤ xs.length ∧ (len = xs.length → v = .pointer (some ⟨(σ id).1, i * sz + off, none⟩))) → Rep K σ O v (.pel id len i off)
  | ref {O : List AObj} (xs : List AV) (off b base : Nat) (arr : Array Value) (t : TypeId) (fr : Nat × Nat) (u : Nat → Value) :
      K b = some (.cells arr t fr) → (∀ i, i < xs.length → arr[base + i]? = some (u i)) →
      (∀ i (h : i < xs.length), Rep K σ [] (u i) xs[i]) → Rep K σ O (.pointer (some ⟨b, base + off, none⟩)) (.ref xs off)
  | agg {O : List AObj} (xs : List AV) (vs : Array Value) : vs.size = xs.length → (∀ i (h : i < xs.length), Rep K σ O (vs.getD i undef) xs[i]) → Rep K σ O (.agg vs) (.agg xs)
  | tup {O : List AObj} (xs : List AV) (vs : Array Value) : vs.size = xs.length → (∀ i (h : i < xs.length), Rep K σ O (vs.getD i undef) xs[i]) → Rep K σ O (.tuple vs) (.tup xs)
  | clo {O : List AObj} (f : Nat) (xs : List AV) (vs : Array Value) : vs.size = xs.length → (∀ i (h : i < xs.length), Rep K σ O (vs.getD i undef) xs[i]) →
      Rep K σ O (.func (.func f) #[] vs) (.clo f xs)
  | iface {O : List AObj} (t : Nat) (v : Value) (x : AV) : Rep K σ O v x → Rep K σ O (.iface t v) (.iface t x)
  | mapv {O : List AObj} (es : List (AV × AV)) (b : Nat) (ents : Array MapEntry) (clock : Nat) : K b = some (.map ents clock) → ents.size = es.length ∧ Stamps ents clock →
      (∀ i (h : i < es.length), Rep K σ [] (ents.getD i default).key es[i].1) → (∀ i (h : i < es.length), Rep K σ [] (ents.getD i default).val es[i].2) →
      Rep K σ O (.map (some b)) (.mapv es)
  | omap {O : List AObj} (v : Value) (id : Nat) : v.oneCell' = true → id < O.length → (∀ es, O[id]? = some (.omap es) → v = .map (some (σ id).1)) → Rep K σ O v (.omap id)
  | it {O : List AObj} (v : Value) (id : Nat) : v.oneCell' = true → id < O.length → (∀ es seen, O[id]? = some (.iter es seen) → v = .pointer (some ⟨(σ id).1, 0, none⟩)) → Rep K σ O v (.it id)

/-- The objects have gone on: rows may have grown, variables lie where they lay. -/
structure Compat (O : List AObj) (σ : Plc) (O' : List AObj) (σ' : Plc) : Prop where
  len : O.length ≤ O'.length
  box : ∀ id xs', id < O.length → O'[id]? = some (.box xs') → (∃ xs, O[id]? = some (.box xs) ∧ xs'.length = xs.length) ∧ σ' id = σ id
  buf : ∀ id sz xs', id < O.length → O'[id]? = some (.buf sz xs') → ∃ xs, O[id]? = some (.buf sz xs) ∧ ((xs'.length = xs.length ∧ σ' id = σ id) ∨ xs.length < xs'.length)
  omap : ∀ id es', id < O.length → O'[id]? = some (.omap es') → (∃ es, O[id]? = some (.omap es)) ∧ σ' id = σ id
  iter : ∀ id es' seen', id < O.length → O'[id]? = some (.iter es' seen') → (∃ es seen, O[id]? = some (.iter es seen)) ∧ σ' id = σ id

theorem Compat.refl (O : List AObj) (σ : Plc) : Compat O σ O σ :=
  ⟨Nat.le_refl _, fun _ xs _ h => ⟨⟨xs, h, rfl⟩, rfl⟩, fun _ _ xs _ h => ⟨xs, h, .inl ⟨rfl, rfl⟩⟩, fun _ es _ h => ⟨⟨es, h⟩, rfl⟩, fun _ es seen _ h => ⟨⟨es, seen, h⟩, rfl⟩⟩

theorem Compat.trans {O σ O1 σ1 O2 σ2} (h : Compat O σ O1 σ1) (k : Compat O1 σ1 O2 σ2) : Compat O σ O2 σ2 := by
  refine ⟨Nat.le_trans h.len k.len, fun id xs' hi hx => ?_, fun id sz xs' hi hx => ?_, fun id es' hi hx => ?_, fun id es' seen' hi hx => ?_⟩
  · obtain ⟨⟨y, hy, e0⟩, e⟩ := k.box id xs' (Nat.lt_of_lt_of_le hi h.len) hx
    obtain ⟨⟨z, hz, e1⟩, e'⟩ := h.box id y hi hy
    exact ⟨⟨z, hz, e0.trans e1⟩, e.trans e'⟩
  · obtain ⟨y, hy, e⟩ := k.buf id sz xs' (Nat.lt_of_lt_of_le hi h.len) hx
    obtain ⟨z, hz, e'⟩ := h.buf id sz y hi hy
    refine ⟨z, hz, ?_⟩
    rcases e with ⟨e1, e2⟩ | e
    · rcases e' with ⟨f1, f2⟩ | f
      · exact .inl ⟨e1.trans f1, e2.trans f2⟩
      · exact .inr (by omega)
    · rcases e' with ⟨f1, f2⟩ | f
      · exact .inr (by omega)
      · exact .inr (by omega)
  · obtain ⟨⟨y, hy⟩, e⟩ := k.omap id es' (Nat.lt_of_lt_of_le hi h.len) hx
    obtain ⟨hz, e'⟩ := h.omap id y hi hy
    exact ⟨hz, e.trans e'⟩
  · obtain ⟨⟨y, u, hy⟩, e⟩ := k.iter id es' seen' (Nat.lt_of_lt_of_le hi h.len) hx
    obtain ⟨hz, e'⟩ := h.iter id y u hi hy
    exact ⟨hz, e.trans e'⟩

theorem Compat.nil (σ : Plc) (O : List AObj) (σ' : Plc) : Compat [] σ O σ' :=
  ⟨Nat.zero_le _, fun _ _ h => (by simp at h), fun _ _ _ h => (by simp at h), fun _ _ h => (by simp at h), fun _ _ _ h => (by simp at h)⟩
theorem Rep.mono' {K K' : Sto} {σ σ' : Plc} (hK : ∀ b o, K b = some o → K' b = some o) {O : List AObj} {v : Value} {x : AV} (h : Rep K σ O v x) :
    ∀ O', Compat O σ O' σ' → Rep K' σ' O' v x := by
  induction h with
  | lit v => exact fun O' _ => .lit v
  | any v => exact fun O' _ => .any v
  | str s hs => exact fun O' _ => .str s hs
  | seq xs a cap sz u h1 h2 h3 h4 _ ih =>
    intro O' hO
    refine .seq xs a cap sz u h1 (fun hn => ?_) h3 h4 (fun i hi j hj => ih i hi j hj [] (.nil _ _ _))
    obtain ⟨b, o, arr, t, fr, ha, hb, hc⟩ := h2 hn
    exact ⟨b, o, arr, t, fr, ha, hK _ _ hb, hc⟩
  | full xs a sz u h1 h2 h3 _ ih =>
    intro O' hO
    refine .full xs a sz u h1 (fun hn => ?_) h3 (fun i hi j hj => ih i hi j hj [] (.nil _ _ _))
    obtain ⟨b, o, arr, t, fr, ha, hb, hc⟩ := h2 hn
    exact ⟨b, o, arr, t, fr, ha, hK _ _ hb, hc⟩
  | own v id len ho hi h =>
    intro O' hO
    refine .own v id len ho (Nat.lt_of_lt_of_le hi hO.len) fun sz xs' hx => ?_
    obtain ⟨xs, hxs, e⟩ := hO.buf id sz xs' hi hx
    obtain ⟨h1, h2⟩ := h sz xs hxs
    rcases e with ⟨e1, e2⟩ | e
    · refine ⟨by omega, fun hl => ?_⟩
      rw [e2]; exact h2 (by omega)
    · exact ⟨by omega, fun hl => by omega⟩
  | ptr v id off ho hi h =>
    intro O' hO
    refine .ptr v id off ho (Nat.lt_of_lt_of_le hi hO.len) fun xs' hx => ?_
    obtain ⟨⟨xs, hxs, _⟩, e⟩ := hO.box id xs' hi hx
    rw [e]; exact h xs hxs
  | sub v id off n ho hi h =>
    intro O' hO
    refine .sub v id off n ho (Nat.lt_of_lt_of_le hi hO.len) fun xs' hx => ?_
    obtain ⟨⟨xs, hxs, e0⟩, e⟩ := hO.box id xs' hi hx
    rw [e, e0]; exact h xs hxs
  | pel v id len i off ho hi hil h =>
    intro O' hO
    refine .pel v id len i off ho (Nat.lt_of_lt_of_le hi hO.len) hil fun sz xs' hx => ?_
    obtain ⟨xs, hxs, e⟩ := hO.buf id sz xs' hi hx
    obtain ⟨h1, h2⟩ := h sz xs hxs
    rcases e with ⟨e1, e2⟩ | e
    · refine ⟨by omega, fun hl => ?_⟩
      rw [e2]; exact h2 (by omega)
    · exact ⟨by omega, fun hl => by omega⟩
  | ref xs off b base arr t fr u h1 h2 _ ih => exact fun O' _ => .ref xs off b base arr t fr u (hK _ _ h1) h2 (fun i hi => ih i hi [] (.nil _ _ _))
  | agg xs vs h1 _ ih => exact fun O' hO => .agg xs vs h1 (fun i hi => ih i hi O' hO)
  | tup xs vs h1 _ ih => exact fun O' hO => .tup xs vs h1 (fun i hi => ih i hi O' hO)
  | clo f xs vs h1 _ ih => exact fun O' hO => .clo f xs vs h1 (fun i hi => ih i hi O' hO)
  | iface t v x _ ih => exact fun O' hO => .iface t v x (ih O' hO)
  | mapv es b ents clock h1 h2 _ _ ih1 ih2 => exact fun O' _ => .mapv es b ents clock (hK _ _ h1) h2 (fun i hi => ih1 i hi [] (.nil _ _ _)) (fun i hi => ih2 i hi [] (.nil _ _ _))
  | omap v id ho hi h =>
    intro O' hO
    refine .omap v id ho (Nat.lt_of_lt_of_le hi hO.len) fun es' hx => ?_
    obtain ⟨⟨es, hes⟩, e⟩ := hO.omap id es' hi hx
    rw [e]; exact h es hes
  | it v id ho hi h =>
    intro O' hO
    refine .it v id ho (Nat.lt_of_lt_of_le hi hO.len) fun es' seen' hx => ?_
    obtain ⟨⟨es, seen, hes⟩, e⟩ := hO.iter id es' seen' hi hx
    rw [e]; exact h es seen hes
theorem Rep.mono {K K' : Sto} {σ σ' : Plc} {O O' : List AObj} (hK : ∀ b o, K b = some o → K' b = some o) (hO : Compat O σ O' σ')
    {v : Value} {x : AV} (h : Rep K σ O v x) : Rep K' σ' O' v x := h.mono' hK O' hO
theorem Rep.lift {K : Sto} {σ σ' : Plc} {O : List AObj} {v : Value} {x : AV} (h : Rep K σ [] v x) : Rep K σ' O v x := h.mono (fun _ _ h => h) (.nil _ _ _)

/-- An object is there. -/
def AObj.alive : Option AObj → Prop
  | some .dead => False
  | some _ => True
  | none => False

def freeAll (arr : Array Value) (fr : Nat × Nat) : Prop := ∀ j, j < arr.size → ¬ (fr.1 ≤ j ∧ j < fr.2)

/-- An object as it lies in memory. -/
def RObj (K : Sto) (σ : Plc) (O : List AObj) (w : World) (id : Nat) : Option AObj → Prop
  | some (.box xs) => K (σ id).1 = none ∧ ∃ arr t fr, w.heap[(σ id).1]? = some (.cells arr t fr) ∧ freeAll arr fr ∧ arr.size = xs.length ∧
      ∀ i (h : i < xs.length), Rep K σ O (arr.getD i undef) xs[i]
  | some (.buf sz xs) => K (σ id).1 = none ∧ ∃ arr t fr, w.heap[(σ id).1]? = some (.cells arr t fr) ∧ freeAll arr fr ∧ arr.size = (σ id).2 * sz ∧
      xs.length ≤ (σ id).2 ∧ xs.length ≤ LIM ∧ (∀ x ∈ xs, x.length = sz) ∧
      ∀ i (h : i < xs.length) j (hj : j < xs[i].length), Rep K σ O (arr.getD (i * sz + j) undef) xs[i][j]
  | some (.omap es) => K (σ id).1 = none ∧ ∃ ents clock, w.heap[(σ id).1]? = some (.map ents clock) ∧ (ents.size = es.length ∧ Stamps ents clock) ∧
      (∀ i (h : i < es.length), Rep K σ O (ents.getD i default).key es[i].1) ∧ (∀ i (h : i < es.length), Rep K σ O (ents.getD i default).val es[i].2)
  | some (.iter es seen) => K (σ id).1 = none ∧ ∃ b ents clock, K b = some (.map ents clock) ∧ (ents.size = es.length ∧ Stamps ents clock) ∧
      (∀ i (h : i < es.length), Rep K σ [] (ents.getD i default).key es[i].1) ∧ (∀ i (h : i < es.length), Rep K σ [] (ents.getD i default).val es[i].2) ∧
      (∀ i ∈ seen, i < es.length) ∧ w.heap[(σ id).1]? = some (.mapIter (some b) clock (seen.map fun i => (ents.getD i default).born).toArray clock)
  | _ => True

/-- How a function was entered. -/
structure Ctx where
  K : Sto
  σ : Plc
  O : List AObj
  w : World

def owns (O : List AObj) (σ : Plc) (b : Nat) : Prop := ∃ id, AObj.alive O[id]? ∧ (σ id).1 = b

/-- Memory, behind a part of a function's run. -/
structure RA (c : Ctx) (K : Sto) (σ : Plc) (O : List AObj) (w : World) : Prop where
  os : w.os = c.w.os
  tape : w.tape = c.w.tape
  output : w.output = c.w.output
  size : c.w.heap.size ≤ w.heap.size
  cons : ∀ b o, K b = some o → w.heap[b]? = some o
  objs : ∀ id, RObj K σ O w id O[id]?
  inj : ∀ i j, AObj.alive O[i]? → AObj.alive O[j]? → (σ i).1 = (σ j).1 → i = j
  frame : ∀ b, b < c.w.heap.size → ¬ owns c.O c.σ b → w.heap[b]? = c.w.heap[b]?
  own : ∀ id, AObj.alive O[id]? → owns c.O c.σ (σ id).1 ∨ c.w.heap.size ≤ (σ id).1
  le : ∀ b o, c.K b = some o → K b = some o
  new : ∀ b o, K b = some o → c.K b = some o ∨ owns c.O c.σ b ∨ c.w.heap.size ≤ b
  comp : Compat c.O c.σ O σ

theorem RObj.mono {K K' : Sto} {σ σ' : Plc} {O O' : List AObj} {w w' : World} {id : Nat} {o : Option AObj}
    (hR : ∀ v x, Rep K σ O v x → Rep K' σ' O' v x) (hσ : σ' id = σ id) (hK : AObj.alive o → K (σ id).1 = none → K' (σ id).1 = none)
    (hw : AObj.alive o → w'.heap[(σ id).1]? = w.heap[(σ id).1]?) (h : RObj K σ O w id o) (hKs : ∀ b o, K b = some o → K' b = some o) : RObj K' σ' O' w' id o := by
  cases o with
  | none => trivial
  | some o => cases o with
    | dead => trivial
    | box xs =>
      obtain ⟨h0, arr, t, fr, h1, h2, h3, h4⟩ := h
      exact ⟨by rw [hσ]; exact hK trivial h0, arr, t, fr, by rw [hσ, hw trivial]; exact h1, h2, h3, fun i hi => hR _ _ (h4 i hi)⟩
    | buf sz xs =>
      obtain ⟨h0, arr, t, fr, h1, h2, h3, h4, h5, h6, h7⟩ := h
      exact ⟨by rw [hσ]; exact hK trivial h0, arr, t, fr, by rw [hσ, hw trivial]; exact h1, h2, by rw [hσ]; exact h3, by rw [hσ]; exact h4, h5, h6, fun i hi j hj => hR _ _ (h7 i hi j hj)⟩
    | omap es =>
      obtain ⟨h0, ents, clock, h1, h2, h3, h4⟩ := h
      exact ⟨by rw [hσ]; exact hK trivial h0, ents, clock, by rw [hσ, hw trivial]; exact h1, h2, fun i hi => hR _ _ (h3 i hi), fun i hi => hR _ _ (h4 i hi)⟩
    | iter es seen =>
      obtain ⟨h0, b, ents, clock, h1, h2, h3, h4, h5, h6⟩ := h
      exact ⟨by rw [hσ]; exact hK trivial h0, b, ents, clock, hKs _ _ h1, h2, fun i hi => (h3 i hi).mono hKs (.nil _ _ _), fun i hi => (h4 i hi).mono hKs (.nil _ _ _), h5, by rw [hσ, hw trivial]; exact h6⟩

/-- A draw turns nothing. -/
theorem RA.drawn {c K σ O w} (h : RA c K σ O w) (n : Nat) : RA c K σ O { w with drawn := n } :=
  ⟨h.os, h.tape, h.output, h.size, h.cons, fun id => (h.objs id).mono (fun _ _ h => h) rfl (fun _ h => h) (fun _ => rfl) fun _ _ h => h, h.inj, h.frame, h.own, h.le, h.new, h.comp⟩

theorem RA.enter {K σ O w} (cons : ∀ b o, K b = some o → w.heap[b]? = some o) (objs : ∀ id, RObj K σ O w id O[id]?)
    (inj : ∀ i j, AObj.alive O[i]? → AObj.alive O[j]? → (σ i).1 = (σ j).1 → i = j) : RA ⟨K, σ, O, w⟩ K σ O w :=
  ⟨rfl, rfl, rfl, Nat.le_refl _, cons, objs, inj, fun _ _ _ => rfl, fun id h => .inl ⟨id, h, rfl⟩, fun _ _ h => h, fun _ _ h => .inl h, Compat.refl _ _⟩

/-- Behind a call. -/
theorem RA.trans {c K σ O w K' σ' O' w'} (h : RA c K σ O w) (k : RA ⟨K, σ, O, w⟩ K' σ' O' w') : RA c K' σ' O' w' := by
  refine ⟨k.os.trans h.os, k.tape.trans h.tape, k.output.trans h.output, Nat.le_trans h.size k.size, k.cons, k.objs, k.inj, fun b hb ho => ?_, fun id hid => ?_,
    fun b o hb => k.le b o (h.le b o hb), fun b o hb => ?_, h.comp.trans k.comp⟩
  · rw [k.frame b (Nat.lt_of_lt_of_le hb h.size) ?_, h.frame b hb ho]
    rintro ⟨id, ha, e⟩
    rcases h.own id ha with h1 | h1
    · exact ho (e ▸ h1)
    · rw [e] at h1; exact absurd hb (by omega)
  · rcases k.own id hid with ⟨j, ha, e⟩ | h1
    · dsimp only at e ha
      rw [← e]; exact h.own j ha
    · exact .inr (Nat.le_trans h.size h1)
  · rcases k.new b o hb with h1 | ⟨j, ha, e⟩ | h1
    · exact h.new b o h1
    · dsimp only at e ha
      rcases h.own j ha with h2 | h2
      · exact .inr (.inl (e ▸ h2))
      · exact .inr (.inr (e ▸ h2))
    · exact .inr (.inr (Nat.le_trans h.size h1))
end Go.Aw
namespace Go.Aw

def base (f : FuncId) : Frame := { (default : Frame) with fn := f, kind := .normal }

/-- From this point on the function comes to its end, and S holds there. -/
def Runs (P : Program) (f : FuncId) (todo : List Item) (a : Act) (w : World) (S : Ending → World → Prop) : Prop :=
  ∀ cs, ∃ e w' fr, S e w' ∧ Comes P (lone ((base f).at a todo) cs w) (lone fr cs w') e ∧ fr.fn = f ∧ fr.leaving P w' e

variable {P : Program} {f : FuncId} {a : Act} {w : World} {S : Ending → World → Prop} {k : List Item}

theorem Runs.stp {todo todo' : List Item} {a' : Act} {w' : World} (h : ∀ cs, Go.step P (lone ((base f).at a todo) cs w) = .next (lone ((base f).at a' todo') cs w'))
    (k : Runs P f todo' a' w' S) : Runs P f todo a w S := fun cs =>
  let ⟨e, w2, fr, hs, hc, hf, hl⟩ := k cs; ⟨e, w2, fr, hs, .of_steps (.one (h cs)) hc, hf, hl⟩

theorem Calls_of_Runs {fn : Func} {c : Code} {args : Array Value} (hf : P.funcs[f]? = some fn) (hb : fn.body = some c)
    (h : Runs P f [.code c] { tmps := args ++ Array.replicate (fn.ntmps - args.size) undef, defers := [] } w S) : Calls P f args w S := by
  intro cs
  have henter : Frame.enter P f args .normal =
      (base f).at { tmps := args ++ Array.replicate (fn.ntmps - args.size) undef, defers := [] } [.code c] := by
    simp [Frame.enter, Frame.at, hf, hb, base]
  rw [henter]; exact h cs

theorem Runs.ret {fn : Func} {v : Value} (hd : a.defers = []) (hf : P.funcs[f]? = some fn) (hr : (results fn a.tmps).run P w = .ok v w) (hS : S (.returned v) w) :
    Runs P f (.code .ret :: k) a w S := fun _ =>
  ⟨.returned v, w, _, hS, .one step_ret, rfl, rfl, hd, rfl, fn, hf, hr⟩
theorem Runs.done {fn : Func} {v : Value} (hd : a.defers = []) (hf : P.funcs[f]? = some fn) (hr : (results fn a.tmps).run P w = .ok v w) (hS : S (.returned v) w) :
    Runs P f [] a w S := fun _ =>
  ⟨.returned v, w, _, hS, .one step_end, rfl, rfl, hd, rfl, fn, hf, hr⟩

section ops
variable {ops : Array Oper} {i : Nat} {rest : List Nat} {o : Oper}

theorem finish_at' (ho : ops[i]? = some o) (v : Value) : ((base f).at a (.inRegion ops (i :: rest) :: k)).finish v = (base f).at (a.put o.dst v) (.inRegion ops rest :: k) := by
  rw [Frame.finish_at, ho]; rfl

theorem Runs.value {v : Value} {w' : World} (ho : ops[i]? = some o) (hw : Region.wanted o (yielded ops a.tmps) = true) (hr : (execOp a.eval o).run P w = .ok (.value v) w')
    (h : Runs P f (.inRegion ops rest :: k) (a.put o.dst v) w' S) : Runs P f (.inRegion ops (i :: rest) :: k) a w S := by
  refine Runs.stp (fun cs => step_lone_go ?_) h
  rw [stepG_op ho hw, ← finish_at' ho]; simp [stepG.apply, hr]
theorem Runs.skip {w' : World} (ho : ops[i]? = some o) (hw : Region.wanted o (yielded ops a.tmps) = true) (hr : (execOp a.eval o).run P w = .ok .skip w')
    (h : Runs P f (.inRegion ops rest :: k) (a.put o.dst undef) w' S) : Runs P f (.inRegion ops (i :: rest) :: k) a w S := by
  refine Runs.stp (fun cs => step_lone_go ?_) h
  rw [stepG_op ho hw, ← finish_at' ho]; simp [stepG.apply, hr]
theorem Runs.unwanted (ho : ops[i]? = some o) (hw : Region.wanted o (yielded ops a.tmps) = false)
    (h : Runs P f (.inRegion ops rest :: k) (a.put o.dst undef) w S) : Runs P f (.inRegion ops (i :: rest) :: k) a w S := by
  refine Runs.stp (fun cs => ?_) h
  have := step_op_skip (P := P) (b := base f) (a := a) (k := k) (cs := cs) (w := w) (ops := ops) (i := i) (rest := rest) (by simp [ho, hw])
  rw [this, ho]; rfl
theorem Runs.call {g : FuncId} {args : Array Value} {w' : World} (ho : ops[i]? = some o) (hw : Region.wanted o (yielded ops a.tmps) = true)
    (hr : (execOp a.eval o).run P w = .ok (.enter g args) w')
    (h : Calls P g args w' fun e w'' => ∃ v, e = .returned v ∧ Runs P f (.inRegion ops rest :: k) (a.put o.dst v) w'' S) :
    Runs P f (.inRegion ops (i :: rest) :: k) a w S := by
  intro cs
  obtain ⟨e, w'', fr, ⟨v, rfl, hR⟩, hsteps, _, hleave⟩ := h ((base f).at a (.inRegion ops (i :: rest) :: k) :: cs)
  have henter : Go.step P (lone ((base f).at a (.inRegion ops (i :: rest) :: k)) cs w) =
      .next (lone (Frame.enter P g args .normal) ((base f).at a (.inRegion ops (i :: rest) :: k) :: cs) w') :=
    step_lone_go (by rw [stepG_op ho hw]; simp [stepG.apply, hr, Frame.at])
  obtain ⟨e, w3, fr', hS, hc, hf, hl⟩ := hR cs
  refine ⟨e, w3, fr', hS, .of_steps (.head henter (Steps.trans hsteps (.one ?_))) hc, hf, hl⟩
  rw [← finish_at' ho]; exact step_leave_returned hleave
theorem Runs.region_end (h : Runs P f k a w S) : Runs P f (.inRegion ops [] :: k) a w S := .stp (fun _ => step_region_end) h
theorem Runs.region {id : Nat} (h : Runs P f (.inRegion ops (List.range ops.size) :: k) a w S) : Runs P f (.code (.region id ops false) :: k) a w S := .stp (fun _ => step_region) h
theorem Runs.region_draw {id : Nat} (h : ∀ t, Runs P f (.inRegion ops (Region.schedule (P.follows .mixedOrders) ops t) :: k) a { w with drawn := w.drawn + 1 } S) :
    Runs P f (.code (.region id ops true) :: k) a w S := .stp (fun _ => step_region_draw) (h _)
end ops

/-- The state of a run: what is known of the temporaries, and the objects. -/
structure St where
  env : List (Nat × AV)
  objs : List AObj

def get : List (Nat × AV) → Nat → AV
  | [], _ => .any
  | (d, v) :: e, t => if t = d then v else get e t

structure R (c : Ctx) (K : Sto) (σ : Plc) (st : St) (n : Nat) (a : Act) (w : World) : Prop where
  mem : RA c K σ st.objs w
  env : ∀ t, Rep K σ st.objs (a.tmps.getD t undef) (get st.env t)
  size : a.tmps.size = n
  defers : a.defers = []

/-- What is said of a function's end. -/
def Ends (c : Ctx) (Q : AV → List AObj → Prop) (e : Ending) (w' : World) : Prop :=
  ∃ v r K' σ' O', e = .returned v ∧ RA c K' σ' O' w' ∧ Rep K' σ' O' v r ∧ Q r O'

/-- From this point on the function comes to its end, and Q holds of its result and the objects. -/
def W (P : Program) (f : FuncId) (n : Nat) (O0 : List AObj) (todo : List Item) (st : St) (Q : AV → List AObj → Prop) : Prop :=
  ∀ c K σ a w, c.O = O0 → R c K σ st n a w → Runs P f todo a w (Ends c Q)

variable {n : Nat} {O0 : List AObj} {st : St} {Q : AV → List AObj → Prop}

theorem W.stp {todo todo' : List Item} (h : ∀ a cs w, Go.step P (lone ((base f).at a todo) cs w) = .next (lone ((base f).at a todo') cs w))
    (k : W P f n O0 todo' st Q) : W P f n O0 todo st Q := fun c K σ a w ho hR => .stp (fun cs => h a cs w) (k c K σ a w ho hR)
theorem W.skip (h : W P f n O0 k st Q) : W P f n O0 (.code .skip :: k) st Q := .stp (fun _ _ _ => step_skip) h
theorem W.label {l : Nat} (h : W P f n O0 k st Q) : W P f n O0 (.code (.label l) :: k) st Q := .stp (fun _ _ _ => step_label) h
theorem W.inBlock {id : Nat} (h : W P f n O0 k st Q) : W P f n O0 (.inBlock id :: k) st Q := .stp (fun _ _ _ => step_inBlock) h
theorem W.seq {x y : Code} (h : W P f n O0 (.code x :: .code y :: k) st Q) : W P f n O0 (.code (.seq x y) :: k) st Q := .stp (fun _ _ _ => step_seq) h
theorem W.block {id : Nat} {x : Code} (h : W P f n O0 (.code x :: .inBlock id :: k) st Q) : W P f n O0 (.code (.block id x) :: k) st Q := .stp (fun _ _ _ => step_block) h
theorem W.loop_ {x : Code} (h : W P f n O0 (.code x :: .inLoop x :: k) st Q) : W P f n O0 (.code (.loop x) :: k) st Q := .stp (fun _ _ _ => step_loop) h
theorem W.inLoop {x : Code} (h : W P f n O0 (.code x :: .inLoop x :: k) st Q) : W P f n O0 (.inLoop x :: k) st Q := .stp (fun _ _ _ => step_inLoop) h
theorem W.exit {id : Nat} {k' : List Item} (he : exitTo id k = some k') (h : W P f n O0 k' st Q) : W P f n O0 (.code (.exit id) :: k) st Q := .stp (fun _ _ _ => step_exit he) h
theorem W.goto {id : Nat} {k' : List Item} (he : gotoIn id k = some k') (h : W P f n O0 k' st Q) : W P f n O0 (.code (.goto id) :: k) st Q := .stp (fun _ _ _ => step_goto he) h

def LIMok (n : Nat) : Bool := n ≤ LIM
/-- What a constant is. -/
def ofV : Value → AV
  | .string s => if s.size ≤ LIM then .str s.data.toList else .lit (.string s)
  | v => .lit v
def evalA (env : List (Nat × AV)) : Operand → AV
  | .tmp t => get env t
  | .const v => ofV v
  | .global g => .lit (.pointer (some ⟨g, 0, none⟩))
  | .func f => .clo f []

theorem Rep.ofV {K σ O} (v : Value) : Rep K σ O v (ofV v) := by
  unfold Aw.ofV
  split
  · rename_i s
    split
    · rename_i h
      obtain ⟨d⟩ := s
      have h2 := Rep.str (K := K) (σ := σ) (O := O) d.toList (by rw [Array.length_toList]; exact h)
      rw [Array.toArray_toList] at h2
      exact h2
    · exact .lit _
  · exact .lit _
theorem R.eval {c K σ st n a w} (h : R c K σ st n a w) (x : Operand) : Rep K σ st.objs (a.eval x) (evalA st.env x) := by
  cases x with
  | tmp t => exact h.env t
  | const v => exact Rep.ofV v
  | global g => exact .lit _
  | func g => exact .clo g [] #[] rfl (fun i h => by simp at h)

theorem Rep.toBool {K σ O v b} (h : Rep K σ O v (.lit (.bool b))) : v = .bool b := by cases h; rfl
theorem W.cond {x : Operand} {c1 c2 : Code} {b : Bool} (hx : evalA st.env x = .lit (.bool b)) (h1 : b = true → W P f n O0 (.code c1 :: k) st Q) (h2 : b = false → W P f n O0 (.code c2 :: k) st Q) :
    W P f n O0 (.code (.cond x c1 c2) :: k) st Q := by
  intro c K σ a w ho hR
  have hb : a.eval x = .bool b := Rep.toBool (hx ▸ hR.eval x)
  refine Runs.stp (fun cs => step_cond hb) ?_
  cases b with
  | true => exact h1 rfl c K σ a w ho hR
  | false => exact h2 rfl c K σ a w ho hR

theorem get_set (env : List (Nat × AV)) (d : Nat) (x : AV) (t : Nat) : get ((d, x) :: env) t = if t = d then x else get env t := rfl

/-- A result is put into its slot. -/
def put (n : Nat) (env : List (Nat × AV)) (dst : Option Nat) (x : AV) : List (Nat × AV) :=
  match dst with
  | some d => (d, if d < n then x else .any) :: env
  | none => env

theorem R.put {c K σ O n a w env K' σ' O' w'} (h : R c K σ ⟨env, O⟩ n a w) (hm : RA c K' σ' O' w') (hR : ∀ v x, Rep K σ O v x → Rep K' σ' O' v x)
    (dst : Option Nat) {v : Value} {x : AV} (hv : Rep K' σ' O' v x) : R c K' σ' ⟨put n env dst x, O'⟩ n (a.put dst v) w' := by
  refine ⟨hm, ?_, ?_, ?_⟩
  · intro t
    cases dst with
    | none => exact hR _ _ (h.env t)
    | some d =>
      simp only [Aw.put, Act.put, get]
      by_cases htd : t = d
      · subst htd
        simp only [if_true]
        by_cases hd : t < n
        · simp only [hd, if_true]
          have : t < a.tmps.size := by rw [h.size]; exact hd
          simpa [Array.getElem?_setIfInBounds, this] using hv
        · simp only [hd, if_false]; exact .any _
      · simp only [htd, if_false]
        have := hR _ _ (h.env t)
        simpa [Array.getElem?_setIfInBounds, Ne.symm htd] using this
  · cases dst <;> simp [Act.put, h.size]
  · cases dst <;> simp [Act.put, h.defers]
end Go.Aw
namespace Go.Aw

theorem alive_lt {O : List AObj} {id : Nat} (h : AObj.alive O[id]?) : id < O.length := by
  rcases Nat.lt_or_ge id O.length with h1 | h1
  · exact h1
  · rw [List.getElem?_eq_none h1] at h; exact h.elim

theorem RObj.block {K σ O w id o} (h : RObj K σ O w id o) (ha : AObj.alive o) : K (σ id).1 = none ∧ (σ id).1 < w.heap.size := by
  have hlt : ∀ {ob : Obj}, w.heap[(σ id).1]? = some ob → (σ id).1 < w.heap.size := fun hb => by
    rcases Nat.lt_or_ge (σ id).1 w.heap.size with h1 | h1
    · exact h1
    · rw [Array.getElem?_eq_none h1] at hb; cases hb
  cases o with
  | none => exact ha.elim
  | some o => cases o with
    | dead => exact ha.elim
    | box xs => obtain ⟨h0, arr, t, fr, h1, _⟩ := h; exact ⟨h0, hlt h1⟩
    | buf sz xs => obtain ⟨h0, arr, t, fr, h1, _⟩ := h; exact ⟨h0, hlt h1⟩
    | omap es => obtain ⟨h0, ents, clock, h1, _⟩ := h; exact ⟨h0, hlt h1⟩
    | iter es seen => obtain ⟨h0, b, ents, clock, _, _, _, _, _, h1⟩ := h; exact ⟨h0, hlt h1⟩

theorem RA.owned_lt {c K σ O w} (h : RA c K σ O w) {id : Nat} (ha : AObj.alive O[id]?) : (σ id).1 < w.heap.size := ((h.objs id).block ha).2

/-- A new block that is nobody's yet. -/
theorem RA.push {c K σ O w} (h : RA c K σ O w) (ob : Obj) : RA c K σ O { w with heap := w.heap.push ob } := by
  have hb : ∀ b, b < w.heap.size → (w.heap.push ob)[b]? = w.heap[b]? := fun b hb => by rw [Array.getElem?_push, if_neg (by omega)]
  refine ⟨h.os, h.tape, h.output, ?_, fun b o hk => ?_, fun id => ?_, h.inj, fun b hlt ho => ?_, h.own, h.le, h.new, h.comp⟩
  · have := h.size; simp; omega
  · have h1 := h.cons b o hk
    have : b < w.heap.size := by
      rcases Nat.lt_or_ge b w.heap.size with h2 | h2
      · exact h2
      · rw [Array.getElem?_eq_none h2] at h1; cases h1
    show (w.heap.push ob)[b]? = _
    rw [hb b this]; exact h1
  · exact (h.objs id).mono (fun _ _ h => h) rfl (fun _ h => h) (fun ha => hb _ (h.owned_lt ha)) fun _ _ h => h
  · show (w.heap.push ob)[b]? = _
    rw [hb b (Nat.lt_of_lt_of_le hlt h.size)]; exact h.frame b hlt ho

def Sto.upd (K : Sto) (b : Nat) (o : Obj) : Sto := fun x => if x = b then some o else K x
theorem Sto.upd_le {K : Sto} {b : Nat} {o : Obj} (h : K b = none ∨ K b = some o) : ∀ x y, K x = some y → (K.upd b o) x = some y := by
  intro x y hx
  unfold Sto.upd
  split
  · rename_i e; subst e; rcases h with h | h <;> simp_all
  · exact hx

/-- A block that nobody owns is known from now on. -/
theorem RA.know {c K σ O w} (h : RA c K σ O w) {b : Nat} {ob : Obj} (hb : w.heap[b]? = some ob) (hn : c.w.heap.size ≤ b ∨ owns c.O c.σ b) (ho : ¬ owns O σ b) :
    RA c (K.upd b ob) σ O w := by
  have hK : K b = none ∨ K b = some ob := by
    cases hk : K b with
    | none => exact .inl rfl
    | some o => have := h.cons b o hk; rw [hb] at this; exact .inr this.symm
  have hle := Sto.upd_le hK
  refine ⟨h.os, h.tape, h.output, h.size, fun x o hx => ?_, fun id => ?_, h.inj, h.frame, h.own, fun x o hx => hle x o (h.le x o hx), fun x o hx => ?_, h.comp⟩
  · unfold Sto.upd at hx; split at hx
    · rename_i e; subst e; rw [hb]; exact hx
    · exact h.cons x o hx
  · cases ho' : O[id]? with
    | none => trivial
    | some o =>
      by_cases ha : AObj.alive (some o)
      · rw [← ho'] at ha ⊢
        refine (h.objs id).mono (fun _ _ r => r.mono hle (Compat.refl _ _)) rfl (fun _ h1 => ?_) (fun _ => rfl) hle
        unfold Sto.upd; rw [if_neg]; exact h1
        exact fun e => ho ⟨id, ha, e⟩
      · cases o <;> first | trivial | exact (ha trivial).elim
  · unfold Sto.upd at hx; split at hx
    · rename_i e; subst e; rcases hn with h1 | h1
      · exact .inr (.inr h1)
      · exact .inr (.inl h1)
    · exact h.new x o hx

def Plc.upd (σ : Plc) (id : Nat) (p : Nat × Nat) : Plc := fun x => if x = id then p else σ x

theorem Compat.append (O : List AObj) (σ : Plc) (o : AObj) (p : Nat × Nat) : Compat O σ (O ++ [o]) (σ.upd O.length p) := by
  have e : ∀ id, id < O.length → (O ++ [o])[id]? = O[id]? := fun id h => by rw [List.getElem?_append_left h]
  have s : ∀ id, id < O.length → σ.upd O.length p id = σ id := fun id h => by unfold Plc.upd; rw [if_neg (by omega)]
  refine ⟨by simp, fun id xs hi hx => ?_, fun id sz xs hi hx => ?_, fun id es hi hx => ?_, fun id es seen hi hx => ?_⟩
  · rw [e id hi] at hx; exact ⟨⟨xs, hx, rfl⟩, s id hi⟩
  · rw [e id hi] at hx; exact ⟨xs, hx, .inl ⟨rfl, s id hi⟩⟩
  · rw [e id hi] at hx; exact ⟨⟨es, hx⟩, s id hi⟩
  · rw [e id hi] at hx; exact ⟨⟨es, seen, hx⟩, s id hi⟩

/-- A block that nobody owns becomes an object. -/
theorem RA.adopt {c K σ O w} (h : RA c K σ O w) {b cap : Nat} {o : AObj} (hn : c.w.heap.size ≤ b) (ho : ¬ owns O σ b)
    (hr : RObj K (σ.upd O.length (b, cap)) (O ++ [o]) w O.length (some o)) : RA c K (σ.upd O.length (b, cap)) (O ++ [o]) w := by
  have hc := Compat.append O σ o (b, cap)
  have e : ∀ id, id < O.length → (O ++ [o])[id]? = O[id]? := fun id h => by rw [List.getElem?_append_left h]
  have s : ∀ id, id < O.length → σ.upd O.length (b, cap) id = σ id := fun id h => by unfold Plc.upd; rw [if_neg (by omega)]
  have sn : σ.upd O.length (b, cap) O.length = (b, cap) := by unfold Plc.upd; rw [if_pos rfl]
  have hal : ∀ id, AObj.alive (O ++ [o])[id]? → (id < O.length ∧ AObj.alive O[id]?) ∨ id = O.length := fun id ha => by
    rcases Nat.lt_or_ge id O.length with h1 | h1
    · rw [e id h1] at ha; exact .inl ⟨h1, ha⟩
    · have := alive_lt ha; simp at this; exact .inr (by omega)
  refine ⟨h.os, h.tape, h.output, h.size, h.cons, fun id => ?_, fun i j hi hj hij => ?_, h.frame, fun id ha => ?_, h.le, h.new, h.comp.trans hc⟩
  · rcases Nat.lt_or_ge id O.length with h1 | h1
    · rw [e id h1]
      exact (h.objs id).mono (fun _ _ r => r.mono (fun _ _ h => h) hc) (s id h1) (fun _ h => h) (fun _ => rfl) fun _ _ h => h
    · rcases Nat.lt_or_ge O.length id with h2 | h2
      · rw [List.getElem?_eq_none (by simp; omega)]; trivial
      · obtain rfl : id = O.length := by omega
        simpa using hr
  · rcases hal i hi with ⟨hi1, hi2⟩ | rfl <;> rcases hal j hj with ⟨hj1, hj2⟩ | rfl
    · rw [s i hi1, s j hj1] at hij; exact h.inj i j hi2 hj2 hij
    · rw [s i hi1, sn] at hij; exact (ho ⟨i, hi2, hij⟩).elim
    · rw [s j hj1, sn] at hij; exact (ho ⟨j, hj2, hij.symm⟩).elim
    · rfl
  · rcases hal id ha with ⟨h1, h2⟩ | rfl
    · rw [s id h1]; exact h.own id h2
    · rw [sn]; exact .inr hn

theorem not_owned_of_new {c K σ O w} (h : RA c K σ O w) : ¬ owns O σ w.heap.size := by
  rintro ⟨id, ha, e⟩
  have := h.owned_lt ha
  omega

theorem Compat.set {O : List AObj} {σ σ' : Plc} {id : Nat} {o o' : AObj} (ho : O[id]? = some o) (hσ : ∀ j, j ≠ id → σ' j = σ j)
    (hb : ∀ xs', o' = .box xs' → (∃ xs, o = .box xs ∧ xs'.length = xs.length) ∧ σ' id = σ id)
    (hu : ∀ sz xs', o' = .buf sz xs' → ∃ xs, o = .buf sz xs ∧ ((xs'.length = xs.length ∧ σ' id = σ id) ∨ xs.length < xs'.length))
    (hm : ∀ es', o' = .omap es' → (∃ es, o = .omap es) ∧ σ' id = σ id)
    (hi : ∀ es' seen', o' = .iter es' seen' → (∃ es seen, o = .iter es seen) ∧ σ' id = σ id := by intro _ _ e; cases e) : Compat O σ (O.set id o') σ' := by
  have hlt : id < O.length := by
    rcases Nat.lt_or_ge id O.length with h1 | h1
    · exact h1
    · rw [List.getElem?_eq_none h1] at ho; cases ho
  refine ⟨by simp, fun j xs hi hx => ?_, fun j sz xs hi hx => ?_, fun j es hi hx => ?_, fun j es seen hlt2 hx => ?_⟩ <;> rw [List.getElem?_set] at hx <;> by_cases hj : id = j
  · subst hj; simp [hlt] at hx
    obtain ⟨⟨y, hy, e0⟩, e⟩ := hb xs hx
    exact ⟨⟨y, hy ▸ ho, e0⟩, e⟩
  · rw [if_neg hj] at hx; exact ⟨⟨xs, hx, rfl⟩, hσ j (Ne.symm hj)⟩
  · subst hj; simp [hlt] at hx
    obtain ⟨y, hy, e⟩ := hu sz xs hx
    exact ⟨y, hy ▸ ho, e⟩
  · rw [if_neg hj] at hx; exact ⟨xs, hx, .inl ⟨rfl, hσ j (Ne.symm hj)⟩⟩
  · subst hj; simp [hlt] at hx
    obtain ⟨⟨y, hy⟩, e⟩ := hm es hx
    exact ⟨⟨y, hy ▸ ho⟩, e⟩
  · rw [if_neg hj] at hx; exact ⟨⟨es, hx⟩, hσ j (Ne.symm hj)⟩
  · subst hj; simp [hlt] at hx
    obtain ⟨⟨y, u, hy⟩, e⟩ := hi es seen hx
    exact ⟨⟨y, u, hy ▸ ho⟩, e⟩
  · rw [if_neg hj] at hx; exact ⟨⟨es, seen, hx⟩, hσ j (Ne.symm hj)⟩

/-- The object id turns: its own block is written, or it moves into a new one; nothing else in memory turns but for the new block. -/
theorem RA.set {c K σ O w} (h : RA c K σ O w) {id : Nat} {o o' : AObj} (ho : O[id]? = some o) (ha : AObj.alive (some o)) {w' : World} {p : Nat × Nat}
    (hp : p.1 = (σ id).1 ∨ p.1 = w.heap.size) (hos : w'.os = w.os) (ht : w'.tape = w.tape) (hout : w'.output = w.output) (hsz : w.heap.size ≤ w'.heap.size)
    (hw : ∀ b, b < w.heap.size → b ≠ (σ id).1 → w'.heap[b]? = w.heap[b]?)
    (hc : Compat O σ (O.set id o') (σ.upd id p))
    (hr : RObj K (σ.upd id p) (O.set id o') w' id (some o')) : RA c K (σ.upd id p) (O.set id o') w' := by
  have hlt : id < O.length := by
    rcases Nat.lt_or_ge id O.length with h1 | h1
    · exact h1
    · rw [List.getElem?_eq_none h1] at ho; cases ho
  have hal : AObj.alive O[id]? := by rw [ho]; exact ha
  have s : ∀ j, j ≠ id → σ.upd id p j = σ j := fun j hj => by unfold Plc.upd; rw [if_neg hj]
  have sn : σ.upd id p id = p := by unfold Plc.upd; rw [if_pos rfl]
  have e : ∀ j, j ≠ id → (O.set id o')[j]? = O[j]? := fun j hj => by rw [List.getElem?_set, if_neg (Ne.symm hj)]
  have en : (O.set id o')[id]? = some o' := by rw [List.getElem?_set]; simp [hlt]
  have hkn : K (σ id).1 = none := ((h.objs id).block hal).1
  refine ⟨hos.trans h.os, ht.trans h.tape, hout.trans h.output, Nat.le_trans h.size hsz, fun b ob hk => ?_, fun j => ?_, fun i j hi hj hij => ?_, fun b hb hn => ?_, fun j hj => ?_,
    h.le, h.new, h.comp.trans hc⟩
  · have h1 := h.cons b ob hk
    have hb : b < w.heap.size := by
      rcases Nat.lt_or_ge b w.heap.size with h2 | h2
      · exact h2
      · rw [Array.getElem?_eq_none h2] at h1; cases h1
    rw [hw b hb (fun e => by subst e; rw [hkn] at hk; cases hk)]; exact h1
  · by_cases hj : j = id
    · subst hj; rw [en]; exact hr
    · rw [e j hj]
      refine (h.objs j).mono (fun _ _ r => r.mono (fun _ _ h => h) hc) (s j hj) (fun _ h => h) (fun hja => ?_) fun _ _ h => h
      exact hw _ (h.owned_lt hja) (fun e => hj (h.inj j id hja hal e))
  · by_cases hi' : i = id <;> by_cases hj' : j = id
    · rw [hi', hj']
    · subst hi'; rw [sn, s j hj'] at hij; rw [e j hj'] at hj
      rcases hp with hp | hp
      · rw [hp] at hij; exact h.inj _ _ hal hj hij
      · rw [hp] at hij; have := h.owned_lt hj; omega
    · subst hj'; rw [sn, s i hi'] at hij; rw [e i hi'] at hi
      rcases hp with hp | hp
      · rw [hp] at hij; exact h.inj _ _ hi hal hij
      · rw [hp] at hij; have := h.owned_lt hi; omega
    · rw [s i hi', s j hj'] at hij; rw [e i hi'] at hi; rw [e j hj'] at hj; exact h.inj _ _ hi hj hij
  · rw [hw b (Nat.lt_of_lt_of_le hb h.size) ?_, h.frame b hb hn]
    intro hbe
    rcases h.own id hal with h1 | h1
    · exact hn (hbe ▸ h1)
    · rw [← hbe] at h1; omega
  · by_cases hj' : j = id
    · subst hj'; rw [sn]
      rcases hp with hp | hp
      · rw [hp]; exact h.own _ hal
      · rw [hp]; exact .inr h.size
    · rw [s j hj']; rw [e j hj'] at hj; exact h.own j hj

/-- An object is given up. -/
theorem RA.kill {c K σ O w} (h : RA c K σ O w) (id : Nat) : RA c K σ (O.set id .dead) w ∧ Compat O σ (O.set id .dead) σ := by
  have hc : Compat O σ (O.set id .dead) σ := by
    cases ho : O[id]? with
    | none =>
      have : O.set id .dead = O := by
        apply List.ext_getElem?; intro j
        rw [List.getElem?_set]
        split
        · rename_i e; subst e
          rcases Nat.lt_or_ge id O.length with h1 | h1
          · rw [List.getElem?_eq_getElem h1] at ho; cases ho
          · rw [if_neg (by omega)]; exact ho.symm
        · rfl
      rw [this]; exact Compat.refl _ _
    | some o => exact Compat.set ho (fun _ _ => rfl) (fun _ h => by cases h) (fun _ _ h => by cases h) (fun _ h => by cases h)
  have hal : ∀ j, AObj.alive (O.set id .dead)[j]? → AObj.alive O[j]? ∧ j ≠ id := fun j hj => by
    rw [List.getElem?_set] at hj
    split at hj
    · split at hj <;> exact hj.elim
    · rename_i h; exact ⟨hj, fun e => h e.symm⟩
  refine ⟨⟨h.os, h.tape, h.output, h.size, h.cons, fun j => ?_, fun i j hi hj => h.inj i j (hal i hi).1 (hal j hj).1, h.frame, fun j hj => h.own j (hal j hj).1, h.le, h.new, h.comp.trans hc⟩, hc⟩
  by_cases hj : id = j
  · subst hj; rw [List.getElem?_set]; simp only [if_true]; split <;> trivial
  · rw [List.getElem?_set, if_neg hj]
    exact (h.objs j).mono (fun _ _ r => r.mono (fun _ _ h => h) hc) rfl (fun _ h => h) (fun _ => rfl) fun _ _ h => h
end Go.Aw
namespace Go.Aw

theorem cell_of {w : World} {b : Nat} {arr : Array Value} {t : TypeId} {fr : Nat × Nat} (h : w.heap[b]? = some (.cells arr t fr)) (o : Nat) :
    w.cell? ⟨b, o, none⟩ = arr[o]? := by simp [World.cell?, h]
theorem frozen_of {w : World} {b : Nat} {arr : Array Value} {t : TypeId} {fr : Nat × Nat} (h : w.heap[b]? = some (.cells arr t fr)) (hf : freeAll arr fr) {o : Nat} (ho : o < arr.size) :
    w.frozen? ⟨b, o, none⟩ = false := by
  have := hf o ho
  obtain ⟨lo, hi⟩ := fr
  simp only [World.frozen?, h]
  by_cases h1 : lo ≤ o <;> simp_all <;> omega
theorem add_at (b o n : Nat) : (⟨b, o, none⟩ : Addr).add n = ⟨b, o + n, none⟩ := by
  unfold Addr.add; split
  · rename_i h; subst h; rfl
  · rfl

theorem run_loadCellsFrom (P : Program) (w : World) (a : Addr) (u : Nat → Value) : ∀ (n i : Nat) (acc : Array Value), (∀ j, i ≤ j → j < i + n → w.cell? (a.add j) = some (u j)) →
    (loadCellsFrom a i n acc).run P w = .ok (acc ++ ((List.range' i n).map u).toArray) w
  | 0, i, acc, _ => by simp [loadCellsFrom]
  | n + 1, i, acc, h => by
    have h0 := h i (Nat.le_refl _) (by omega)
    simp only [loadCellsFrom, Sem.run_bind, run_load, h0, Result.andThen_ok]
    rw [run_loadCellsFrom P w a u n (i + 1) _ (fun j h1 h2 => h j (by omega) (by omega))]
    simp [List.range'_succ]
theorem run_loadCells {P : Program} {w : World} {a : Addr} {n : Nat} (u : Nat → Value) (h : ∀ j, j < n → w.cell? (a.add j) = some (u j)) :
    (loadCells a n).run P w = .ok ((List.range n).map u).toArray w := by
  unfold loadCells
  rw [run_loadCellsFrom P w a u n 0 #[] (fun j _ h2 => h j (by omega))]
  simp [List.range_eq_range']

/-- Cells written one behind the other. -/
def splice {α : Type} (xs : List α) (o : Nat) : List α → List α
  | [] => xs
  | y :: ys => splice (xs.set o y) (o + 1) ys
theorem splice_length {α : Type} (ys : List α) : ∀ (xs : List α) (o : Nat), (splice xs o ys).length = xs.length := by
  induction ys with
  | nil => intro xs o; rfl
  | cons y ys ih => intro xs o; simp [splice, ih]
theorem splice_get {α : Type} (ys : List α) : ∀ (xs : List α) (o j : Nat), o + ys.length ≤ xs.length →
    (splice xs o ys)[j]? = if o ≤ j ∧ j < o + ys.length then ys[j - o]? else xs[j]? := by
  induction ys with
  | nil => intro xs o j _; simp only [splice, List.length_nil]; rw [if_neg (by omega)]
  | cons y ys ih =>
    intro xs o j h
    simp only [List.length_cons] at h
    simp only [splice, List.length_cons]
    rw [ih _ _ _ (by simp; omega), List.getElem?_set]
    by_cases h1 : o + 1 ≤ j ∧ j < o + 1 + ys.length
    · rw [if_pos h1, if_pos (by omega)]
      obtain ⟨m, rfl⟩ : ∃ m, j = o + 1 + m := ⟨j - (o + 1), by omega⟩
      rw [show o + 1 + m - (o + 1) = m by omega, show o + 1 + m - o = m + 1 by omega]; rfl
    · rw [if_neg h1]
      by_cases h2 : o = j
      · subst h2; rw [if_pos rfl, if_pos (by omega), if_pos (by omega)]; simp
      · rw [if_neg h2, if_neg (by omega)]

theorem modify_eq {α : Type} (xs : Array α) (b : Nat) (g : α → α) {x : α} (h : xs[b]? = some x) : xs.modify b g = xs.setIfInBounds b (g x) := by
  apply Array.ext_getElem?; intro j
  rw [Array.getElem?_modify, Array.getElem?_setIfInBounds]
  by_cases hj : b = j
  · subst hj; simp only [if_true, h, Option.map_some]
    have : b < xs.size := by
      rcases Nat.lt_or_ge b xs.size with h1 | h1
      · exact h1
      · rw [Array.getElem?_eq_none h1] at h; cases h
    rw [if_pos this]
  · simp [hj]

/-- A block written anew. -/
def setBlk (w : World) (b : Nat) (o : Obj) : World := { w with heap := w.heap.setIfInBounds b o }

theorem lt_of_some {α : Type} {xs : Array α} {b : Nat} {x : α} (h : xs[b]? = some x) : b < xs.size := by
  rcases Nat.lt_or_ge b xs.size with h1 | h1
  · exact h1
  · rw [Array.getElem?_eq_none h1] at h; cases h

theorem run_storeCells (P : Program) (b : Nat) (t : TypeId) (fr : Nat × Nat) : ∀ (vs : List Value) (w : World) (arr : Array Value) (o i : Nat),
    w.heap[b]? = some (.cells arr t fr) → freeAll arr fr → o + i + vs.length ≤ arr.size → (∀ v ∈ vs, v.oneCell' = true) →
    (storeCells ⟨b, o, none⟩ vs i).run P w = .ok () (setBlk w b (.cells (splice arr.toList (o + i) vs).toArray t fr))
  | [], w, arr, o, i, h, _, _, _ => by
    simp only [storeCells, Sem.run_pure, splice, setBlk]
    congr 1
    have : w.heap.setIfInBounds b (.cells arr t fr) = w.heap := by
      apply Array.ext_getElem?; intro j
      rw [Array.getElem?_setIfInBounds]
      by_cases hj : b = j
      · subst hj; rw [if_pos rfl, if_pos (lt_of_some h)]; exact h.symm
      · rw [if_neg hj]
    simp [this]
  | v :: vs, w, arr, o, i, h, hf, hl, hv => by
    simp only [List.length_cons] at hl
    have hlt : o + i < arr.size := by omega
    have hc : w.cell? ⟨b, o + i, none⟩ = some arr[o + i] := by rw [cell_of h, Array.getElem?_eq_getElem hlt]
    have hfz := frozen_of h hf hlt
    have hset : w.setCell ⟨b, o + i, none⟩ v = setBlk w b (.cells (arr.setIfInBounds (o + i) v) t fr) := by
      unfold World.setCell setBlk
      rw [modify_eq _ _ _ h]; rfl
    simp only [storeCells, Sem.run_bind, add_at, run_store P w _ v _ (hv v (by simp)), hc, hfz, Result.andThen_ok, Bool.false_eq_true, if_false]
    rw [hset]
    have hb : (setBlk w b (.cells (arr.setIfInBounds (o + i) v) t fr)).heap[b]? = some (.cells (arr.setIfInBounds (o + i) v) t fr) := by
      simp [setBlk, lt_of_some h]
    rw [run_storeCells P b t fr vs _ _ o (i + 1) hb (fun j hj => hf j (by simpa using hj)) (by simp; omega) (fun x hx => hv x (by simp [hx]))]
    simp only [splice, setBlk]
    congr 2
    apply Array.ext_getElem?; intro j
    simp only [Array.getElem?_setIfInBounds, Array.size_setIfInBounds, Nat.add_assoc, Array.toList_setIfInBounds]
    by_cases hj : b = j
    · subst hj; simp
    · simp [hj]

/-- What kind of type a type is: what the operations ask of it. -/
inductive TK where
  | struct (fs : List (Nat × Nat × Bool))
  | arr (n e : Nat)
  | slice (e : Nat)
  | str
  | map (k e : Nat)
  | ptr (e : Nat)
  | int (k : IntKind)
  | bool
  | iface
  | func
  | aggr
  | other
  deriving DecidableEq, Repr

def aggB (P : Program) (t : TypeId) : Bool := match P.underlying t with | some (.struct _) | some (.array _ _) => true | _ => false
def fldsOk (P : Program) (fs : Array Field) : Bool := fs.toList.all fun f => (P.info? f.type).isSome && (P.underlying f.type).isSome
def tk (P : Program) (t : TypeId) : Option TK := (P.underlying t).map fun
  | .struct fs => if fldsOk P fs then .struct (fs.toList.map fun f => (f.offset, P.cellsOf f.type, aggB P f.type)) else .aggr
  | .array n e => .arr n e
  | .slice e => .slice e
  | .string => .str
  | .map k e => .map k e
  | .pointer e => .ptr e
  | .int k => .int k
  | .bool => .bool
  | .interface _ => .iface
  | .func _ _ _ => .func
  | _ => .other
def szT (P : Program) (t : TypeId) : Option Nat := (P.info? t).map (·.size)
def byT (P : Program) (t : TypeId) : Option Nat := (P.info? t).map (·.bytes)
def zeT (P : Program) (t : TypeId) : Option (List AV) := (P.info? t).bind fun i => i.zero.map fun v => v.cells.toList.map ofV
def agT : TK → Bool | .struct _ | .arr _ _ | .aggr => true | _ => false

section types
variable {P : Program} {t : TypeId} {w : World}
theorem run_underlying {d : TypeDesc} (h : P.underlying t = some d) : (underlying t).run P w = .ok d w := by simp [underlying, h]
theorem run_isAgg {k : TK} (h : tk P t = some k) : (isAgg t).run P w = .ok (agT k) w := by
  unfold tk at h
  cases hu : P.underlying t with
  | none => rw [hu] at h; cases h
  | some d =>
    rw [hu] at h
    simp only [Option.map_some, Option.some.injEq] at h
    simp only [isAgg, Sem.run_bind, run_underlying hu, Result.andThen_ok]
    subst h
    cases d <;> first | rfl | (dsimp only; split <;> rfl)
theorem run_sizeOf {n : Nat} (h : szT P t = some n) : (sizeOf t).run P w = .ok n w := by
  unfold szT at h
  cases hi : P.info? t with
  | none => rw [hi] at h; cases h
  | some i => rw [hi] at h; simp at h; simp [sizeOf, typeInfo, hi, h]
theorem cellsOf_sz {n : Nat} (h : szT P t = some n) : P.cellsOf t = n := by
  unfold szT at h; unfold Program.cellsOf; rw [h]; rfl
theorem run_typeInfo_bytes {n : Nat} (h : byT P t = some n) : ∃ i, (typeInfo t).run P w = .ok i w ∧ i.bytes = n := by
  unfold byT at h
  cases hi : P.info? t with
  | none => rw [hi] at h; cases h
  | some i => rw [hi] at h; simp at h; exact ⟨i, by simp [typeInfo, hi], h⟩
theorem run_zeroValue {xs : List AV} (h : zeT P t = some xs) : ∃ v, (zeroValue t).run P w = .ok v w ∧ v.cells.size = xs.length ∧
    ∀ K σ O i (hi : i < xs.length), Rep K σ O (v.cells.getD i undef) xs[i] := by
  unfold zeT at h
  cases hi : P.info? t with
  | none => rw [hi] at h; cases h
  | some i =>
    rw [hi] at h
    simp only [Option.bind_some, Option.map_eq_some_iff] at h
    obtain ⟨v, hv, hx⟩ := h
    refine ⟨v, by simp [zeroValue, typeInfo, hi, hv], by rw [← hx]; simp, fun K σ O j hj => ?_⟩
    subst hx
    have hj' : j < v.cells.size := by simpa using hj
    have : v.cells.getD j undef = v.cells[j] := by simp [hj']
    rw [this]
    simpa using Rep.ofV (K := K) (σ := σ) (O := O) v.cells[j]
end types
end Go.Aw
