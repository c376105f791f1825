/- Contracts of functions that only make memory; how they are used; loops; what may be forgotten. Loops, and what may be forgotten. The evaluator's goals, to be brought to normal form by `cbv`. -/
import Derived.Test.YtikllkldhnncnaaGreatDoorAf
set_option linter.all false
namespace Go.Aw
open Go.RowKit (Below)

def σ0 : Plc := fun _ => (0, 0)
/-- What is known behind a call: what was known, and all that is new. -/
def ext (K : Sto) (w w' : World) : Sto := fun b => if b < w.heap.size then K b else w'.heap[b]?
/-- The function gives r, and turns nothing that was there. -/
def Pure (P : Program) (f : FuncId) (args : List AV) (r : AV) : Prop :=
  callable P f ∧ ∀ (K : Sto) (w : World) (vs : Array Value), (∀ b o, K b = some o → w.heap[b]? = some o) → vs.size = args.length →
    (∀ i (h : i < args.length), Rep K σ0 [] (vs.getD i undef) args[i]) → Calls P f vs w fun e w' => ∃ v, e = .returned v ∧ Below w.heap.size w w' ∧ Rep (ext K w w') σ0 [] v r

section
variable {P : Program} {f : FuncId} {fn : Func} {n : Nat} {O0 : List AObj} {Q : AV → List AObj → Prop}

/-- Nil rows and whole rows are rows. -/
def norm1 : AV → AV
  | .full xs => .seq xs
  | .lit (.slice none 0 _) => .seq []
  | x => x
theorem Rep.norm {K σ O} {v : Value} {x : AV} (h : Rep K σ O v x) : Rep K σ O v (norm1 x) := by
  unfold norm1
  split
  · cases h with
    | full xs a sz u h1 h2 h3 h4 =>
      exact .seq _ (some a) _ sz u h1 (fun hne => by obtain ⟨b, o, arr, t, fr, rfl, hb, hc⟩ := h2 hne; exact ⟨b, o, arr, t, fr, rfl, hb, hc⟩) h3 (Nat.le_refl _) h4
  · rename_i cap
    obtain rfl := h.litv
    exact .seq [] none cap 0 (fun _ _ => undef) (by simp) (fun h => (h rfl).elim) (by simp) (Nat.zero_le _) (fun i hi => by simp at hi)
  · exact h

def closedA : AV → Bool
  | .agg xs => xs.all closed1
  | x => closed1 x
theorem Rep.closedA {K σ O} {v : Value} {x : AV} (h : Rep K σ O v x) (hx : closedA x = true) : Rep K σ [] v x := by
  unfold Aw.closedA at hx
  split at hx
  · cases h with
    | agg xs vs h1 h2 => exact .agg _ _ h1 fun i hi => (h2 i hi).closed (List.all_eq_true.1 hx _ (List.getElem_mem hi))
  · exact h.closed hx
/-- A cell of a result, seen from outside. -/
def shut1 (O : List AObj) (x : AV) : Ev AV :=
  match x with
  | .own id len => match O[id]? with
    | some (.buf _ xs) => .need (len = xs.length ∧ xs.all (fun y => y.all closed1) = true) (.ret (.seq xs))
    | _ => .bad
  | .ptr id off => match O[id]? with
    | some (.box xs) => .need (xs.all closed1 = true) (.ret (.ref xs off))
    | _ => .bad
  | .omap id => match O[id]? with
    | some (.omap es) => .need ((es.all fun e => closed1 e.1 && closedA e.2) = true) (.ret (.mapv es))
    | _ => .bad
  | x => .need (closed1 x = true) (.ret (norm1 x))
def shutL (O : List AObj) : List AV → Ev (List AV)
  | [] => .ret []
  | x :: xs => (shut1 O x).bind fun y => (shutL O xs).bind fun ys => .ret (y :: ys)
def litB : AV → Bool
  | .lit _ => true
  | _ => false
def shut2 (O : List AObj) (x : AV) : Ev AV :=
  match x with
  | .agg xs => if xs.all litB then .ret (.agg xs) else (shutL O xs).bind fun ys => .ret (.agg ys)
  | x => shut1 O x
def shutM (O : List AObj) : List AV → Ev (List AV)
  | [] => .ret []
  | x :: xs => (shut2 O x).bind fun y => (shutM O xs).bind fun ys => .ret (y :: ys)
/-- A result, seen from outside. -/
def shut (O : List AObj) (x : AV) : Ev AV :=
  match x with
  | .tup xs => (shutM O xs).bind fun ys => .ret (.tup ys)
  | x => shut2 O x

/-- From what is known inside to what is known outside. -/
structure Outer (K : Sto) (σ : Plc) (O : List AObj) (w : World) (E : Sto) : Prop where
  le : ∀ b o, K b = some o → E b = some o
  objs : ∀ id, RObj K σ O w id O[id]?
  new : ∀ id, AObj.alive O[id]? → E (σ id).1 = w.heap[(σ id).1]?
theorem shut1_ok {K σ O w E} (h : Outer K σ O w E) {v : Value} {x : AV} (hv : Rep K σ O v x) {Q : AV → Prop} (hq : (shut1 O x).holds Q) : ∃ y, Q y ∧ Rep E σ0 [] v y := by
  unfold shut1 at hq
  split at hq
  · rename_i id len
    split at hq
    · rename_i sz xs ho
      obtain ⟨⟨hl, hc⟩, hq⟩ := hq
      have h1 := h.objs id
      have h2 := h.new id (by rw [ho]; trivial)
      rw [ho] at h1
      obtain ⟨_, arr, t, fr, hb, _, hs, hcap, hlim, hsz, hr⟩ := h1
      cases hv with
      | own _ _ _ g1 g2 g3 =>
        obtain rfl := (g3 _ _ ho).2 hl
        refine ⟨_, hq, ?_⟩
        subst hl
        refine .seq xs _ _ sz (fun i j => arr.getD (i * sz + j) undef) hsz (fun _ => ⟨(σ id).1, 0, arr, t, fr, rfl, by rw [h2]; exact hb, fun i j hi hj => ?_⟩) hlim hcap (fun i hi j hj => ?_)
        · have h4 : (i + 1) * sz ≤ (σ id).2 * sz := Nat.mul_le_mul_right _ (by omega)
          rw [Nat.add_mul] at h4
          have : i * sz + j < arr.size := by omega
          simp [this]
        · have hcl := List.all_eq_true.1 (List.all_eq_true.1 hc _ (List.getElem_mem hi)) _ (List.getElem_mem hj)
          exact ((hr i hi j hj).closed hcl).mono h.le (.nil _ _ _)
    · exact hq.elim
  · rename_i id off
    split at hq
    · rename_i xs ho
      obtain ⟨hc, hq⟩ := hq
      have h1 := h.objs id
      have h2 := h.new id (by rw [ho]; trivial)
      rw [ho] at h1
      obtain ⟨_, arr, t, fr, hb, _, hs, hr⟩ := h1
      cases hv with
      | ptr _ _ _ g1 g2 g3 =>
        obtain rfl := g3 _ ho
        refine ⟨_, hq, ?_⟩
        have := Rep.ref (K := E) (σ := σ0) (O := []) xs off (σ id).1 0 arr t fr (fun i => arr.getD i undef) (by rw [h2]; exact hb) (fun i hi => by simp [hs, hi])
          (fun i hi => ((hr i hi).closed (List.all_eq_true.1 hc _ (List.getElem_mem hi))).mono h.le (.nil _ _ _))
        simpa using this
    · exact hq.elim
  · rename_i id
    split at hq
    · rename_i es ho
      obtain ⟨hc, hq⟩ := hq
      have h1 := h.objs id
      have h2 := h.new id (by rw [ho]; trivial)
      rw [ho] at h1
      obtain ⟨_, ents, clock, hb, hs, hk, hvl⟩ := h1
      cases hv with
      | omap _ _ g1 g2 g3 =>
        obtain rfl := g3 _ ho
        have hcl : ∀ i (hi : i < es.length), closed1 es[i].1 = true ∧ closedA es[i].2 = true := fun i hi => by
          simpa using List.all_eq_true.1 hc _ (List.getElem_mem hi)
        exact ⟨_, hq, .mapv es _ ents clock (by rw [h2]; exact hb) hs (fun i hi => ((hk i hi).closed (hcl i hi).1).mono h.le (.nil _ _ _)) (fun i hi => ((hvl i hi).closedA (hcl i hi).2).mono h.le (.nil _ _ _))⟩
    · exact hq.elim
  · exact ⟨_, hq.2, ((hv.closed hq.1).norm).mono h.le (.nil _ _ _)⟩
theorem shutL_ok {K σ O w E} (h : Outer K σ O w E) : ∀ (xs : List AV) (vs : List Value), vs.length = xs.length → (∀ i (h : i < xs.length), Rep K σ O (vs.getD i undef) xs[i]) → ∀ {Q : List AV → Prop}, (shutL O xs).holds Q →
    ∃ ys, Q ys ∧ ys.length = xs.length ∧ ∀ i (h : i < ys.length), Rep E σ0 [] (vs.getD i undef) ys[i]
  | [], vs, _, _, Q, hq => ⟨[], hq, rfl, fun i hi => by simp at hi⟩
  | x :: xs, [], hl, _, Q, hq => by simp at hl
  | x :: xs, v :: vs, hl, hr, Q, hq => by
    unfold shutL at hq
    rw [Ev.holds_bind] at hq
    obtain ⟨y, hq, hy⟩ := shut1_ok h (hr 0 (by simp)) hq
    rw [Ev.holds_bind] at hq
    obtain ⟨ys, hq, hl2, hys⟩ := shutL_ok h xs vs (by simpa using hl) (fun i hi => by have := hr (i + 1) (by simp; omega); simpa using this) hq
    refine ⟨_, hq, by simp [hl2], fun i hi => ?_⟩
    cases i with
    | zero => exact hy
    | succ i => have := hys i (by simp at hi; omega); simpa using this
theorem shut2_ok {K σ O w E} (h : Outer K σ O w E) {v : Value} {x : AV} (hv : Rep K σ O v x) {Q : AV → Prop} (hq : (shut2 O x).holds Q) : ∃ y, Q y ∧ Rep E σ0 [] v y := by
  unfold shut2 at hq
  split at hq
  · rename_i xs
    split at hq
    · rename_i hall
      refine ⟨_, hq, ?_⟩
      cases hv with
      | agg _ vs h1 h2 =>
        refine .agg _ vs h1 fun i hi => ?_
        have h3 := h2 i hi
        have h4 := List.all_eq_true.1 hall _ (List.getElem_mem hi)
        generalize xs[i] = y at h3 h4
        cases y <;> first | (simp [litB] at h4) | skip
        exact (h3.closed rfl).mono h.le (.nil _ _ _)
    rw [Ev.holds_bind] at hq
    cases hv with
    | agg _ vs h1 h2 =>
      obtain ⟨ys, hq, hl, hys⟩ := shutL_ok h xs vs.toList (by simpa using h1) (fun i hi => by simpa using h2 i hi) hq
      exact ⟨_, hq, .agg _ _ (by omega) (fun i hi => by simpa using hys i hi)⟩
  · exact shut1_ok h hv hq
theorem shutM_ok {K σ O w E} (h : Outer K σ O w E) : ∀ (xs : List AV) (vs : List Value), vs.length = xs.length → (∀ i (h : i < xs.length), Rep K σ O (vs.getD i undef) xs[i]) → ∀ {Q : List AV → Prop}, (shutM O xs).holds Q →
    ∃ ys, Q ys ∧ ys.length = xs.length ∧ ∀ i (h : i < ys.length), Rep E σ0 [] (vs.getD i undef) ys[i]
  | [], vs, _, _, Q, hq => ⟨[], hq, rfl, fun i hi => by simp at hi⟩
  | x :: xs, [], hl, _, Q, hq => by simp at hl
  | x :: xs, v :: vs, hl, hr, Q, hq => by
    unfold shutM at hq
    rw [Ev.holds_bind] at hq
    obtain ⟨y, hq, hy⟩ := shut2_ok h (hr 0 (by simp)) hq
    rw [Ev.holds_bind] at hq
    obtain ⟨ys, hq, hl2, hys⟩ := shutM_ok h xs vs (by simpa using hl) (fun i hi => by have := hr (i + 1) (by simp; omega); simpa using this) hq
    refine ⟨_, hq, by simp [hl2], fun i hi => ?_⟩
    cases i with
    | zero => exact hy
    | succ i => have := hys i (by simp at hi; omega); simpa using this
theorem shut_ok {K σ O w E} (h : Outer K σ O w E) {v : Value} {x : AV} (hv : Rep K σ O v x) {Q : AV → Prop} (hq : (shut O x).holds Q) : ∃ y, Q y ∧ Rep E σ0 [] v y := by
  unfold shut at hq
  split at hq
  · rename_i xs
    rw [Ev.holds_bind] at hq
    cases hv with
    | tup _ vs h1 h2 =>
      obtain ⟨ys, hq, hl, hys⟩ := shutM_ok h xs vs.toList (by simpa using h1) (fun i hi => by simpa using h2 i hi) hq
      exact ⟨_, hq, .tup _ _ (by omega) (fun i hi => by simpa using hys i hi)⟩
  · exact shut2_ok h hv hq

theorem owns_nil {σ : Plc} {b : Nat} : ¬ owns [] σ b := by
  rintro ⟨id, h, _⟩
  have := alive_lt h
  simp at this
theorem RA.outer {c K σ O w} (h : RA c K σ O w) (hO : c.O = []) : Outer K σ O w (ext c.K c.w w) := by
  refine ⟨fun b o hb => ?_, h.objs, fun id ha => ?_⟩
  · unfold ext
    split
    · rename_i hlt
      rcases h.new b o hb with h1 | h1 | h1
      · exact h1
      · rw [hO] at h1; exact (owns_nil h1).elim
      · omega
    · exact h.cons b o hb
  · unfold ext
    rw [if_neg]
    rcases h.own id ha with h1 | h1
    · rw [hO] at h1; exact (owns_nil h1).elim
    · omega
theorem RA.below {c K σ O w} (h : RA c K σ O w) (hO : c.O = []) : Below c.w.heap.size c.w w :=
  ⟨h.os, h.tape, h.output, h.size, fun b hb => h.frame b hb (by rw [hO]; exact owns_nil)⟩

/-- The arguments in their slots. -/
def initE (i : Nat) : List AV → List (Nat × AV)
  | [] => []
  | x :: xs => (i, x) :: initE (i + 1) xs
theorem get_initE : ∀ (xs : List AV) (i t : Nat), get (initE i xs) t = if i ≤ t then xs.getD (t - i) .any else .any
  | [], i, t => by simp [initE, get]
  | x :: xs, i, t => by
    simp only [initE, get]
    rw [get_initE xs (i + 1) t]
    by_cases h : t = i
    · subst h; simp
    · rw [if_neg h]
      by_cases h2 : i ≤ t
      · rw [if_pos h2, if_pos (by omega)]
        obtain ⟨m, hm⟩ : ∃ m, t - i = m + 1 := ⟨t - i - 1, by omega⟩
        rw [hm, show t - (i + 1) = m by omega]; simp
      · rw [if_neg h2, if_neg (by omega)]

/-- What is known of the lengths of arguments. -/
def smallC : AV → Prop
  | .str s => s.length ≤ LIM
  | .seq xs | .full xs => xs.length ≤ LIM
  | _ => True
def smallL : List AV → Prop
  | [] => True
  | x :: xs => smallC x ∧ smallL xs
def smallA : AV → Prop
  | .agg xs => smallL xs
  | x => smallC x
def smallAs : List AV → Prop
  | [] => True
  | x :: xs => smallA x ∧ smallAs xs
theorem Rep.smallC {K σ O} {v : Value} {x : AV} (h : Rep K σ O v x) : smallC x := by
  cases h <;> first | trivial | assumption
theorem smallL_of {K σ O} : ∀ (xs : List AV) (vs : List Value), (∀ i (h : i < xs.length), Rep K σ O (vs.getD i undef) xs[i]) → smallL xs
  | [], _, _ => trivial
  | x :: xs, [], h => ⟨(h 0 (by simp)).smallC, smallL_of xs [] fun i hi => by have := h (i + 1) (by simp; omega); simpa using this⟩
  | x :: xs, v :: vs, h => ⟨(h 0 (by simp)).smallC, smallL_of xs vs fun i hi => by have := h (i + 1) (by simp; omega); simpa using this⟩
theorem Rep.smallA {K σ O} {v : Value} {x : AV} (h : Rep K σ O v x) : smallA x := by
  unfold Aw.smallA
  split
  · cases h with | agg _ vs h1 h2 => exact smallL_of _ vs.toList fun i hi => by simpa using h2 i hi
  · exact h.smallC
theorem smallAs_of {K σ O} : ∀ (xs : List AV) (vs : List Value), (∀ i (h : i < xs.length), Rep K σ O (vs.getD i undef) xs[i]) → smallAs xs
  | [], _, _ => trivial
  | x :: xs, [], h => ⟨(h 0 (by simp)).smallA, smallAs_of xs [] fun i hi => by have := h (i + 1) (by simp; omega); simpa using this⟩
  | x :: xs, v :: vs, h => ⟨(h 0 (by simp)).smallA, smallAs_of xs vs fun i hi => by have := h (i + 1) (by simp; omega); simpa using this⟩
theorem Pure.of_W {c : Code} {args : List AV} {r : AV} (hf : P.funcs[f]? = some fn) (hb : fn.body = some c) (hname : (fn.name == "runtime.NumGoroutine") = false) (hn : args.length ≤ fn.ntmps)
    (h : smallAs args → W P f fn.ntmps [] [.code c] ⟨initE 0 args, []⟩ fun r' O' => (shut O' r').holds fun y => y = r) : Pure P f args r := by
  refine ⟨⟨fn, hf, hname, by rw [hb]; rfl⟩, fun K w vs hK hvs hr => ?_⟩
  refine Calls_of_Runs hf hb ?_
  have hRA : RA ⟨K, σ0, [], w⟩ K σ0 [] w := .enter hK (fun id => by simp [RObj]) (fun i j hi => by have := alive_lt hi; simp at this)
  have hR : R ⟨K, σ0, [], w⟩ K σ0 ⟨initE 0 args, []⟩ fn.ntmps { tmps := vs ++ Array.replicate (fn.ntmps - vs.size) undef, defers := [] } w := by
    refine ⟨hRA, fun t => ?_, by simp; omega, rfl⟩
    rw [get_initE, if_pos (Nat.zero_le _), Nat.sub_zero]
    by_cases ht : t < args.length
    · have := hr t ht
      have e1 : (vs ++ Array.replicate (fn.ntmps - vs.size) undef).getD t undef = vs.getD t undef := by
        simp only [Array.getD_eq_getD_getElem?, Array.getElem?_append]
        rw [if_pos (by omega)]
      dsimp only
      rw [e1]
      simpa [ht] using this
    · have e2 : args.getD t .any = .any := by simp [List.getElem?_eq_none (show args.length ≤ t by omega)]
      rw [e2]; exact .any _
  have := h (smallAs_of args vs.toList fun i hi => by simpa using hr i hi) ⟨K, σ0, [], w⟩ K σ0 _ w rfl hR
  intro cs
  obtain ⟨e, w', fr, ⟨v, r', K', σ', O', g1, g2, g3, g4⟩, hc⟩ := this cs
  obtain ⟨y, rfl, hy⟩ := shut_ok (g2.outer rfl) g3 g4
  exact ⟨e, w', fr, ⟨v, g1, g2.below rfl, hy⟩, hc⟩

/-- An argument as the callee takes it. -/
def normA : AV → AV
  | .agg xs => .agg (xs.map norm1)
  | x => norm1 x
theorem Rep.normA {K σ O} {v : Value} {x : AV} (h : Rep K σ O v x) : Rep K σ O v (normA x) := by
  unfold Aw.normA
  split
  · cases h with
    | agg xs vs h1 h2 =>
      refine .agg _ _ (by simpa using h1) fun i hi => ?_
      have := (h2 i (by simpa using hi)).norm
      simpa using this
  · exact h.norm
/-- An argument fits a callee's. -/
def fits (x y : AV) : Prop := closedA x = true ∧ (x = y ∨ normA x = y)
def fitsL : List AV → List AV → Prop
  | [], [] => True
  | x :: xs, y :: ys => fits x y ∧ fitsL xs ys
  | _, _ => False
theorem fitsL_ok : ∀ (xs ys : List AV), fitsL xs ys → xs.length = ys.length ∧ ∀ i (h : i < xs.length) (h2 : i < ys.length), fits xs[i] ys[i]
  | [], [], _ => ⟨rfl, fun i h => by simp at h⟩
  | [], _ :: _, h => h.elim
  | _ :: _, [], h => h.elim
  | x :: xs, y :: ys, h => by
    obtain ⟨h1, h2⟩ := fitsL_ok xs ys h.2
    refine ⟨by simp [h1], fun i hi hi2 => ?_⟩
    cases i with
    | zero => exact h.1
    | succ i => exact h2 i (by simpa using hi) (by simpa using hi2)
theorem fits_rep {K σ O} {v : Value} {x y : AV} (h : Rep K σ O v x) (hf : fits x y) : Rep K σ0 [] v y := by
  obtain ⟨h1, rfl | rfl⟩ := hf
  · exact (h.closedA h1).lift
  · exact (h.closedA h1).normA.lift
/-- Behind a call that turns nothing. -/
theorem RA.ext {c K σ O w w'} (h : RA c K σ O w) (hb : Below w.heap.size w w') : RA c (Aw.ext K w w') σ O w' ∧ ∀ b o, K b = some o → (Aw.ext K w w') b = some o := by
  have hlt : ∀ b o, K b = some o → b < w.heap.size := fun b o hk => lt_of_some (h.cons b o hk)
  have hle : ∀ b o, K b = some o → (Aw.ext K w w') b = some o := fun b o hk => by unfold Aw.ext; rw [if_pos (hlt b o hk)]; exact hk
  refine ⟨⟨hb.os.trans h.os, hb.tape.trans h.tape, hb.output.trans h.output, Nat.le_trans h.size hb.size, fun b o hk => ?_, fun id => ?_, h.inj, fun b hlt ho => ?_, h.own,
    fun b o hk => hle b o (h.le b o hk), fun b o hk => ?_, h.comp⟩, hle⟩
  · unfold Aw.ext at hk
    split at hk
    · rename_i hl; rw [hb.block b hl]; exact h.cons b o hk
    · exact hk
  · refine RObj.mono (K := K) (σ := σ) (O := O) (w := w) (fun v x hv => hv.mono hle (Compat.refl _ _)) rfl (fun ha hk => ?_) (fun ha => ?_) (h.objs id) hle
    · unfold Aw.ext; rw [if_pos (h.owned_lt ha)]; exact hk
    · exact hb.block _ (h.owned_lt ha)
  · rw [hb.block b (Nat.lt_of_lt_of_le hlt h.size)]; exact h.frame b hlt ho
  · unfold Aw.ext at hk
    split at hk
    · exact h.new b o hk
    · rename_i hge
      exact .inr (.inr (by have := h.size; omega))
theorem Pure.calls {args args' : List AV} {r : AV} {O : List AObj} (h : Pure P f args r) (ha : fitsL args' args) (hQ : Q r O) : CallsA P f args' O Q := by
  obtain ⟨hl, hfit⟩ := fitsL_ok _ _ ha
  refine ⟨h.1, fun K σ w vs hK hobj hinj hvs hr => ?_⟩
  have hRA : RA ⟨K, σ, O, w⟩ K σ O w := .enter hK hobj hinj
  refine (h.2 K w vs hK (by omega) (fun i hi => fits_rep (hr i (by omega)) (hfit i (by omega) hi))).mono fun e w' ⟨v, g1, g2, g3⟩ => ?_
  have := hRA.ext g2
  exact ⟨v, r, _, σ, O, g1, this.1, g3.lift, hQ⟩
end
end Go.Aw
namespace Go.Aw
section
variable {P : Program} {f : FuncId} {fn : Func} {n : Nat} {O0 : List AObj} {Q : AV → List AObj → Prop} {k : List Item}

/-- Each temporary of env' holds in env what env' says. -/
def subE (env : List (Nat × AV)) : List (Nat × AV) → Prop
  | [] => True
  | (t, x) :: e => get env t = x ∧ subE env e
theorem subE_get {env : List (Nat × AV)} : ∀ {env' : List (Nat × AV)}, subE env env' → ∀ t, get env' t = get env t ∨ get env' t = .any
  | [], _, t => .inr rfl
  | (d, x) :: e, h, t => by
    simp only [get]
    split
    · rename_i he; subst he; exact .inl h.1.symm
    · exact subE_get h.2 t
theorem W.forget {todo : List Item} {env env' : List (Nat × AV)} {O : List AObj} (h : subE env env') (hW : W P f n O0 todo ⟨env', O⟩ Q) : W P f n O0 todo ⟨env, O⟩ Q :=
  fun c K σ a w hO hR => hW c K σ a w hO ⟨hR.mem, fun t => by
    rcases subE_get h t with e | e
    · dsimp only; rw [e]; exact hR.env t
    · dsimp only; rw [e]; exact .any _, hR.size, hR.defers⟩

/-- Only objects below m are led to. -/
def below1 (m : Nat) : AV → Bool
  | .own id _ | .ptr id _ | .sub id _ _ | .pel id _ _ _ | .omap id | .it id => decide (id < m)
  | x => closed1 x
def belowA (m : Nat) : AV → Bool
  | .agg xs => xs.all (below1 m)
  | .tup xs => xs.all (below1 m)
  | .clo _ xs => xs.all (below1 m)
  | x => below1 m x
def belowO (m : Nat) : AObj → Bool
  | .box xs => xs.all (below1 m)
  | .buf _ xs => xs.all fun y => y.all (below1 m)
  | .omap es => es.all fun e => below1 m e.1 && below1 m e.2
  | .iter _ _ => true
  | .dead => true
theorem Rep.below1 {K σ O} {m : Nat} {v : Value} {x : AV} (h : Rep K σ O v x) (hx : below1 m x = true) : Rep K σ (O.take m) v x := by
  have key : ∀ {id : Nat}, id < m → (O.take m)[id]? = O[id]? := fun hid => by rw [List.getElem?_take, if_pos hid]
  have klen : ∀ {id : Nat}, id < O.length → id < m → id < (O.take m).length := fun h1 h2 => by simp; omega
  cases x with
  | own id len =>
    have hid : id < m := by simpa [Aw.below1] using hx
    cases h with | own _ _ _ h1 h2 h3 => exact .own _ _ _ h1 (klen h2 hid) (fun sz xs hy => h3 sz xs (by rw [key hid] at hy; exact hy))
  | ptr id off =>
    have hid : id < m := by simpa [Aw.below1] using hx
    cases h with | ptr _ _ _ h1 h2 h3 => exact .ptr _ _ _ h1 (klen h2 hid) (fun xs hy => h3 xs (by rw [key hid] at hy; exact hy))
  | sub id off n =>
    have hid : id < m := by simpa [Aw.below1] using hx
    cases h with | sub _ _ _ _ h1 h2 h3 => exact .sub _ _ _ _ h1 (klen h2 hid) (fun xs hy => h3 xs (by rw [key hid] at hy; exact hy))
  | pel id len i off =>
    have hid : id < m := by simpa [Aw.below1] using hx
    cases h with | pel _ _ _ _ _ h1 h2 hil h3 => exact .pel _ _ _ _ _ h1 (klen h2 hid) hil (fun sz xs hy => h3 sz xs (by rw [key hid] at hy; exact hy))
  | omap id =>
    have hid : id < m := by simpa [Aw.below1] using hx
    cases h with | omap _ _ h1 h2 h3 => exact .omap _ _ h1 (klen h2 hid) (fun es hy => h3 es (by rw [key hid] at hy; exact hy))
  | it id =>
    have hid : id < m := by simpa [Aw.below1] using hx
    cases h with | it _ _ h1 h2 h3 => exact .it _ _ h1 (klen h2 hid) (fun es seen hy => h3 es seen (by rw [key hid] at hy; exact hy))
  | _ => exact (h.closed hx).lift
theorem Rep.belowA {K σ O} {m : Nat} {v : Value} {x : AV} (h : Rep K σ O v x) (hx : belowA m x = true) : Rep K σ (O.take m) v x := by
  unfold Aw.belowA at hx
  split at hx
  · cases h with | agg xs vs h1 h2 => exact .agg _ _ h1 fun i hi => (h2 i hi).below1 (List.all_eq_true.1 hx _ (List.getElem_mem hi))
  · cases h with | tup xs vs h1 h2 => exact .tup _ _ h1 fun i hi => (h2 i hi).below1 (List.all_eq_true.1 hx _ (List.getElem_mem hi))
  · cases h with | clo _ _ vs h1 h2 => exact .clo _ _ _ h1 fun i hi => (h2 i hi).below1 (List.all_eq_true.1 hx _ (List.getElem_mem hi))
  · exact h.below1 hx
theorem W.pop {todo : List Item} {env : List (Nat × AV)} {O : List AObj} (m : Nat) (hm : O0.length ≤ m) (hm2 : m ≤ O.length) (he : (env.all fun p => belowA m p.2) = true) (ho : ((O.take m).all (belowO m)) = true)
    (hW : W P f n O0 todo ⟨env, O.take m⟩ Q) : W P f n O0 todo ⟨env, O⟩ Q := by
  intro c K σ a w hO hR
  have hgm : ∀ (env : List (Nat × AV)), (env.all fun p => belowA m p.2) = true → ∀ t, belowA m (get env t) = true := by
    intro env
    induction env with
    | nil => intro _ t; rfl
    | cons p e ih =>
      intro h t
      obtain ⟨d, x⟩ := p
      simp only [List.all_cons, Bool.and_eq_true] at h
      simp only [get]
      split
      · exact h.1
      · exact ih h.2 t
  have hget : ∀ id, (O.take m)[id]? = if id < m then O[id]? else none := fun id => by rw [List.getElem?_take]
  have hal : ∀ id, AObj.alive (O.take m)[id]? → id < m ∧ AObj.alive O[id]? := fun id h => by
    rw [hget] at h
    split at h
    · exact ⟨‹_›, h⟩
    · exact h.elim
  refine hW c K σ a w hO ⟨⟨hR.mem.os, hR.mem.tape, hR.mem.output, hR.mem.size, hR.mem.cons, fun id => ?_, fun i j hi hj => hR.mem.inj i j (hal i hi).2 (hal j hj).2, hR.mem.frame, fun id hid => hR.mem.own id (hal id hid).2, hR.mem.le, hR.mem.new, ?_⟩,
    fun t => (hR.env t).belowA (hgm env he t), hR.size, hR.defers⟩
  · have h0 := hR.mem.objs id
    rw [hget]
    split
    · rename_i hid
      have hmem : ∀ o, O[id]? = some o → belowO m o = true := fun o hoo => List.all_eq_true.1 ho o (List.mem_of_getElem? (i := id) (by rw [hget, if_pos hid]; exact hoo))
      cases hoo : O[id]? with
      | none => trivial
      | some o =>
        have hb := hmem o hoo
        dsimp only at h0
        rw [hoo] at h0
        cases o with
        | dead => trivial
        | box xs =>
          obtain ⟨g0, arr, t, fr, g1, g2, g3, g4⟩ := h0
          exact ⟨g0, arr, t, fr, g1, g2, g3, fun i hi => (g4 i hi).below1 (List.all_eq_true.1 hb _ (List.getElem_mem hi))⟩
        | buf sz xs =>
          obtain ⟨g0, arr, t, fr, g1, g2, g3, g4, g5, g6, g7⟩ := h0
          exact ⟨g0, arr, t, fr, g1, g2, g3, g4, g5, g6, fun i hi j hj => (g7 i hi j hj).below1 (List.all_eq_true.1 (List.all_eq_true.1 hb _ (List.getElem_mem hi)) _ (List.getElem_mem hj))⟩
        | omap es =>
          obtain ⟨g0, ents, clock, g1, g2, g3, g4⟩ := h0
          have hb2 : ∀ i (hi : i < es.length), Aw.below1 m es[i].1 = true ∧ Aw.below1 m es[i].2 = true := fun i hi => by
            have := List.all_eq_true.1 hb _ (List.getElem_mem hi)
            simpa using this
          exact ⟨g0, ents, clock, g1, g2, fun i hi => (g3 i hi).below1 (hb2 i hi).1, fun i hi => (g4 i hi).below1 (hb2 i hi).2⟩
        | iter es seen => exact h0
    · trivial
  · have hc := hR.mem.comp
    have hlen : c.O.length ≤ m := by rw [hO]; exact hm
    refine ⟨by have := hc.len; simp; omega, fun id xs' hi hx => ?_, fun id sz xs' hi hx => ?_, fun id es' hi hx => ?_, fun id es' seen' hi hx => ?_⟩ <;> (rw [hget, if_pos (by omega)] at hx)
    · exact hc.box id xs' hi hx
    · exact hc.buf id sz xs' hi hx
    · exact hc.omap id es' hi hx
    · exact hc.iter id es' seen' hi hx

/-- A loop: states S i, a measure that goes down. -/
theorem W.while_ {ι : Type} (μ : ι → Nat) (I : ι → Prop) (S : ι → St) {x : Code}
    (h : ∀ i, I i → (∀ j st, I j → μ j < μ i → st = S j → W P f n O0 (.inLoop x :: k) st Q) → W P f n O0 (.code x :: .inLoop x :: k) (S i) Q) :
    ∀ m i, μ i < m → I i → W P f n O0 (.code x :: .inLoop x :: k) (S i) Q
  | 0, i, hm, _ => (by omega)
  | m + 1, i, hm, hi => h i hi fun j st hj hlt e => by subst e; exact .inLoop (W.while_ μ I S h m j (by omega) hj)
theorem W.loop {ι : Type} (μ : ι → Nat) (I : ι → Prop) (S : ι → St) (i0 : ι) {x : Code} {st : St} (h0 : I i0) (hst : st = S i0)
    (h : ∀ i, I i → (∀ j st, I j → μ j < μ i → st = S j → W P f n O0 (.inLoop x :: k) st Q) → W P f n O0 (.code x :: .inLoop x :: k) (S i) Q) :
    W P f n O0 (.code (.loop x) :: k) st Q := by
  subst hst; exact .loop_ (W.while_ μ I S h _ i0 (Nat.lt_succ_self _) h0)
end
end Go.Aw
namespace Go.Aw

/-- Results of calls, given beforehand. -/
inductive Ans where
  | nil
  | call (r : AV) (k : Ans)

def Need (p q : Prop) : Prop := p ∧ q
def Fork (b : Bool) (p q : Unit → Prop) : Prop := (b = true → p ()) ∧ (b = false → q ())
theorem Fork_true (p q : Unit → Prop) : Fork true p q = p () := by simp [Fork]
theorem Fork_false (p q : Unit → Prop) : Fork false p q = q () := by simp [Fork]
theorem Need_true (q : Prop) : Need True q = q := by simp [Need]
theorem Need.mk {p q : Prop} (h : p) (h2 : q) : Need p q := ⟨h, h2⟩
theorem Fork.mk {b : Bool} {p q : Unit → Prop} (h : b = true → p ()) (h2 : b = false → q ()) : Fork b p q := ⟨h, h2⟩
theorem Fork.mkd {a : Prop} [Decidable a] {p q : Unit → Prop} (h : a → p ()) (h2 : ¬a → q ()) : Fork (decide a) p q := ⟨fun e => h (of_decide_eq_true e), fun e => h2 (of_decide_eq_false e)⟩
theorem Fork.mkn {a : Prop} [Decidable a] {p q : Unit → Prop} (h : ¬a → p ()) (h2 : a → q ()) : Fork (!decide a) p q := ⟨fun e => h (by simpa using e), fun e => h2 (by simpa using e)⟩
theorem Fork.yes {b : Bool} {p q : Unit → Prop} (h : b = true) (h2 : p ()) : Fork b p q := ⟨fun _ => h2, fun h' => by rw [h] at h'; cases h'⟩
theorem Fork.no {b : Bool} {p q : Unit → Prop} (h : b = false) (h2 : q ()) : Fork b p q := ⟨fun h' => (by rw [h] at h'; cases h'), fun _ => h2⟩

def Ev.goal {α : Type} : Ev α → (α → Prop) → Prop
  | .ret a, Q => Q a
  | .need p k, Q => Need p (k.goal Q)
  | .fork b x y, Q => Fork b (fun _ => x.goal Q) (fun _ => y.goal Q)
  | .bad, _ => False
theorem Ev.goal_eq {α : Type} (E : Ev α) (Q : α → Prop) : E.goal Q = E.holds Q := by
  induction E with
  | ret a => rfl
  | need p k ih => simp only [Ev.goal, Ev.holds, Need, ih]
  | fork b x y ihx ihy => simp only [Ev.goal, Ev.holds, Fork, ihx, ihy]
  | bad => rfl

def resL (P : Program) (rs : List ResultVar) (st : St) : Ev AV :=
  match rs with
  | [.tmp t] => .ret (get st.env t)
  | [.cell a t] => loadE P st.objs t (get st.env a)
  | [] => .ret (.tup [])
  | rs => (resA.go P st rs).bind fun xs => .ret (.tup xs)
theorem resL_eq {P : Program} {fn : Func} {rs : List ResultVar} (h : fn.results.toList = rs) (st : St) : resA P fn st = resL P rs st := by
  subst h; rfl

/-- A call whose contract is still to be named. -/
def Call (P : Program) (f n : Nat) (O0 : List AObj) (Q : AV → List AObj → Prop) (ops : Array Oper) (i : Nat) (l : List Oper) (k : List Item) (dst : Option Nat) (st : St) (g : FuncId) (args : List AV) : Prop :=
  CallsA P g args st.objs fun r O' => WL P f n O0 ops i l k ⟨put n st.env dst r, O'⟩ Q

section
variable {P : Program} {f : FuncId} {fn : Func} {n : Nat} {O0 : List AObj} {Q : AV → List AObj → Prop}

theorem fits_norm {x : AV} (h : closedA x = true) : fits x (normA x) := ⟨h, .inr rfl⟩
theorem fitsL_norm : ∀ (xs : List AV), xs.all closedA = true → fitsL xs (xs.map normA)
  | [], _ => trivial
  | x :: xs, h => by
    simp only [List.all_cons, Bool.and_eq_true] at h
    exact ⟨fits_norm h.1, fitsL_norm xs h.2⟩

end

/-- The end of a pure function. -/
def Shut (R : AV → Prop) (r : AV) (O : List AObj) : Prop := (shut O r).goal R
theorem Pure.of {P : Program} {f : FuncId} {fn : Func} {c : Code} {args : List AV} {r : AV} (hf : P.funcs[f]? = some fn) (hb : fn.body = some c) (hname : (fn.name == "runtime.NumGoroutine") = false) {n : Nat} (hn : fn.ntmps = n) (hl : args.length ≤ n)
    (h : smallAs args → ∀ R : AV → Prop, R r → W P f n [] [.code c] ⟨initE 0 args, []⟩ (Shut R)) : Pure P f args r := by
  subst hn
  refine Pure.of_W hf hb hname hl fun hs => ?_
  have := h hs (fun y => y = r) rfl
  have e : Shut (fun y => y = r) = fun r' O' => (shut O' r').holds fun y => y = r := by
    funext r' O'; exact Ev.goal_eq _ _
  rw [← e]; exact this

/-- A state that knows at least as much. -/
def subS (st st' : St) : Prop := subE st.env st'.env ∧ st.objs = st'.objs
section
variable {P : Program} {f : FuncId} {n : Nat} {O0 : List AObj} {Q : AV → List AObj → Prop}
theorem W.sub {todo : List Item} {st st' : St} (h : subS st st') (hW : W P f n O0 todo st' Q) : W P f n O0 todo st Q := by
  obtain ⟨env, O⟩ := st
  obtain ⟨env', O'⟩ := st'
  obtain ⟨h1, h2⟩ := h
  dsimp only at h1 h2
  subst h2
  exact W.forget h1 hW
theorem W.loopS {ι : Type} (μ : ι → Nat) (I : ι → Prop) (S : ι → St) (i0 : ι) {x : Code} {k : List Item} {st : St} (h0 : I i0) (hst : subS st (S i0))
    (h : ∀ i, I i → (∀ j st, I j → μ j < μ i → subS st (S j) → W P f n O0 (.inLoop x :: k) st Q) → W P f n O0 (.code x :: .inLoop x :: k) (S i) Q) :
    W P f n O0 (.code (.loop x) :: k) st Q :=
  W.sub hst (W.loop μ I S i0 h0 rfl fun i hi ih => h i hi fun j st hj hlt hs => W.sub hs (ih j (S j) hj hlt rfl))
end

end Go.Aw
