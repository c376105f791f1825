/- The evaluator's goals, drawn regions among them. Side facts on numbers, as the evaluator leaves them. One step of a range over a map: any entry that was not seen may come. -/
import Derived.Test.YtikllkldhnncnaaGreatDoorAh
set_option linter.all false
namespace Go.Aw
open Region

/-- An operation of a drawn region; results of calls are given beforehand. -/
def opC (P : Program) (a : Ans) (st : St) (o : Op) : Ev (Ans × (AV × List AObj)) :=
  match callOf st.env o with
  | some (v, args) => match calleeOf v, a with
    | some (g, cs), .call r a => .need ((args ++ cs).all closedA = true) (.need (Pure P g ((args ++ cs).map normA) r) (.ret (a, (r, st.objs))))
    | _, _ => .bad
  | none => (opE P st.env st.objs o).bind fun x => .ret (a, x)
def evD (P : Program) (n : Nat) (ops : Array Oper) : List Oper → Ans → St → Ev (Ans × St)
  | [], a, st => .ret (a, st)
  | o :: l, a, st => match o.guard with
    | none => (opC P a st o.op).bind fun x => evD P n ops l x.1 ⟨put n st.env o.dst x.2.1, x.2.2⟩
    | some (j, want) => match (ops[j]?).bind (·.dst) with
      | some d => match get st.env d with
        | .lit (.bool b) =>
          if want then .fork b ((opC P a ⟨(d, .lit (.bool true)) :: st.env, st.objs⟩ o.op).bind fun x => evD P n ops l x.1 ⟨put n ((d, .lit (.bool true)) :: st.env) o.dst x.2.1, x.2.2⟩)
            (evD P n ops l a ⟨put n ((d, .lit (.bool false)) :: st.env) o.dst undefA, st.objs⟩)
          else .fork b (evD P n ops l a ⟨put n ((d, .lit (.bool true)) :: st.env) o.dst undefA, st.objs⟩)
            ((opC P a ⟨(d, .lit (.bool false)) :: st.env, st.objs⟩ o.op).bind fun x => evD P n ops l x.1 ⟨put n ((d, .lit (.bool false)) :: st.env) o.dst x.2.1, x.2.2⟩)
        | .lit (.tuple _) => evD P n ops l a ⟨put n st.env o.dst undefA, st.objs⟩
        | _ => .bad
      | none => .bad

theorem opC_ok {P : Program} {a : Ans} {st : St} {o : Op} {Q : Ans × (AV × List AObj) → Prop} (h : (opC P a st o).holds Q) : ∃ a' x, Q (a', x) ∧ Gives P st o x := by
  unfold opC at h
  split at h
  · rename_i v args hc
    split at h
    · rename_i g cs r a' hg
      obtain ⟨h1, h2, h3⟩ := h
      exact ⟨a', _, h3, by unfold Gives; rw [hc]; exact ⟨g, cs, r, hg, h1, h2, rfl⟩⟩
    · exact h.elim
  · rename_i hc
    rw [Ev.holds_bind] at h
    have key : ∀ E : Ev (AV × List AObj), (E.holds fun x => Q (a, x)) → ∃ x, Q (a, x) ∧ E.holds fun y => y = x := fun E h => by
      induction E with
      | ret x => exact ⟨x, h, rfl⟩
      | need p k ih => obtain ⟨x, h1, h2⟩ := ih h.2; exact ⟨x, h1, h.1, h2⟩
      | fork b u v ihu ihv => cases b with
        | true => obtain ⟨x, h1, h2⟩ := ihu (h.1 rfl); exact ⟨x, h1, fun _ => h2, fun e => by cases e⟩
        | false => obtain ⟨x, h1, h2⟩ := ihv (h.2 rfl); exact ⟨x, h1, (fun e => by cases e), fun _ => h2⟩
      | bad => exact h.elim
    obtain ⟨x, h1, h2⟩ := key _ h
    exact ⟨a, x, h1, by unfold Gives; rw [hc]; exact h2⟩

def like (st st' : St) : Prop := (∀ t, get st.env t = get st'.env t) ∧ st.objs = st'.objs
theorem like_know {st : St} {d : Nat} {b b' : Bool} (hg : get st.env d = .lit (.bool b)) (hb : b = b') : like ⟨(d, .lit (.bool b')) :: st.env, st.objs⟩ st := by
  subst hb
  refine ⟨fun t => ?_, rfl⟩
  simp only [get]
  split
  · rename_i e; subst e; exact hg.symm
  · rfl
section
variable {P : Program} {f : FuncId} {n : Nat} {O0 : List AObj} {Q : AV → List AObj → Prop} {ops : Array Oper} {k : List Item}

theorem evD_ok : ∀ (l : List Oper) (i : Nat) (a : Ans) (st : St) (Q' : Ans × St → Prop), l = ops.toList.drop i → (evD P n ops l a st).holds Q' →
    ∃ sts : Nat → St, like (sts i) st ∧ (∀ j, i ≤ j → j < ops.size → Stp P n ops j (sts j) (sts (j + 1))) ∧ ∃ a' st', Q' (a', st') ∧ like (sts (max i ops.size)) st'
  | [], i, a, st, Q', hl, h => by
    have : ops.size ≤ i := by
      have := congrArg List.length hl; simp at this; omega
    exact ⟨fun _ => st, ⟨fun _ => rfl, rfl⟩, fun j h1 h2 => by omega, a, st, h, ⟨fun _ => rfl, rfl⟩⟩
  | o :: l, i, a, st, Q', hl, h => by
    obtain ⟨ho, hl'⟩ := drop_cons hl
    have hi : i < ops.size := by
      rcases Nat.lt_or_ge i ops.size with h1 | h1
      · exact h1
      · rw [Array.getElem?_eq_none h1] at ho; cases ho
    have glue : ∀ (st1 : St) (x : AV × List AObj) (a' : Ans), like st1 st → ((want1 ops st1.env o = some true ∧ Gives P st1 o.op x) ∨ (want1 ops st1.env o = some false ∧ x = (undefA, st1.objs))) →
        (evD P n ops l a' ⟨put n st1.env o.dst x.1, x.2⟩).holds Q' →
        ∃ sts : Nat → St, like (sts i) st ∧ (∀ j, i ≤ j → j < ops.size → Stp P n ops j (sts j) (sts (j + 1))) ∧ ∃ a' st', Q' (a', st') ∧ like (sts (max i ops.size)) st' := by
      intro st1 x a' hlike hx hev
      obtain ⟨sts, g1, g2, a2, st2, g3, g4⟩ := evD_ok l (i + 1) a' _ Q' hl' hev
      refine ⟨fun j => if j = i then st1 else sts j, by simpa using hlike, fun j h1 h2 => ?_, a2, st2, g3, ?_⟩
      · rcases Nat.eq_or_lt_of_le h1 with rfl | hlt
        · simp only [if_true]
          rw [if_neg (by omega)]
          exact ⟨o, x, ho, g1.1, g1.2, hx⟩
        · dsimp only
          rw [if_neg (by omega), if_neg (by omega)]
          exact g2 j hlt h2
      · have e1 : max i ops.size = ops.size := by omega
        have e2 : max (i + 1) ops.size = ops.size := by omega
        rw [e2] at g4
        dsimp only
        rw [e1, if_neg (by omega)]; exact g4
    unfold evD at h
    split at h
    · rename_i hg
      rw [Ev.holds_bind] at h
      obtain ⟨a', x, h1, h2⟩ := opC_ok h
      exact glue st x a' ⟨fun _ => rfl, rfl⟩ (.inl ⟨by simp [want1, hg], h2⟩) h1
    · rename_i j want hg
      split at h
      · rename_i d hd
        split at h
        · rename_i b hb
          have hwant : ∀ (st' : St) (b' : Bool), get st'.env d = .lit (.bool b') → want1 ops st'.env o = some (b' == want) := fun st' b' h' => by
            simp [want1, hg, hd, h']
          split at h
          · rename_i hwt
            cases b with
            | true =>
              have h := h.1 rfl
              rw [Ev.holds_bind] at h
              obtain ⟨a', x, h1, h2⟩ := opC_ok h
              exact glue ⟨(d, .lit (.bool true)) :: st.env, st.objs⟩ x a' (like_know hb rfl) (.inl ⟨by rw [hwant _ true (by simp [get])]; simp [hwt], h2⟩) h1
            | false =>
              exact glue ⟨(d, .lit (.bool false)) :: st.env, st.objs⟩ (undefA, st.objs) a (like_know hb rfl) (.inr ⟨by rw [hwant _ false (by simp [get])]; simp [hwt], rfl⟩) (h.2 rfl)
          · rename_i hwt
            cases b with
            | true =>
              exact glue ⟨(d, .lit (.bool true)) :: st.env, st.objs⟩ (undefA, st.objs) a (like_know hb rfl) (.inr ⟨by rw [hwant _ true (by simp [get])]; simp [hwt], rfl⟩) (h.1 rfl)
            | false =>
              have h := h.2 rfl
              rw [Ev.holds_bind] at h
              obtain ⟨a', x, h1, h2⟩ := opC_ok h
              exact glue ⟨(d, .lit (.bool false)) :: st.env, st.objs⟩ x a' (like_know hb rfl) (.inl ⟨by rw [hwant _ false (by simp [get])]; simp [hwt], h2⟩) h1
        · rename_i vs hb
          exact glue st (undefA, st.objs) a ⟨fun _ => rfl, rfl⟩ (.inr ⟨by simp [want1, hg, hd, hb], rfl⟩) h
        · exact h.elim
      · exact h.elim

/-- What must come before: one mask for each operation. -/
def maskRow (acc : List Nat) : List Edge → Nat
  | [] => 0
  | e :: es => if binds .any e then 2 ^ e.on ||| (acc.getD e.on 0 ||| maskRow acc es) else maskRow acc es
def masks (acc : List Nat) : List Oper → List Nat
  | [] => acc
  | o :: l => masks (acc ++ [maskRow acc o.after.toList]) l
def rowB (P : Program) (ops : Array Oper) (m : Nat) (b : Oper) : Nat → List Oper → Bool
  | _, [] => true
  | i, a :: l => (!conf P ops a b || m.testBit i) && rowB P ops m b (i + 1) l
def pairsB (P : Program) (ops : Array Oper) (ms : List Nat) : Nat → List Oper → Bool
  | _, [] => true
  | j, b :: l => rowB P ops (ms.getD j 0) b 0 (ops.toList.take j) && pairsB P ops ms (j + 1) l
/-- Does the order not matter? -/
def calmB (P : Program) (ops : Array Oper) : Bool := backB ops && pairsB P ops (masks [] ops.toList) 0 ops.toList

theorem maskRow_ok {acc : List Nat} {j : Nat} {o : Oper} (ho : ops[j]? = some o) (hacc : ∀ i' i, (acc.getD i' 0).testBit i = true → Anc ops i i') : ∀ (es : List Edge), (∀ e ∈ es, e ∈ o.after.toList) → ∀ i, (maskRow acc es).testBit i = true → Anc ops i j
  | [], _, i, h => by simp [maskRow] at h
  | e :: es, he, i, h => by
    unfold maskRow at h
    split at h
    · rename_i hb
      simp only [Nat.testBit_or, Bool.or_eq_true, Nat.testBit_two_pow, decide_eq_true_eq] at h
      rcases h with rfl | h | h
      · exact .base ho (he _ (by simp)) hb
      · exact .step ho (he _ (by simp)) hb (hacc _ _ h)
      · exact maskRow_ok ho hacc es (fun e h => he e (by simp [h])) i h
    · exact maskRow_ok ho hacc es (fun e h => he e (by simp [h])) i h
theorem masks_ok : ∀ (l : List Oper) (acc : List Nat), l = ops.toList.drop acc.length → (∀ i' i, (acc.getD i' 0).testBit i = true → Anc ops i i') → ∀ i' i, ((masks acc l).getD i' 0).testBit i = true → Anc ops i i'
  | [], acc, _, h => h
  | o :: l, acc, hl, h => by
    obtain ⟨ho, hl'⟩ := drop_cons hl
    unfold masks
    refine masks_ok l _ (by simpa using hl') fun i' i hi => ?_
    rcases Nat.lt_trichotomy i' acc.length with hlt | rfl | hgt
    · exact h i' i (by simpa [List.getD_eq_getElem?_getD, List.getElem?_append_left hlt] using hi)
    · exact maskRow_ok ho h _ (fun e h => h) i (by simpa [List.getD_eq_getElem?_getD] using hi)
    · rw [List.getD_eq_getElem?_getD, List.getElem?_eq_none (by simp; omega)] at hi; simp at hi
theorem rowB_ok {m : Nat} {b : Oper} : ∀ (l : List Oper) (i0 : Nat), rowB P ops m b i0 l = true → ∀ i a, l[i]? = some a → conf P ops a b = true → m.testBit (i0 + i) = true
  | [], _, _, i, a, ha, _ => by simp at ha
  | x :: l, i0, h, i, a, ha, hc => by
    simp only [rowB, Bool.and_eq_true, Bool.or_eq_true, Bool.not_eq_true'] at h
    cases i with
    | zero =>
      simp at ha; subst ha
      rcases h.1 with h1 | h1
      · rw [hc] at h1; cases h1
      · simpa using h1
    | succ i =>
      have := rowB_ok l (i0 + 1) h.2 i a (by simpa using ha) hc
      rwa [show i0 + 1 + i = i0 + (i + 1) by omega] at this
theorem pairsB_ok {ms : List Nat} : ∀ (l : List Oper) (j0 : Nat), l = ops.toList.drop j0 → pairsB P ops ms j0 l = true → ∀ i j a b, j0 ≤ j → i < j → ops[i]? = some a → ops[j]? = some b → conf P ops a b = true → (ms.getD j 0).testBit i = true
  | [], j0, hl, _, i, j, a, b, h1, _, _, hb, _ => by
    have := congrArg List.length hl
    simp at this
    rw [Array.getElem?_eq_none (by omega)] at hb; cases hb
  | o :: l, j0, hl, h, i, j, a, b, h1, h2, ha, hb, hc => by
    obtain ⟨ho, hl'⟩ := drop_cons hl
    simp only [pairsB, Bool.and_eq_true] at h
    rcases Nat.eq_or_lt_of_le h1 with rfl | hlt
    · rw [ho] at hb; cases hb
      have := rowB_ok _ 0 h.1 i a (by simp [h2]; simpa using ha) hc
      simpa using this
    · exact pairsB_ok l (j0 + 1) hl' h.2 i j a b hlt h2 ha hb hc

/-- A drawn region. -/
theorem W.drawn (hcalm : calmB P ops = true) {id : Nat} {a : Ans} {st : St} (h : (evD P n ops ops.toList a st).holds fun x => W P f n O0 k x.2 Q) :
    W P f n O0 (.code (.region id ops true) :: k) st Q := by
  simp only [calmB, Bool.and_eq_true] at hcalm
  obtain ⟨sts, g1, g2, a', st', g3, g4⟩ := evD_ok ops.toList 0 a st _ (by simp) h
  have key : ∀ t, W P f n O0 (.inRegion ops (schedule (P.follows .mixedOrders) ops t) :: k) st Q := fun t =>
    perm_ok (sts := sts) (fun j hj => g2 j (Nat.zero_le _) hj)
      (fun i j x y hij hx hy hc => masks_ok ops.toList [] (by simp) (fun i' i h => by simp at h) j i (pairsB_ok ops.toList 0 (by simp) hcalm.2 i j x y (Nat.zero_le _) hij hx hy hc))
      (fun st2 h1 h2 => by
        have e : max 0 ops.size = ops.size := by omega
        rw [e] at g4
        exact W.ext (fun t => (h1 t).trans (g4.1 t)) (h2.trans g4.2) g3)
      (sched_ok hcalm.1 _ t) st
      (fun t => ⟨0, Nat.zero_le _, fun i o _ _ => by simp, (g1.1 t).symm⟩) ⟨0, Nat.zero_le _, fun i o _ _ => by simp, g1.2.symm⟩ (fun i j h => by cases h)
  exact fun c K σ a w hc hR => .region_draw fun t => key t c K σ a _ hc ⟨hR.mem.drawn _, hR.env, hR.size, hR.defers⟩
end
def Calm (P : Program) (ops : Array Oper) : Prop := calmB P ops = true
theorem Need.calm {P : Program} {ops : Array Oper} {q : Prop} (h : calmB P ops = true) (h2 : q) : Need (Calm P ops) q := ⟨h, h2⟩

section
variable (P : Program) (f : FuncId) (n m : Nat) (rs : List ResultVar) (O0 : List AObj) (Q : AV → List AObj → Prop)
/-- The end of a call: what is to be shown of the result and the objects. -/
def Fin (E : Ev AV) (O : List AObj) : Prop := E.goal fun r => Q r O
def Tree.goal (cont : Ans → Tree → Prop) (a : Ans) : Tree → Prop
  | .ret st => Fin Q (resL P rs st) st.objs
  | .call ops i l k dst g args st => match calleeOf g with
    | some (g, cs) => match a with
      | .call r a => Need ((args ++ cs).all closedA = true) (Need (Pure P g ((args ++ cs).map normA) r) (cont a (runR P n (exec P n m) ops i l k ⟨put n st.env dst r, st.objs⟩)))
      | .nil => Call P f n O0 Q ops i l k dst st g (args ++ cs)
    | none => False
  | .stop todo st => match todo with
    | .code (.region _ ops true) :: k => Need (Calm P ops) ((evD P n ops ops.toList a st).goal fun x => cont x.1 (exec P n m k x.2))
    | todo => W P f n O0 todo st Q
  | .need p t => Need p (t.goal cont a)
  | .fork b t u => Fork b (fun _ => (t ()).goal cont a) (fun _ => (u ()).goal cont a)
  | .bad => False
def goalN : Nat → Ans → Tree → Prop
  | 0, _, _ => False
  | j + 1, a, t => t.goal P f n m rs O0 Q (goalN j) a
end

section
variable {P : Program} {f : FuncId} {fn : Func} {n : Nat} {O0 : List AObj} {Q : AV → List AObj → Prop}
theorem goal_ok (hf : P.funcs[f]? = some fn) {rs : List ResultVar} (hrs : fn.results.toList = rs) {m : Nat} {cont : Ans → Tree → Prop} (hc : ∀ a t, cont a t → t.ok P f fn n O0 Q) :
    ∀ (a : Ans) (t : Tree), t.goal P f n m rs O0 Q cont a → t.ok P f fn n O0 Q
  | a, .ret st, h => by
    simp only [Tree.goal, Fin, Ev.goal_eq] at h
    simp only [Tree.ok, resL_eq hrs]
    exact h
  | a, .call ops i l k dst g args st, h => by
    simp only [Tree.goal] at h
    simp only [Tree.ok]
    split at h
    · rename_i g cs hg
      rw [hg]
      cases a with
      | nil => exact h
      | call r a =>
        obtain ⟨h1, h2, h3⟩ := h
        exact h2.calls (fitsL_norm _ h1) (WL.run hf m (hc _ _ h3))
    · exact h.elim
  | a, .stop todo st, h => by
    simp only [Tree.goal] at h
    simp only [Tree.ok]
    split at h
    · obtain ⟨h1, h2⟩ := h
      rw [Ev.goal_eq] at h2
      exact W.drawn h1 (h2.mono fun x hx => exec_ok hf m _ _ (hc _ _ hx))
    · exact h
  | a, .need p t, h => ⟨h.1, goal_ok hf hrs hc a t h.2⟩
  | a, .fork b t u, h => ⟨fun e => goal_ok hf hrs hc a (t ()) (h.1 e), fun e => goal_ok hf hrs hc a (u ()) (h.2 e)⟩
  | a, .bad, h => h
theorem goalN_ok (hf : P.funcs[f]? = some fn) {rs : List ResultVar} (hrs : fn.results.toList = rs) {m : Nat} : ∀ (j : Nat) (a : Ans) (t : Tree), goalN P f n m rs O0 Q j a t → t.ok P f fn n O0 Q
  | 0, _, _, h => h.elim
  | j + 1, a, t, h => goal_ok hf hrs (goalN_ok hf hrs j) a t h
/-- Run on from here. -/
theorem W.run (hf : P.funcs[f]? = some fn) {rs : List ResultVar} (hrs : fn.results.toList = rs) (a : Ans) (todo : List Item) (st : St)
    (h : goalN P f n 400 rs O0 Q 60 a (exec P n 400 todo st)) : W P f n O0 todo st Q :=
  exec_ok hf 400 todo st (goalN_ok hf hrs 60 a _ h)
theorem WL.go (hf : P.funcs[f]? = some fn) {rs : List ResultVar} (hrs : fn.results.toList = rs) (a : Ans) {ops : Array Oper} {i : Nat} {l : List Oper} {k : List Item} {st : St}
    (h : goalN P f n 400 rs O0 Q 60 a (runR P n (exec P n 400) ops i l k st)) : WL P f n O0 ops i l k st Q :=
  WL.run hf 400 (goalN_ok hf hrs 60 a _ h)
end

theorem splice_nil {α : Type} (xs : List α) (o : Nat) : splice xs o [] = xs := rfl
theorem splice_cons {α : Type} (xs : List α) (o : Nat) (y : α) (ys : List α) : splice xs o (y :: ys) = splice (xs.set o y) (o + 1) ys := rfl
theorem splice_all {α : Type} {xs ys : List α} (h : xs.length = ys.length) : splice xs 0 ys = ys := by
  apply List.ext_getElem?
  intro j
  rw [splice_get _ _ _ _ (by omega)]
  split
  · rfl
  · rename_i hj; rw [List.getElem?_eq_none (by omega), List.getElem?_eq_none (by omega)]
theorem beqL (a b : List UInt8) : List.beq a b = (a == b) := rfl
theorem beq_nn : List.beq ([] : List UInt8) [] = true := rfl
theorem beq_nc (a : UInt8) (s : List UInt8) : List.beq [] (a :: s) = false := rfl
theorem beq_cn (a : UInt8) (s : List UInt8) : List.beq (a :: s) [] = false := rfl
theorem beq_cc (a b : UInt8) (s t : List UInt8) : List.beq (a :: s) (b :: t) = (a == b && List.beq s t) := rfl
end Go.Aw
namespace Go.Aw
theorem w64 {n : Int} (h0 : -4611686018427387904 ≤ n) (h1 : n ≤ 4611686018427387904) : IntKind.i64.wrap n = n := by
  simp [IntKind.wrap, IntKind.bits, IntKind.signed]
  omega
theorem wu8 {n : Int} (h0 : 0 ≤ n) (h1 : n ≤ 255) : IntKind.u8.wrap n = n := by
  simp [IntKind.wrap, IntKind.bits, IntKind.signed]
  omega
theorem wu32 {n : Int} (h0 : 0 ≤ n) (h1 : n ≤ 4294967295) : IntKind.u32.wrap n = n := by
  simp [IntKind.wrap, IntKind.bits, IntKind.signed]
  omega
theorem wrap_nat {n : Nat} (h : n ≤ 4611686018427387904) : IntKind.i64.wrap (n : Int) = n := w64 (by omega) (by omega)
theorem tdiv_nn {a b : Int} (h : 0 ≤ a) : a.tdiv b = a / b := Int.tdiv_eq_ediv_of_nonneg h
theorem tmod_nn {a b : Int} (h : 0 ≤ a) : a.tmod b = a % b := Int.tmod_eq_emod_of_nonneg h
theorem small_str {s : List UInt8} {xs : List AV} (h : smallAs (.str s :: xs)) : s.length ≤ 140737488355328 := by
  have := h; simp [smallAs, smallA, smallC, LIM] at this; exact this.1
end Go.Aw
namespace Go.Aw
theorem or_add (a v k : Nat) (h : v < 2 ^ k) : (a * 2 ^ k) ||| v = a * 2 ^ k + v := by
  rw [Nat.mul_comm, Nat.two_pow_add_eq_or_of_lt h]
theorem or64 {x y : Nat} (hx : x < 2 ^ 62) (hy : y < 2 ^ 62) : IntKind.i64.wrap (Int.ofNat (BitVec.ofInt IntKind.i64.bits (x : Int) ||| BitVec.ofInt IntKind.i64.bits (y : Int)).toNat) = ((x ||| y : Nat) : Int) := by
  have h1 : (BitVec.ofInt IntKind.i64.bits (x : Int) ||| BitVec.ofInt IntKind.i64.bits (y : Int)).toNat = x ||| y := by
    show (BitVec.ofInt 64 (x : Int) ||| BitVec.ofInt 64 (y : Int)).toNat = x ||| y
    rw [BitVec.toNat_or, BitVec.ofInt_natCast, BitVec.ofInt_natCast, BitVec.toNat_ofNat, BitVec.toNat_ofNat, Nat.mod_eq_of_lt (by omega), Nat.mod_eq_of_lt (by omega)]
  rw [h1]
  have : x ||| y < 2 ^ 62 := Nat.or_lt_two_pow hx hy
  exact w64 (by simp <;> omega) (by simp <;> omega)
end Go.Aw

namespace Go.Aw
theorem encs_length (s : List UInt8) : (s.map encB).length = s.length := List.length_map ..
theorem encs_byte (s : List UInt8) : (s.map encB).all isByteA = true := by
  simp [List.all_eq_true, isByteA, encB]
theorem encs_back (s : List UInt8) : (s.map encB).map byteA = s := by
  simp [byteA, encB, Function.comp_def]
end Go.Aw
namespace Go.Aw
theorem fdiv_nn {a b : Nat} : (Int.ofNat a).fdiv (b : Int) = ((a / b : Nat) : Int) := by
  rw [Int.ofNat_eq_natCast, Int.fdiv_eq_ediv_of_nonneg _ (by omega)]; simp
theorem encB_of (m : Nat) : encB (UInt8.ofNat m) = [.lit (.int .u8 (IntKind.u8.wrap (m : Int)))] := by
  simp [encB, IntKind.wrap, IntKind.bits, IntKind.signed]
end Go.Aw
namespace Go.Aw
open Go.ChangeMaps (setBlock)
section
variable {P : Program} {f : FuncId} {n : Nat} {O0 : List AObj} {Q : AV → List AObj → Prop}

theorem setIter {K : Sto} {σ : Plc} {O : List AObj} {w : World} {id : Nat} {es : List (AV × AV)} {seen : List Nat} (ho : O[id]? = some (.iter es seen)) {b : Nat} {ents : Array MapEntry} {clock : Nat}
    (g1 : K b = some (.map ents clock)) (g2 : ents.size = es.length ∧ Stamps ents clock)
    (g3 : ∀ i (h : i < es.length), Rep K σ [] (ents.getD i default).key es[i].1) (g4 : ∀ i (h : i < es.length), Rep K σ [] (ents.getD i default).val es[i].2)
    (hb : ∃ x, w.heap[(σ id).1]? = some x) {seen' : List Nat} (g5 : ∀ i ∈ seen', i < es.length) {c : Ctx} (h : RA c K σ O w) :
    RA c K σ (O.set id (.iter es seen')) (setBlock w (σ id).1 (.mapIter (some b) clock (seen'.map fun i => (ents.getD i default).born).toArray clock)) ∧ Compat O σ (O.set id (.iter es seen')) σ := by
  have hid : σ.upd id (σ id) = σ := by funext j; unfold Plc.upd; split <;> simp_all
  have hc : Compat O σ (O.set id (.iter es seen')) σ := Compat.set ho (fun _ _ => rfl) (fun _ e => by cases e) (fun _ _ e => by cases e) (fun _ e => by cases e) (fun _ _ e => ⟨⟨es, seen, rfl⟩, rfl⟩)
  refine ⟨?_, hc⟩
  obtain ⟨x, hx⟩ := hb
  have hlt := lt_of_some hx
  have h0 := h.objs id
  rw [ho] at h0
  obtain ⟨hk, _⟩ := h0
  have := h.set (o' := .iter es seen') ho trivial (w' := setBlock w (σ id).1 (.mapIter (some b) clock (seen'.map fun i => (ents.getD i default).born).toArray clock)) (p := σ id) (.inl rfl) rfl rfl rfl (by simp [setBlock])
    (fun b hlt hne => by simp [setBlock, Ne.symm hne]) (by rw [hid]; exact hc)
    (by
      rw [hid]
      exact ⟨hk, b, ents, clock, g1, g2, g3, g4, g5, by simp [setBlock, hlt]⟩)
  rw [hid] at this; exact this
theorem W.next {ops : Array Oper} {i : Nat} {rest : List Nat} {k : List Item} {o : Oper} {st : St} (ho : ops[i]? = some o) {x : Operand} (hop : o.op = .next x false) (hg : o.guard = none)
    {id : Nat} {es : List (AV × AV)} {seen : List Nat} (hx : evalA st.env x = .it id) (hO : st.objs[id]? = some (.iter es seen))
    (hstep : ∀ j (hj : j < es.length), j ∉ seen → W P f n O0 (.inRegion ops rest :: k) ⟨put n st.env o.dst (.tup [.lit (.bool true), es[j].1, es[j].2]), st.objs.set id (.iter es (seen ++ [j]))⟩ Q)
    (hend : (∀ j, j < es.length → j ∈ seen) → W P f n O0 (.inRegion ops rest :: k) ⟨put n st.env o.dst (.tup [.lit (.bool false)]), st.objs⟩ Q) :
    W P f n O0 (.inRegion ops (i :: rest) :: k) st Q := by
  intro c K σ a w hc hR
  obtain ⟨env, O⟩ := st
  dsimp only at hx hO hstep hend
  have hobj := hR.mem.objs id
  dsimp only at hobj
  rw [hO] at hobj
  obtain ⟨_, b, ents, clock, g1, g2, g3, g4, g5, g6⟩ := hobj
  have hv := hR.eval x
  dsimp only at hv
  rw [hx] at hv
  generalize hva : a.eval x = v at hv
  cases hv with
  | it _ _ k1 k2 k3 =>
    obtain rfl := k3 _ _ hO
    have hw : Region.wanted o (yielded ops a.tmps) = true := by simp [Region.wanted, hg]
    have hheap := hR.mem.cons _ _ g1
    have hexec : ∀ {r : Value} {w' : World}, (Instr.next (.pointer (some ⟨(σ id).1, 0, none⟩)) false o.type).run P w = .ok r w' → (execOp a.eval o).run P w = .ok (.value r) w' := by
      intro r w' h
      obtain ⟨dst, op, ty, pos, after, guard⟩ := o
      dsimp only at hop h
      subst hop
      simp only [execOp, hva, Sem.run_bind, h, Result.andThen_ok, Sem.run_pure]
    rcases run_next_at w o.type (σ id).1 b clock clock _ ents clock g6 hheap (fun e he => by
      obtain ⟨j, hj, rfl⟩ := List.mem_iff_getElem.1 he
      have := g2.2.1 j (by simpa using hj)
      simpa [show j < ents.size by simpa using hj] using this) (Nat.le_refl _) with ⟨h0, hrun⟩ | ⟨e, he, w1, hw1, hrun⟩
    · refine .value ho hw (hexec hrun) (hend (fun j hj => ?_) c K σ _ w hc (hR.put hR.mem (fun _ _ h => h) o.dst (.tup _ _ rfl fun t ht => ?_)))
      · have hje : j < ents.size := by rw [g2.1]; exact hj
        have hnil : leftOf ents (seen.map fun i => (ents.getD i default).born).toArray = #[] := Array.eq_empty_of_size_eq_zero h0
        have : ents[j] ∉ leftOf ents (seen.map fun i => (ents.getD i default).born).toArray := by rw [hnil]; simp
        unfold leftOf at this
        simp at this
        obtain ⟨i, hi, hb⟩ := this
        have hie : i < ents.size := by rw [g2.1]; exact g5 i hi
        rcases Nat.lt_trichotomy i j with hlt | rfl | hlt
        · exfalso; have := g2.2.2 i j hlt hje; simp [hie, hje] at this hb; exact this hb
        · exact hi
        · exfalso; have := g2.2.2 j i hlt hie; simp [hie, hje] at this hb; exact this hb.symm
      · match t, ht with
        | 0, _ => exact .lit _
    · unfold leftOf at he
      simp at he
      obtain ⟨he1, he2⟩ := he
      obtain ⟨j, hj, rfl⟩ := List.mem_iff_getElem.1 (show e ∈ ents.toList by simpa using he1)
      have hje : j < ents.size := by simpa using hj
      have hjs : j < es.length := by rw [← g2.1]; exact hje
      have hseen : j ∉ seen := fun hjn => he2 j hjn (by simp [hje])
      have hR1 : RA c K σ O w1 := by rcases hw1 with rfl | rfl; exact hR.mem; exact hR.mem.drawn _
      have hbw : ∃ x, w1.heap[(σ id).1]? = some x := by rcases hw1 with rfl | rfl <;> exact ⟨_, g6⟩
      have hset := fun (c' : Ctx) (h : RA c' K σ O w1) => setIter (seen' := seen ++ [j]) hO g1 g2 g3 g4 hbw (fun t ht => by
        rcases List.mem_append.1 ht with ht | ht
        · exact g5 t ht
        · simp at ht; subst ht; exact hjs) h
      have hborn : (seen.map fun i => (ents.getD i default).born).toArray.push (ents.toList[j]).born = ((seen ++ [j]).map fun i => (ents.getD i default).born).toArray := by
        simp [hje]
      rw [hborn] at hrun
      have hv1 := g3 j hjs
      have hv2 := g4 j hjs
      have hgd : ents.getD j default = ents.toList[j] := by simp [hje]
      rw [hgd] at hv1 hv2
      refine .value ho hw (hexec hrun) (hstep j hjs hseen c K σ _ _ hc (hR.put (hset c hR1).1 (fun v x hv => hv.mono (fun _ _ h => h) (hset c hR1).2) o.dst (.tup _ _ rfl fun t ht => ?_)))
      match t, ht with
      | 0, _ => exact .lit _
      | 1, _ => exact hv1.lift
      | 2, _ => exact hv2.lift
end
end Go.Aw
