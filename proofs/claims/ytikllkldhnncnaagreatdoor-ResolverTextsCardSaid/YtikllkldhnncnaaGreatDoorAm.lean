/- The careful evaluator: trees, drawn regions, goals. A row that is written no more becomes a constant. -/
import Derived.Test.YtikllkldhnncnaaGreatDoorAi
import Derived.Test.YtikllkldhnncnaaGreatDoorAl
set_option linter.all false
namespace Go.Aw
namespace S
open Region
variable (T : Tab)

def stepT (n : Nat) (ops : Array Oper) (i : Nat) (o : Oper) (l : List Oper) (k : List Item) (st : St) (go : St → Tree) : Tree :=
  match o.op with
  | .next _ _ => .stop (.inRegion ops (i :: List.range' (i + 1) l.length) :: k) st
  | _ => match callOf st.env o.op with
    | some (f, args) => .call ops (i + 1) l k o.dst f args st
    | none => (opE T st.env st.objs o.op).toTree fun x => go ⟨put n st.env o.dst x.1, x.2⟩
def runR (n : Nat) (ex : List Item → St → Tree) (ops : Array Oper) : Nat → List Oper → List Item → St → Tree
  | _, [], k, st => ex k st
  | i, o :: l, k, st => match o.guard with
    | none => stepT T n ops i o l k st fun st => runR n ex ops (i + 1) l k st
    | some (j, want) => match (ops[j]?).bind (·.dst) with
      | some d => match get st.env d with
        | .lit (.bool b) =>
          if want then .fork b (fun _ => stepT T n ops i o l k ⟨(d, .lit (.bool true)) :: st.env, st.objs⟩ fun st => runR n ex ops (i + 1) l k st)
            (fun _ => runR n ex ops (i + 1) l k ⟨put n ((d, .lit (.bool false)) :: st.env) o.dst undefA, st.objs⟩)
          else .fork b (fun _ => runR n ex ops (i + 1) l k ⟨put n ((d, .lit (.bool true)) :: st.env) o.dst undefA, st.objs⟩)
            (fun _ => stepT T n ops i o l k ⟨(d, .lit (.bool false)) :: st.env, st.objs⟩ fun st => runR n ex ops (i + 1) l k st)
        | .lit (.tuple _) => runR n ex ops (i + 1) l k ⟨put n st.env o.dst undefA, st.objs⟩
        | _ => .bad
      | none => .bad
def exec (n : Nat) : Nat → List Item → St → Tree
  | 0, todo, st => .stop todo st
  | _ + 1, [], st => .ret st
  | m + 1, .code c :: k, st => match c with
    | .seq a b => exec n m (.code a :: .code b :: k) st
    | .skip => exec n m k st
    | .label _ => exec n m k st
    | .block id c => exec n m (.code c :: .inBlock id :: k) st
    | .exit id => match exitTo id k with
      | some k' => exec n m k' st
      | none => .bad
    | .ret => .ret st
    | .cond x a b => match evalA st.env x with
      | .lit (.bool v) => .fork v (fun _ => exec n m (.code a :: k) st) (fun _ => exec n m (.code b :: k) st)
      | _ => .bad
    | .region _ ops false => runR T n (exec n m) ops 0 ops.toList k st
    | c => .stop (.code c :: k) st
  | m + 1, .inBlock _ :: k, st => exec n m k st
  | _ + 1, todo, st => .stop todo st

section
variable {T} {P : Program} {f : FuncId} {fn : Func} {n : Nat} {O0 : List AObj} {Q : AV → List AObj → Prop}
/-- One tree promises no more than another. -/
def TLe (P : Program) (f : FuncId) (fn : Func) (n : Nat) (O0 : List AObj) (Q : AV → List AObj → Prop) (t u : Tree) : Prop := t.ok P f fn n O0 Q → u.ok P f fn n O0 Q
theorem toTree_ok (E : Ev (AV × List AObj)) (g : AV × List AObj → Tree) : (E.toTree g).ok P f fn n O0 Q ↔ E.holds fun x => (g x).ok P f fn n O0 Q := by
  induction E with
  | ret a => exact Iff.rfl
  | need p k ih => simp only [Ev.toTree, Tree.ok, Ev.holds, ih]
  | fork b x y ihx ihy => simp only [Ev.toTree, Tree.ok, Ev.holds, ihx, ihy]
  | bad => exact Iff.rfl
theorem stepT_le (hT : TabOk P T) {ops : Array Oper} {i : Nat} {o : Oper} {l : List Oper} {k : List Item} {st : St} {go go' : St → Tree} (hgo : ∀ st, TLe P f fn n O0 Q (go st) (go' st)) :
    TLe P f fn n O0 Q (stepT T n ops i o l k st go) (Aw.stepT P n ops i o l k st go') := by
  unfold stepT Aw.stepT
  generalize o.op = q
  intro h
  cases q
  all_goals first
    | exact h
    | (dsimp only at h ⊢
       split at h
       · rename_i hc; rw [hc]; exact h
       · rename_i hc; rw [hc]; rw [toTree_ok] at h; refine (toTree_ok _ _).2 (opE_le hT _ _ _ _ (h.mono fun x hx => hgo _ hx)))
theorem fork_le {b : Bool} {t u t' u' : Unit → Tree} (h1 : TLe P f fn n O0 Q (t ()) (t' ())) (h2 : TLe P f fn n O0 Q (u ()) (u' ())) : TLe P f fn n O0 Q (.fork b t u) (.fork b t' u') :=
  fun h => ⟨fun e => h1 (h.1 e), fun e => h2 (h.2 e)⟩
theorem runR_le (hT : TabOk P T) {ex ex' : List Item → St → Tree} {ops : Array Oper} (hex : ∀ k st, TLe P f fn n O0 Q (ex k st) (ex' k st)) : ∀ (l : List Oper) (i : Nat) (k : List Item) (st : St),
    TLe P f fn n O0 Q (runR T n ex ops i l k st) (Aw.runR P n ex' ops i l k st)
  | [], i, k, st => hex k st
  | o :: l, i, k, st => by
    have ih := fun st => runR_le (ops := ops) hT hex l (i + 1) k st
    unfold runR Aw.runR
    cases hg : o.guard with
    | none => exact stepT_le hT ih
    | some x =>
      obtain ⟨j, want⟩ := x
      dsimp only
      cases hd : (ops[j]?).bind (·.dst) with
      | none => exact fun h => h
      | some d =>
        dsimp only
        cases hb : get st.env d with
        | lit v =>
          cases v with
          | bool b =>
            dsimp only
            cases want with
            | true => simp only [if_true]; refine fork_le ?_ ?_; exact stepT_le hT ih; exact ih _
            | false => simp only [Bool.false_eq_true, if_false]; refine fork_le ?_ ?_; exact ih _; exact stepT_le hT ih
          | tuple vs => exact ih _
          | _ => exact fun h => h
        | _ => exact fun h => h
theorem exec_le (hT : TabOk P T) : ∀ (m : Nat) (todo : List Item) (st : St), TLe P f fn n O0 Q (exec T n m todo st) (Aw.exec P n m todo st)
  | 0, todo, st => by unfold exec Aw.exec; exact id
  | m + 1, [], st => by unfold exec Aw.exec; exact id
  | m + 1, .code c :: k, st => by
    have ih := exec_le hT m
    cases c with
    | seq a b => exact ih _ _
    | skip => exact ih _ _
    | label _ => exact ih _ _
    | block id c => exact ih _ _
    | exit id =>
      unfold exec Aw.exec
      dsimp only
      cases exitTo id k with
      | some k' => exact ih _ _
      | none => exact fun h => h
    | cond x a b =>
      unfold exec Aw.exec
      dsimp only
      cases evalA st.env x with
      | lit v =>
        cases v with
        | bool b => refine fork_le ?_ ?_; exact ih _ _; exact ih _ _
        | _ => exact fun h => h
      | _ => exact fun h => h
    | region tmp ops dr =>
      cases dr with
      | false => exact runR_le hT (fun k st => ih k st) ops.toList 0 k st
      | true => exact fun h => h
    | _ => exact fun h => h
  | m + 1, .inBlock _ :: k, st => exec_le hT m _ _
  | m + 1, .inRegion _ _ :: k, st | m + 1, .inLoop _ :: k, st | m + 1, .inScope _ :: k, st | m + 1, .inRangeFunc _ :: k, st | m + 1, .endRangeFunc _ :: k, st | m + 1, .beginRound :: k, st
  | m + 1, .call _ _ _ _ :: k, st | m + 1, .extern _ _ :: k, st => fun h => h
end

/-- Judgements with a coat on: no evaluator looks under it. -/
structure WI (P : Program) (f : FuncId) (n : Nat) (O0 : List AObj) (todo : List Item) (st : St) (Q : AV → List AObj → Prop) : Prop where
  h : W P f n O0 todo st Q
structure CallI (P : Program) (f n : Nat) (O0 : List AObj) (Q : AV → List AObj → Prop) (ops : Array Oper) (i : Nat) (l : List Oper) (k : List Item) (dst : Option Nat) (st : St) (g : FuncId) (args : List AV) : Prop where
  h : Call P f n O0 Q ops i l k dst st g args
structure PureI (P : Program) (f : FuncId) (args : List AV) (r : AV) : Prop where
  h : Pure P f args r
structure CalmI (P : Program) (ops : Array Oper) : Prop where
  h : Calm P ops
theorem PureI.of {P P0 : Program} {f : FuncId} {args : List AV} {r : AV} (h : Pure P0 f args r) (e : P = P0) : PureI P f args r := ⟨e ▸ h⟩
theorem CalmI.of {P P0 : Program} {ops : Array Oper} (h : calmB P0 ops = true) (e : P = P0) : CalmI P ops := ⟨e ▸ h⟩

def Fk (b : Bool) (p q : Unit → Prop) : Prop := match b with | true => p () | false => q ()
theorem Fk_mk {b : Bool} {p q : Unit → Prop} (h1 : b = true → p ()) (h2 : b = false → q ()) : Fk b p q := by cases b; exact h2 rfl; exact h1 rfl
def goal {α : Type} : Ev α → (α → Prop) → Prop
  | .ret a, Q => Q a
  | .need p k, Q => p ∧ goal k Q
  | .fork b x y, Q => Fk b (fun _ => goal x Q) (fun _ => goal y Q)
  | .bad, _ => False
theorem goal_holds {α : Type} (E : Ev α) (Q : α → Prop) : goal E Q → E.holds Q := by
  induction E with
  | ret a => exact id
  | need p k ih => exact fun h => ⟨h.1, ih h.2⟩
  | fork b x y ihx ihy =>
    cases b
    · exact fun h => ⟨(fun e => by cases e), fun _ => ihy h⟩
    · exact fun h => ⟨fun _ => ihx h, (fun e => by cases e)⟩
  | bad => exact id

def resG (st : St) : List ResultVar → Ev (List AV)
  | [] => .ret []
  | .tmp t :: rs => (resG st rs).bind fun xs => .ret (get st.env t :: xs)
  | .cell a t :: rs => (loadE T st.objs t (get st.env a)).bind fun x => (resG st rs).bind fun xs => .ret (x :: xs)
def resL (rs : List ResultVar) (st : St) : Ev AV :=
  match rs with
  | [.tmp t] => .ret (get st.env t)
  | [.cell a t] => loadE T st.objs t (get st.env a)
  | [] => .ret (.tup [])
  | rs => (resG T st rs).bind fun xs => .ret (.tup xs)
theorem resG_le {P : Program} {T : Tab} (hT : TabOk P T) (st : St) : ∀ (rs : List ResultVar), Le (resG T st rs) (Aw.resA.go P st rs)
  | [] => by unfold resA.go; exact Le.refl _
  | .tmp t :: rs => by unfold resG resA.go; exact Le.bind (resG_le hT st rs) fun _ => Le.refl _
  | .cell a t :: rs => by unfold resG resA.go; exact Le.bind (loadE_le hT _ _ _) fun _ => Le.bind (resG_le hT st rs) fun _ => Le.refl _
theorem resL_le {P : Program} {T : Tab} (hT : TabOk P T) (rs : List ResultVar) (st : St) : Le (resL T rs st) (Aw.resL P rs st) := by
  cases rs with
  | nil => exact Le.refl _
  | cons x rs =>
    cases rs with
    | nil =>
      cases x with
      | tmp t => exact Le.refl _
      | cell a t => exact loadE_le hT _ _ _
    | cons y rs =>
      have : Le ((resG T st (x :: y :: rs)).bind fun xs => Ev.ret (AV.tup xs)) ((resA.go P st (x :: y :: rs)).bind fun xs => Ev.ret (AV.tup xs)) := Le.bind (resG_le hT st _) fun _ => Le.refl _
      cases x <;> exact this

/-- An operation of a drawn region; results of calls are given beforehand. -/
def opC (P : Program) (a : Ans) (st : St) (o : Op) : Ev (Ans × (AV × List AObj)) :=
  match callOf st.env o with
  | some (v, args) => match calleeOf v, a with
    | some (g, cs), .call r a => .need ((args ++ cs).all closedS = true) (.need (PureI P g ((args ++ cs).map normS) r) (.ret (a, (r, st.objs))))
    | _, _ => .bad
  | none => (opE T st.env st.objs o).bind fun x => .ret (a, x)
theorem opC_le {P : Program} {T : Tab} (hT : TabOk P T) (a : Ans) (st : St) (o : Op) : Le (opC T P a st o) (Aw.opC P a st o) := by
  unfold opC Aw.opC
  cases callOf st.env o with
  | none => exact Le.bind (opE_le hT _ _ _) fun _ => Le.refl _
  | some x =>
    obtain ⟨v, args⟩ := x
    dsimp only
    cases calleeOf v with
    | none => exact Le.refl _
    | some y =>
      cases a with
      | nil => exact Le.refl _
      | call r a => rw [closedS_fun, normS_fun]; exact Le.need id (Le.need PureI.h (Le.refl _))
def evD (P : Program) (n : Nat) (ops : Array Oper) : List Oper → Ans → St → Ev (Ans × St)
  | [], a, st => .ret (a, st)
  | o :: l, a, st => match o.guard with
    | none => (opC T P a st o.op).bind fun x => evD P n ops l x.1 ⟨put n st.env o.dst x.2.1, x.2.2⟩
    | some (j, want) => match (ops[j]?).bind (·.dst) with
      | some d => match get st.env d with
        | .lit (.bool b) =>
          if want then .fork b ((opC T P a ⟨(d, .lit (.bool true)) :: st.env, st.objs⟩ o.op).bind fun x => evD P n ops l x.1 ⟨put n ((d, .lit (.bool true)) :: st.env) o.dst x.2.1, x.2.2⟩)
            (evD P n ops l a ⟨put n ((d, .lit (.bool false)) :: st.env) o.dst undefA, st.objs⟩)
          else .fork b (evD P n ops l a ⟨put n ((d, .lit (.bool true)) :: st.env) o.dst undefA, st.objs⟩)
            ((opC T P a ⟨(d, .lit (.bool false)) :: st.env, st.objs⟩ o.op).bind fun x => evD P n ops l x.1 ⟨put n ((d, .lit (.bool false)) :: st.env) o.dst x.2.1, x.2.2⟩)
        | .lit (.tuple _) => evD P n ops l a ⟨put n st.env o.dst undefA, st.objs⟩
        | _ => .bad
      | none => .bad
theorem Le.fork {α : Type} {b : Bool} {x y x' y' : Ev α} (h1 : Le x x') (h2 : Le y y') : Le (.fork b x y) (.fork b x' y') := fun Q h => ⟨fun e => h1 Q (h.1 e), fun e => h2 Q (h.2 e)⟩
theorem evD_le {P : Program} {T : Tab} (hT : TabOk P T) (n : Nat) (ops : Array Oper) : ∀ (l : List Oper) (a : Ans) (st : St), Le (evD T P n ops l a st) (Aw.evD P n ops l a st)
  | [], a, st => Le.refl _
  | o :: l, a, st => by
    have ih := evD_le hT n ops l
    unfold evD Aw.evD
    cases hg : o.guard with
    | none => exact Le.bind (opC_le hT _ _ _) fun _ => ih _ _
    | some x =>
      obtain ⟨j, want⟩ := x
      dsimp only
      cases hd : (ops[j]?).bind (·.dst) with
      | none => exact Le.refl _
      | some d =>
        dsimp only
        cases hb : get st.env d with
        | lit v =>
          cases v with
          | bool b =>
            dsimp only
            cases want with
            | true => simp only [if_true]; refine Le.fork ?_ ?_; exact Le.bind (opC_le hT _ _ _) fun _ => ih _ _; exact ih _ _
            | false => simp only [Bool.false_eq_true, if_false]; refine Le.fork ?_ ?_; exact ih _ _; exact Le.bind (opC_le hT _ _ _) fun _ => ih _ _
          | tuple vs => exact ih _ _
          | _ => exact Le.refl _
        | _ => exact Le.refl _

section
variable (P : Program) (f : FuncId) (n m : Nat) (rs : List ResultVar) (O0 : List AObj) (Q : AV → List AObj → Prop)
/-- The end of a call: what is to be shown of the result and the objects. -/
def Fin (E : Ev AV) (O : List AObj) : Prop := goal E fun r => Q r O
def tgoal (cont : Ans → Tree → Prop) (a : Ans) : Tree → Prop
  | .ret st => Fin Q (resL T rs st) st.objs
  | .call ops i l k dst g args st => match calleeOf g with
    | some (g, cs) => match a with
      | .call r a => (args ++ cs).all closedS = true ∧ (PureI P g ((args ++ cs).map normS) r ∧ cont a (runR T n (exec T n m) ops i l k ⟨put n st.env dst r, st.objs⟩))
      | .nil => CallI P f n O0 Q ops i l k dst st g (args ++ cs)
    | none => False
  | .stop todo st => match todo with
    | .code (.region _ ops true) :: k => CalmI P ops ∧ (goal (evD T P n ops ops.toList a st) fun x => cont x.1 (exec T n m k x.2))
    | todo => WI P f n O0 todo st Q
  | .need p t => p ∧ tgoal cont a t
  | .fork b t u => Fk b (fun _ => tgoal cont a (t ())) (fun _ => tgoal cont a (u ()))
  | .bad => False
def goalN : Nat → Ans → Tree → Prop
  | 0, _, _ => False
  | j + 1, a, t => tgoal T P f n m rs O0 Q (goalN j) a t
end

section
variable {T} {P : Program} {f : FuncId} {fn : Func} {n : Nat} {O0 : List AObj} {Q : AV → List AObj → Prop}
theorem tgoal_ok (hT : TabOk P T) (hf : P.funcs[f]? = some fn) {rs : List ResultVar} (hrs : fn.results.toList = rs) {m : Nat} {cont : Ans → Tree → Prop} (hc : ∀ a t, cont a t → t.ok P f fn n O0 Q) :
    ∀ (a : Ans) (t : Tree), tgoal T P f n m rs O0 Q cont a t → t.ok P f fn n O0 Q
  | a, .ret st, h => by
    simp only [tgoal, Fin] at h
    simp only [Tree.ok, resL_eq hrs]
    exact resL_le hT _ _ _ (goal_holds _ _ h)
  | a, .call ops i l k dst g args st, h => by
    simp only [tgoal] at h
    simp only [Tree.ok]
    split at h
    · rename_i g cs hg
      rw [hg]
      cases a with
      | nil => exact h.h
      | call r a =>
        rw [closedS_fun, normS_fun] at h
        obtain ⟨h1, h2, h3⟩ := h
        refine h2.h.calls (fitsL_norm _ h1) (WL.run hf m ?_)
        exact runR_le hT (fun k st => exec_le hT m k st) l i k _ (hc _ _ h3)
    · exact h.elim
  | a, .stop todo st, h => by
    simp only [tgoal] at h
    simp only [Tree.ok]
    split at h
    · obtain ⟨h1, h2⟩ := h
      exact W.drawn h1.h (evD_le hT _ _ _ _ _ _ ((goal_holds _ _ h2).mono fun x hx => exec_ok hf m _ _ (exec_le hT m _ _ (hc _ _ hx))))
    · exact h.h
  | a, .need p t, h => ⟨h.1, tgoal_ok hT hf hrs hc a t h.2⟩
  | a, .fork b t u, h => by
    cases b
    · exact ⟨(fun e => by cases e), fun _ => tgoal_ok hT hf hrs hc a (u ()) h⟩
    · exact ⟨fun _ => tgoal_ok hT hf hrs hc a (t ()) h, (fun e => by cases e)⟩
  | a, .bad, h => h
theorem goalN_ok (hT : TabOk P T) (hf : P.funcs[f]? = some fn) {rs : List ResultVar} (hrs : fn.results.toList = rs) {m : Nat} : ∀ (j : Nat) (a : Ans) (t : Tree), goalN T P f n m rs O0 Q j a t → t.ok P f fn n O0 Q
  | 0, _, _, h => h.elim
  | j + 1, a, t, h => tgoal_ok hT hf hrs (goalN_ok hT hf hrs j) a t h
/-- Run on from here. -/
theorem run (hT : TabOk P T) (hf : P.funcs[f]? = some fn) {rs : List ResultVar} (hrs : fn.results.toList = rs) (a : Ans) (todo : List Item) (st : St)
    (h : ∀ P', P' = P → goalN T P' f n 400 rs O0 Q 60 a (exec T n 400 todo st)) : W P f n O0 todo st Q :=
  exec_ok hf 400 todo st (exec_le hT 400 todo st (goalN_ok hT hf hrs 60 a _ (h P rfl)))
theorem runM (m : Nat) (hT : TabOk P T) (hf : P.funcs[f]? = some fn) {rs : List ResultVar} (hrs : fn.results.toList = rs) (a : Ans) (todo : List Item) (st : St)
    (h : ∀ P', P' = P → goalN T P' f n m rs O0 Q 60 a (exec T n m todo st)) : W P f n O0 todo st Q :=
  exec_ok hf m todo st (exec_le hT m todo st (goalN_ok hT hf hrs 60 a _ (h P rfl)))
theorem go (hT : TabOk P T) (hf : P.funcs[f]? = some fn) {rs : List ResultVar} (hrs : fn.results.toList = rs) (a : Ans) {ops : Array Oper} {i : Nat} {l : List Oper} {k : List Item} {st : St}
    (h : ∀ P', P' = P → goalN T P' f n 400 rs O0 Q 60 a (runR T n (exec T n 400) ops i l k st)) : WL P f n O0 ops i l k st Q :=
  WL.run hf 400 (runR_le hT (fun k st => exec_le hT 400 k st) l i k st (goalN_ok hT hf hrs 60 a _ (h P rfl)))
end

/-- The end of a pure function. -/
def shut1 (O : List AObj) (x : AV) : Ev AV :=
  match x with
  | .own id l => match O[id]? with
    | some (.buf _ xs) => .need (eqN l (len xs) = true ∧ (pick (gP xs) fun _ => xs.all (fun y => y.all closed1)) = true) (.ret (.seq xs))
    | _ => .bad
  | .ptr id off => match O[id]? with
    | some (.box xs) => .need (xs.all closed1 = true) (.ret (.ref xs off))
    | _ => .bad
  | .omap id => match O[id]? with
    | some (.omap es) => .need ((es.all fun e => closed1 e.1 && closedS e.2) = true) (.ret (.mapv es))
    | _ => .bad
  | x => .need (closed1 x = true) (.ret (norm1 x))
theorem shut1_eq (O : List AObj) (x : AV) : shut1 O x = Aw.shut1 O x := by
  unfold shut1 Aw.shut1; simp only [eqN_eq, len_eq, pick_eq, closedS_fun]; try rfl
def shutL (O : List AObj) : List AV → Ev (List AV)
  | [] => .ret []
  | x :: xs => (shut1 O x).bind fun y => (shutL O xs).bind fun ys => .ret (y :: ys)
theorem shutL_eq (O : List AObj) : ∀ xs, shutL O xs = Aw.shutL O xs
  | [] => rfl
  | x :: xs => by rw [shutL, Aw.shutL, shut1_eq, shutL_eq O xs]
def shut2 (O : List AObj) (x : AV) : Ev AV :=
  match x with
  | .agg xs => .fork (pick (gP xs) fun _ => xs.all litB) (.ret (.agg xs)) ((shutL O xs).bind fun ys => .ret (.agg ys))
  | x => shut1 O x
theorem shut2_le (O : List AObj) (x : AV) : Le (shut2 O x) (Aw.shut2 O x) := by
  unfold shut2 Aw.shut2
  split
  · rename_i xs
    intro Q h
    simp only [pick_eq, Ev.holds] at h
    cases h1 : xs.all litB
    · simp only [h1, Bool.false_eq_true, if_false]; rw [← shutL_eq]; exact h.2 h1
    · simp only [h1, if_true]; exact h.1 h1
  · rename_i hx
    refine Le.eq ?_
    rw [shut1_eq]
    split
    · exact (hx _ rfl).elim
    · rfl
def shutM (O : List AObj) : List AV → Ev (List AV)
  | [] => .ret []
  | x :: xs => (shut2 O x).bind fun y => (shutM O xs).bind fun ys => .ret (y :: ys)
theorem shutM_le (O : List AObj) : ∀ xs, Le (shutM O xs) (Aw.shutM O xs)
  | [] => Le.refl _
  | x :: xs => Le.bind (shut2_le O x) fun _ => Le.bind (shutM_le O xs) fun _ => Le.refl _
def shut (O : List AObj) (x : AV) : Ev AV :=
  match x with
  | .tup xs => (shutM O xs).bind fun ys => .ret (.tup ys)
  | x => shut2 O x
theorem shut_le (O : List AObj) (x : AV) : Le (shut O x) (Aw.shut O x) := by
  unfold shut Aw.shut
  split
  · exact Le.bind (shutM_le O _) fun _ => Le.refl _
  · rename_i hx
    split
    · exact (hx _ rfl).elim
    · exact shut2_le O _
def Shut (R : AV → Prop) (r : AV) (O : List AObj) : Prop := goal (shut O r) R
end S
/-- Two ways. -/
theorem fk {b : Bool} {p q : Unit → Prop} (h1 : b = true → p ()) (h2 : b = false → q ()) : S.Fk.match_1 (fun _ => Prop) b p q := by cases b; exact h2 rfl; exact h1 rfl
theorem fkd {a : Prop} [Decidable a] {p q : Unit → Prop} (h1 : a → p ()) (h2 : ¬a → q ()) : S.Fk.match_1 (fun _ => Prop) (decide a) p q := fk (fun h => h1 (of_decide_eq_true h)) (fun h => h2 (of_decide_eq_false h))
theorem fkn {a : Prop} [Decidable a] {p q : Unit → Prop} (h1 : ¬a → p ()) (h2 : a → q ()) : S.Fk.match_1 (fun _ => Prop) (!decide a) p q := fk (fun h => h1 (by simpa using h)) (fun h => h2 (by simpa using h))

theorem W.subP {P : Program} {f : FuncId} {n : Nat} {O0 : List AObj} {Q : AV → List AObj → Prop} {todo : List Item} {st st' : St} (m : Nat) (h1 : subE st.env st'.env) (h2 : st.objs.take m = st'.objs) (hm : O0.length ≤ m) (hm2 : m ≤ st.objs.length)
    (he : (st'.env.all fun p => belowA m p.2) = true) (ho : (st'.objs.all (belowO m)) = true) (hW : W P f n O0 todo st' Q) : W P f n O0 todo st Q := by
  obtain ⟨env, O⟩ := st
  obtain ⟨env', O'⟩ := st'
  dsimp only at *
  subst h2
  exact W.forget h1 (W.pop m hm hm2 he ho hW)
theorem W.mono {P : Program} {f : FuncId} {n : Nat} {O0 : List AObj} {Q Q' : AV → List AObj → Prop} {todo : List Item} {st : St} (h : W P f n O0 todo st Q) (hq : ∀ r O, Q r O → Q' r O) : W P f n O0 todo st Q' := by
  intro c K σ a w hc hR cs
  obtain ⟨e, w', fr, ⟨v, r, K', σ', O', h1, h2, h3, h4⟩, h5⟩ := h c K σ a w hc hR cs
  exact ⟨e, w', fr, ⟨v, r, K', σ', O', h1, h2, h3, hq _ _ h4⟩, h5⟩
theorem Pure.ofS {P : Program} {f : FuncId} {fn : Func} {c : Code} {args : List AV} {r : AV} (hf : P.funcs[f]? = some fn) (hb : fn.body = some c) (hname : (fn.name == "runtime.NumGoroutine") = false) {n : Nat} (hn : fn.ntmps = n) (hl : args.length ≤ n)
    (h : smallAs args → ∀ R : AV → Prop, R r → W P f n [] [.code c] ⟨initE 0 args, []⟩ (S.Shut R)) : Pure P f args r := by
  refine Pure.of hf hb hname hn hl fun hs R hR => ?_
  have e : ∀ r' O', S.Shut R r' O' → Aw.Shut R r' O' := fun r' O' h => by
    unfold S.Shut at h; unfold Aw.Shut
    rw [Ev.goal_eq]; exact S.shut_le _ _ _ (S.goal_holds _ _ h)
  exact (h hs R hR).mono e
end Go.Aw
namespace Go.Aw
section
variable {P : Program} {f : FuncId} {n : Nat} {O0 : List AObj} {Q : AV → List AObj → Prop}
theorem W.freeze {todo : List Item} {env : List (Nat × AV)} {O : List AObj} (t : Nat) {id len sz : Nat} {xs : List (List AV)} (ht : get env t = .own id len) (ho : O[id]? = some (.buf sz xs)) (hlen : len = xs.length)
    (hc : (xs.all fun y => y.all closed1) = true) (hW : W P f n O0 todo ⟨(t, .seq xs) :: env, O.set id .dead⟩ Q) : W P f n O0 todo ⟨env, O⟩ Q := by
  intro c K σ a w hO hR
  have hm := hR.mem
  dsimp only at hm
  have hal : AObj.alive O[id]? := by rw [ho]; trivial
  have hobj := hm.objs id
  rw [ho] at hobj
  obtain ⟨hk0, arr, ty, fr, hb, hfr, hs, hcap, hlim, hsz, hr⟩ := hobj
  have hid : σ.upd id (σ id) = σ := by funext j; unfold Plc.upd; split <;> simp_all
  have hcomp : Compat O σ (O.set id .dead) σ := Compat.set ho (fun _ _ => rfl) (fun _ e => by cases e) (fun _ _ e => by cases e) (fun _ e => by cases e) (fun _ _ e => by cases e)
  have hd : RA c K σ (O.set id .dead) w := by
    have := hm.set (o' := .dead) ho trivial (w' := w) (p := σ id) (.inl rfl) rfl rfl rfl (Nat.le_refl _) (fun _ _ _ => rfl) (by rw [hid]; exact hcomp) trivial
    rw [hid] at this; exact this
  have hno : ¬ owns (O.set id .dead) σ (σ id).1 := by
    rintro ⟨j, hj, e⟩
    by_cases hji : j = id
    · subst hji
      rw [List.getElem?_set] at hj
      split at hj
      · split at hj <;> exact hj
      · rename_i h; exact h rfl
    · rw [List.getElem?_set, if_neg (Ne.symm hji)] at hj
      exact hji (hm.inj j id hj hal e)
  have hkn := hd.know hb (Or.symm (hm.own id hal)) hno
  have hle := Sto.upd_le (K := K) (b := (σ id).1) (o := .cells arr ty fr) (.inl hk0)
  refine hW c _ σ a w hO ⟨hkn, fun u => ?_, hR.size, hR.defers⟩
  have hv := hR.env u
  generalize a.tmps.getD u undef = v at hv
  dsimp only at hv ⊢
  simp only [get]
  split
  · rename_i e
    subst e
    rw [ht] at hv
    cases hv with
    | own _ _ _ g1 g2 g3 =>
      obtain e := (g3 _ _ ho).2 hlen
      rw [e]
      subst hlen
      refine .seq xs _ _ sz (fun i j => arr.getD (i * sz + j) undef) hsz (fun _ => ⟨(σ id).1, 0, arr, ty, fr, rfl, by simp [Sto.upd], fun i j hi hj => ?_⟩) hlim hcap (fun i hi j hj => ?_)
      · have h4 : (i + 1) * sz ≤ (σ id).2 * sz := Nat.mul_le_mul_right _ (by omega)
        rw [Nat.add_mul] at h4
        have : i * sz + j < arr.size := by omega
        simp [this]
      · have hcl := List.all_eq_true.1 (List.all_eq_true.1 hc _ (List.getElem_mem hi)) _ (List.getElem_mem hj)
        exact ((hr i hi j hj).closed hcl).mono hle (.nil _ _ _)
  · exact hv.mono hle hcomp
end
theorem enc_closed (s : List UInt8) : ((s.map encB).all fun y => y.all closed1) = true := by simp [encB, closed1]
end Go.Aw
