/- One operation of a region. The evaluator: from a point of a function to its next calls, loops, drawn regions and returns. -/
import Derived.Test.YtikllkldhnncnaaGreatDoorAe
set_option linter.all false
namespace Go.Aw
section
variable {P : Program} {K : Sto} {σ : Plc} {O : List AObj} {w : World} {c : Ctx}

def scal : AV → Bool
  | .lit (.int _ _) | .lit (.bool _) | .str _ => true
  | _ => false
def nonNilE (P : Program) (O : List AObj) (op : BinOp) (t : TypeId) (o1 o2 : Operand) (x y : AV) : Ev AV :=
  if scal x && scal y then binE P op t x y else nilE P O op t o1 o2 x y
theorem binX_ok {op : BinOp} {t : TypeId} {o1 o2 : Operand} {v u : Value} {x y : AV} (hv : Rep K σ O v x) (hu : Rep K σ O u y) :
    Reads P (binSem op t o1 o2 v u) K σ O w (nonNilE P O op t o1 o2 x y) := by
  unfold nonNilE; split
  · exact binE_ok hv hu
  · exact nilE_ok hv hu
def convX (P : Program) (O : List AObj) (s d : TypeId) (x : AV) : Ev (AV × List AObj) :=
  match tk P s, tk P d with
  | some .str, some (.slice _) => strBytesE P O s d x
  | _, _ => (convE P O s d x).bind fun x => .ret (x, O)
theorem convX_ok (h : RA c K σ O w) {s d : TypeId} {v : Value} {x : AV} (hv : Rep K σ O v x) : DoesV P (convert s d v) K σ O w (convX P O s d x) := by
  unfold convX; split
  · exact strBytesE_ok hv
  · exact (convE_ok h hv).does
def ifaceE (P : Program) (t : TypeId) (x : AV) : Ev AV :=
  match tk P t with
  | some .iface => .bad
  | some _ => .ret (.iface t x)
  | none => .bad
theorem ifaceE_ok {t : TypeId} {v : Value} {x : AV} (hv : Rep K σ O v x) : Reads P (Instr.makeInterface t v) K σ O w (ifaceE P t x) := by
  unfold ifaceE; split
  · exact .bad
  · rename_i k hk h
    refine .ret (v := .iface t v) ?_ (.iface _ _ _ hv)
    unfold tk at h
    cases hu : P.underlying t with
    | none => rw [hu] at h; cases h
    | some d =>
      rw [hu] at h
      simp only [Instr.makeInterface, Sem.run_bind, run_underlying hu, Result.andThen_ok]
      cases d <;> first | rfl | (simp at h; subst h; exact (hk rfl).elim)
  · exact .bad
def cloE (fn : Fn) (first cap : List AV) : Ev AV :=
  match fn, first with
  | .func f, [] => .ret (.clo f cap)
  | _, _ => .bad
def minE (mx : Bool) (x y : AV) : Ev AV :=
  match x, y with
  | .lit (.int k a), .lit (.int k' b) => if k = k' then .ret (.lit (.int k (if mx then max a b else min a b))) else .bad
  | _, _ => .bad
def builtE (P : Program) (O : List AObj) (b : Builtin) (ts : List TypeId) (xs : List AV) : Ev (AV × List AObj) :=
  match b, ts, xs with
  | .len, t :: _, x :: _ => (lenE P O t x).bind fun x => .ret (x, O)
  | .append, [t, t2], [s, x] => appE P O t t2 s x
  | .min, _, [x, y] => (minE false x y).bind fun x => .ret (x, O)
  | .max, _, [x, y] => (minE true x y).bind fun x => .ret (x, O)
  | _, _, _ => .bad

/-- What an operation gives. -/
def opE (P : Program) (env : List (Nat × AV)) (O : List AObj) (o : Op) : Ev (AV × List AObj) :=
  match o with
  | .move x | .assign x => .ret (evalA env x, O)
  | .pick b x y => (pickE (evalA env b) (evalA env x) (evalA env y)).bind fun x => .ret (x, O)
  | .alloc t => allocE P O t
  | .box _ x => boxE O (evalA env x)
  | .build t ps => (buildE P t (ps.toList.map fun p => (p.1, evalA env p.2))).bind fun x => .ret (x, O)
  | .buildSlice t n ps => buildSliceE P O t n (ps.toList.map fun p => (p.1, evalA env p.2))
  | .load t a => (loadE P O t (evalA env a)).bind fun x => .ret (x, O)
  | .store t a x => storeE P O t (evalA env a) (evalA env x)
  | .nilCheck x => (nilCheckE O (evalA env x)).bind fun x => .ret (x, O)
  | .binOp op t x y _ => (nonNilE P O op t x y (evalA env x) (evalA env y)).bind fun x => .ret (x, O)
  | .unOp op _ x => (unE op (evalA env x)).bind fun x => .ret (x, O)
  | .convert s d x => convX P O s d (evalA env x)
  | .makeInterface t x => (ifaceE P t (evalA env x)).bind fun x => .ret (x, O)
  | .makeFunc fn fi ca => (cloE fn (fi.toList.map (evalA env)) (ca.toList.map (evalA env))).bind fun x => .ret (x, O)
  | .makeMap _ r => makeMapE O (r.map (evalA env))
  | .makeSlice t l c => makeSliceE P O t (evalA env l) (evalA env c)
  | .slice t x lo hi mx => (sliceE P O t (evalA env x) (lo.map (evalA env)) (hi.map (evalA env)) (mx.map (evalA env))).bind fun x => .ret (x, O)
  | .fieldAddr s x i => (fieldAddrE P O s (evalA env x) i).bind fun x => .ret (x, O)
  | .field s x i => (fieldE P s (evalA env x) i).bind fun x => .ret (x, O)
  | .indexAddr t x i => (indexAddrE P O t (evalA env x) (evalA env i)).bind fun x => .ret (x, O)
  | .index t x i => (indexE P t (evalA env x) (evalA env i)).bind fun x => .ret (x, O)
  | .lookup t m k ok => (lookupE P O t (evalA env m) (evalA env k) ok).bind fun x => .ret (x, O)
  | .mapUpdate t m k x | .insert t m k x => updE P O t (evalA env m) (evalA env k) (evalA env x)
  | .extract x i => (extractE (evalA env x) i).bind fun x => .ret (x, O)
  | .range t x => rangeE P O t (evalA env x)
  | .entry x => (entryE O (evalA env x)).bind fun x => .ret (x, O)
  | .call { callee := .builtin b, args, argTypes } => builtE P O b argTypes.toList (args.toList.map (evalA env))
  | _ => .bad

/-- An operation as the machine takes it: a value, or nothing. -/
def DoesO (P : Program) (e : Sem Next) (K : Sto) (σ : Plc) (O : List AObj) (w : World) (E : Ev (AV × List AObj)) : Prop :=
  ∀ Q, E.holds Q → ∃ nx v x K' σ' O' w', Q (x, O') ∧ e.run P w = .ok nx w' ∧ (nx = .value v ∨ (nx = .skip ∧ v = undef)) ∧ (∀ c, RA c K σ O w → RA c K' σ' O' w') ∧
    (∀ v x, Rep K σ O v x → Rep K' σ' O' v x) ∧ Rep K' σ' O' v x
theorem DoesO.val {e : Sem Value} {E : Ev (AV × List AObj)} (h : DoesV P e K σ O w E) : DoesO P (do pure (.value (← e))) K σ O w E := by
  intro Q hq
  obtain ⟨v, x, K', σ', O', w', hQ, hr, h1, h2, h3⟩ := h Q hq
  exact ⟨.value v, v, x, K', σ', O', w', hQ, by simp [hr], .inl rfl, h1, h2, h3⟩
theorem DoesO.unit {e : Sem Unit} {E : Ev (AV × List AObj)} (h : DoesU P e K σ O w E) : DoesO P (do e; pure .skip) K σ O w E := by
  intro Q hq
  obtain ⟨v, x, K', σ', O', w', hQ, hr, h1, h2, rfl⟩ := h Q hq
  exact ⟨.skip, undef, .any, K', σ', O', w', hQ, by simp [hr], .inr ⟨rfl, rfl⟩, h1, h2, .any _⟩
theorem DoesO.bad {e : Sem Next} : DoesO P e K σ O w .bad := fun _ h => h.elim
theorem DoesO.rd {e : Sem Value} {E : Ev AV} (h : Reads P e K σ O w E) : DoesO P (do pure (.value (← e))) K σ O w (E.bind fun x => .ret (x, O)) := .val h.does

theorem minE_ok {mx : Bool} {t : TypeId} {ts : Array TypeId} {v u : Value} {x y : AV} (hv : Rep K σ O v x) (hu : Rep K σ O u y) :
    Reads P (if mx then Builtin.max_ ts t #[v, u] else Builtin.min_ ts t #[v, u]) K σ O w (minE mx x y) := by
  intro Q hq
  unfold minE at hq; split at hq
  · obtain rfl := hv.int
    obtain rfl := hu.int
    split at hq
    · rename_i k a k' b h
      subst h
      cases mx
      · refine ⟨_, _, hq, ?_, .lit _⟩
        simp [Builtin.min_, Builtin.min2]
        omega
      · refine ⟨_, _, hq, ?_, .lit _⟩
        simp [Builtin.max_, Builtin.max2]
        omega
    · exact hq.elim
  · exact hq.elim

theorem run_resolve {ev : Operand → Value} {b : Builtin} {args : Array Operand} {ts : Array TypeId} {t : TypeId} :
    (do let d ← resolve ev { callee := .builtin b, args := args, argTypes := ts } t; invoke d.target d.args : Sem Next) = builtin b ts t (args.map fun | .const _ => true | _ => false) (args.map ev) := rfl
theorem builtE_ok {c0 : Ctx} (h : RA c0 K σ O w) {ev : Operand → Value} {ea : Operand → AV} (hev : ∀ o, Rep K σ O (ev o) (ea o)) {b : Builtin} {args : Array Operand} {ts : Array TypeId} {t : TypeId} {cs : Array Bool} :
    DoesO P (builtin b ts t cs (args.map ev)) K σ O w (builtE P O b ts.toList (args.toList.map ea)) := by
  unfold builtE
  split
  · rename_i t1 tr x xr h1 h2
    have e1 : ts[0]? = some t1 := by rw [← Array.getElem?_toList, h1]; rfl
    obtain ⟨o, ho, rfl⟩ : ∃ o, args[0]? = some o ∧ ea o = x := by
      rw [← Array.getElem?_toList]
      cases hl : args.toList with
      | nil => rw [hl] at h2; cases h2
      | cons o r => rw [hl] at h2; simp at h2; exact ⟨o, rfl, h2.1⟩
    have e2 : (args.map ev)[0]? = some (ev o) := by simp [ho]
    exact .rd (lenE_ok h e1 e2 (hev o))
  · rename_i t1 t2 x y h1 h2
    obtain ⟨o1, o2, ha, rfl, rfl⟩ : ∃ o1 o2, args = #[o1, o2] ∧ ea o1 = x ∧ ea o2 = y := by
      obtain ⟨l⟩ := args
      match l, h2 with
      | [o1, o2], h2 => simp at h2; exact ⟨o1, o2, rfl, h2.1, h2.2⟩
    have e1 : ts = #[t1, t2] := by obtain ⟨l⟩ := ts; simp at h1; rw [h1]
    subst ha e1
    have e3 : (#[o1, o2].map ev) = #[ev o1, ev o2] := by simp
    rw [e3]
    exact .val (appE_ok h (hev o1) (hev o2))
  · rename_i x y h2
    obtain ⟨o1, o2, ha, rfl, rfl⟩ : ∃ o1 o2, args = #[o1, o2] ∧ ea o1 = x ∧ ea o2 = y := by
      obtain ⟨l⟩ := args
      match l, h2 with
      | [o1, o2], h2 => simp at h2; exact ⟨o1, o2, rfl, h2.1, h2.2⟩
    subst ha
    have e3 : (#[o1, o2].map ev) = #[ev o1, ev o2] := by simp
    rw [e3]
    have e4 := minE_ok (P := P) (w := w) (mx := false) (t := t) (ts := ts) (hev o1) (hev o2)
    simp only [Bool.false_eq_true, if_false] at e4
    exact .rd e4
  · rename_i x y h2
    obtain ⟨o1, o2, ha, rfl, rfl⟩ : ∃ o1 o2, args = #[o1, o2] ∧ ea o1 = x ∧ ea o2 = y := by
      obtain ⟨l⟩ := args
      match l, h2 with
      | [o1, o2], h2 => simp at h2; exact ⟨o1, o2, rfl, h2.1, h2.2⟩
    subst ha
    have e3 : (#[o1, o2].map ev) = #[ev o1, ev o2] := by simp
    rw [e3]
    have e4 := minE_ok (P := P) (w := w) (mx := true) (t := t) (ts := ts) (hev o1) (hev o2)
    simp only [if_true] at e4
    exact .rd e4
  · exact .bad
theorem nilCheckE_ok {x : Operand} {a : Act} {ax : AV} (hv : Rep K σ O (a.eval x) ax) {dst ty pos after guard} :
    DoesO P (execOp a.eval ⟨dst, .nilCheck x, ty, pos, after, guard⟩) K σ O w ((nilCheckE O ax).bind fun x => .ret (x, O)) := by
  intro Q hq
  rw [Ev.holds_bind] at hq
  have hgo : ∀ y, Q (y, O) → Rep K σ O (a.eval x) y → (execOp a.eval ⟨dst, .nilCheck x, ty, pos, after, guard⟩) = pure (.value (a.eval x)) → _ := fun y h1 h2 h3 =>
    (⟨.value (a.eval x), a.eval x, y, K, σ, O, w, h1, by rw [h3]; rfl, .inl rfl, fun _ h => h, fun _ _ h => h, h2⟩ :
      ∃ nx v x' K' σ' O' w', Q (x', O') ∧ (execOp a.eval ⟨dst, .nilCheck x, ty, pos, after, guard⟩).run P w = .ok nx w' ∧ (nx = .value v ∨ (nx = .skip ∧ v = undef)) ∧ (∀ c, RA c K σ O w → RA c K' σ' O' w') ∧ (∀ v x, Rep K σ O v x → Rep K' σ' O' v x) ∧ Rep K' σ' O' v x')
  unfold nilCheckE at hq; split at hq
  · refine hgo _ hq hv ?_
    unfold execOp; dsimp only
    generalize a.eval x = v at hv ⊢
    cases hv; rfl
  · split at hq
    · rename_i ho
      refine hgo _ hq hv ?_
      unfold execOp; dsimp only
      generalize a.eval x = v at hv ⊢
      cases hv with | ptr _ _ _ h1 h2 h3 => rw [h3 _ ho]
    · exact hq.elim
  · refine hgo _ hq hv ?_
    unfold execOp; dsimp only
    generalize a.eval x = v at hv ⊢
    cases hv; rfl
  · exact hq.elim
theorem cloE_ok {fn : Fn} {fi ca : Array Operand} {ev : Operand → Value} {ea : Operand → AV} (hev : ∀ o, Rep K σ O (ev o) (ea o)) :
    Reads P (Instr.makeFunc fn (fi.map ev) (ca.map ev)) K σ O w (cloE fn (fi.toList.map ea) (ca.toList.map ea)) := by
  intro Q hq
  unfold cloE at hq; split at hq
  · rename_i f hfi
    have h0 : fi = #[] := by obtain ⟨l⟩ := fi; cases l with | nil => rfl | cons a l => simp at hfi
    subst h0
    refine ⟨.func (.func f) #[] (ca.map ev), _, hq, by simp [Instr.makeFunc], .clo f (ca.toList.map ea) (ca.map ev) (by simp) fun i hi => ?_⟩
    have hi' : i < ca.size := by simpa using hi
    have := hev ca[i]
    have e1 : (ca.map ev).getD i undef = ev ca[i] := by simp [hi']
    have e2 : (ca.toList.map ea)[i] = ea ca[i] := by simp
    rw [e1, e2]; exact this
  · exact hq.elim
theorem opE_ok {c0 : Ctx} (h : RA c0 K σ O w) {a : Act} {env : List (Nat × AV)} (hev : ∀ o, Rep K σ O (a.eval o) (evalA env o)) (o : Oper) :
    DoesO P (execOp a.eval o) K σ O w (opE P env O o.op) := by
  obtain ⟨dst, op, ty, pos, after, guard⟩ := o
  cases op
  case nilCheck x => exact nilCheckE_ok (hev x)
  all_goals try simp only [opE, execOp]
  all_goals try exact .bad
  case move x => exact fun Q hq => ⟨_, _, _, K, σ, O, w, hq, rfl, .inl rfl, fun _ h => h, fun _ _ h => h, hev x⟩
  case assign x => exact fun Q hq => ⟨_, _, _, K, σ, O, w, hq, rfl, .inl rfl, fun _ h => h, fun _ _ h => h, hev x⟩
  case pick b x y =>
    have := DoesO.rd (pickE_ok (P := P) (w := w) (hev b) (hev x) (hev y))
    intro Q hq
    obtain ⟨nx, v, x', K', σ', O', w', hQ, hr, h1⟩ := this Q hq
    exact ⟨nx, v, x', K', σ', O', w', hQ, by simpa using hr, h1⟩
  case alloc t => exact .val allocE_ok
  case box t x => exact .val (boxE_ok (hev x))
  case build t ps => exact .rd (buildE_ok hev ps)
  case buildSlice t n ps => exact .val (buildSliceE_ok h hev ps)
  case load t x => exact .rd (loadE_ok h (hev x))
  case store t p x => exact .unit (storeE_ok h (hev p) (hev x))
  case binOp op t x y t2 => exact .rd (binX_ok (hev x) (hev y))
  case unOp op t x => exact .rd (unE_ok (hev x))
  case convert s d x => exact .val (convX_ok h (hev x))
  case makeInterface t x => exact .rd (ifaceE_ok (hev x))
  case makeFunc fn fi ca => exact .rd (cloE_ok hev)
  case makeMap t r => exact .val (makeMapE_ok fun hr => by cases r with | none => rfl | some y => cases hr)
  case makeSlice t l c => exact .val (makeSliceE_ok (hev l) (hev c))
  case slice t x lo hi mx => exact .rd (sliceE_ok h (hev x) (.mk hev) (.mk hev) (.mk hev))
  case fieldAddr s x i => exact .rd (fieldAddrE_ok (hev x))
  case field s x i => exact .rd (fieldE_ok (hev x))
  case indexAddr t x i => exact .rd (indexAddrE_ok (hev x) (hev i))
  case index t x i => exact .rd (indexE_ok (hev x) (hev i))
  case lookup t m k ok => exact .rd (lookupE_ok h (hev m) (hev k))
  case mapUpdate t m k x => exact .unit (updE_ok h (hev m) (hev k) (hev x))
  case insert t m k x => exact .unit (updE_ok h (hev m) (hev k) (hev x))
  case extract x i => exact .rd (extractE_ok (hev x))
  case range t x => exact .val (rangeE_ok h (hev x))
  case entry x => exact .rd (entryE_ok h (hev x))
  case call cl =>
    obtain ⟨callee, args, ts⟩ := cl
    cases callee <;> dsimp only <;> try exact .bad
    exact builtE_ok h hev
end
end Go.Aw
namespace Go.Aw

inductive Tree where
  | ret (st : St)
  | call (ops : Array Oper) (i : Nat) (l : List Oper) (k : List Item) (dst : Option Nat) (f : AV) (args : List AV) (st : St)
  | stop (todo : List Item) (st : St)
  | need (p : Prop) (t : Tree)
  | fork (b : Bool) (t u : Unit → Tree)
  | bad

def Ev.toTree {α : Type} : Ev α → (α → Tree) → Tree
  | .ret a, f => f a
  | .need p k, f => .need p (k.toTree f)
  | .fork b x y, f => .fork b (fun _ => x.toTree f) (fun _ => y.toTree f)
  | .bad, _ => .bad

/-- Is it a call of a function? -/
def callOf (env : List (Nat × AV)) : Op → Option (AV × List AV)
  | .call { callee := .value f, args, .. } => some (evalA env f, args.toList.map (evalA env))
  | _ => none
def stepT (P : Program) (n : Nat) (ops : Array Oper) (i : Nat) (o : Oper) (l : List Oper) (k : List Item) (st : St) (go : St → Tree) : Tree :=
  match o.op with
  | .next _ _ => .stop (.inRegion ops (i :: List.range' (i + 1) l.length) :: k) st
  | _ => match callOf st.env o.op with
    | some (f, args) => .call ops (i + 1) l k o.dst f args st
    | none => (opE P st.env st.objs o.op).toTree fun x => go ⟨put n st.env o.dst x.1, x.2⟩
/-- What an operation leaves that is not wanted. -/
def undefA : AV := .lit undef
def runR (P : Program) (n : Nat) (ex : List Item → St → Tree) (ops : Array Oper) : Nat → List Oper → List Item → St → Tree
  | _, [], k, st => ex k st
  | i, o :: l, k, st => match o.guard with
    | none => stepT P n ops i o l k st fun st => runR P n ex ops (i + 1) l k st
    | some (j, want) => match (ops[j]?).bind (·.dst) with
      | some d => match get st.env d with
        | .lit (.bool b) =>
          if want then .fork b (fun _ => stepT P n ops i o l k ⟨(d, .lit (.bool true)) :: st.env, st.objs⟩ fun st => runR P n ex ops (i + 1) l k st)
            (fun _ => runR P n ex ops (i + 1) l k ⟨put n ((d, .lit (.bool false)) :: st.env) o.dst undefA, st.objs⟩)
          else .fork b (fun _ => runR P n ex ops (i + 1) l k ⟨put n ((d, .lit (.bool true)) :: st.env) o.dst undefA, st.objs⟩)
            (fun _ => stepT P n ops i o l k ⟨(d, .lit (.bool false)) :: st.env, st.objs⟩ fun st => runR P n ex ops (i + 1) l k st)
        | .lit (.tuple _) => runR P n ex ops (i + 1) l k ⟨put n st.env o.dst undefA, st.objs⟩
        | _ => .bad
      | none => .bad
def exec (P : Program) (n : Nat) : Nat → List Item → St → Tree
  | 0, todo, st => .stop todo st
  | _ + 1, [], st => .ret st
  | m + 1, .code c :: k, st => match c with
    | .seq a b => exec P n m (.code a :: .code b :: k) st
    | .skip => exec P n m k st
    | .label _ => exec P n m k st
    | .block id c => exec P n m (.code c :: .inBlock id :: k) st
    | .exit id => match exitTo id k with
      | some k' => exec P n m k' st
      | none => .bad
    | .ret => .ret st
    | .cond x a b => match evalA st.env x with
      | .lit (.bool v) => .fork v (fun _ => exec P n m (.code a :: k) st) (fun _ => exec P n m (.code b :: k) st)
      | _ => .bad
    | .region _ ops false => runR P n (exec P n m) ops 0 ops.toList k st
    | c => .stop (.code c :: k) st
  | m + 1, .inBlock _ :: k, st => exec P n m k st
  | _ + 1, todo, st => .stop todo st

/-- A function that is entered when it is called. -/
def callable (P : Program) (f : FuncId) : Prop := ∃ fn, P.funcs[f]? = some fn ∧ (fn.name == "runtime.NumGoroutine") = false ∧ fn.body.isNone = false
/-- A call: whatever the callee's contract says. -/
def CallsA (P : Program) (f : FuncId) (args : List AV) (O : List AObj) (Q : AV → List AObj → Prop) : Prop :=
  callable P f ∧ ∀ (K : Sto) (σ : Plc) (w : World) (vs : Array Value), (∀ b o, K b = some o → w.heap[b]? = some o) → (∀ id, RObj K σ O w id O[id]?) →
    (∀ i j, AObj.alive O[i]? → AObj.alive O[j]? → (σ i).1 = (σ j).1 → i = j) →
    vs.size = args.length → (∀ i (h : i < args.length), Rep K σ O (vs.getD i undef) args[i]) → Calls P f vs w (Ends ⟨K, σ, O, w⟩ Q)
theorem CallsA.mono {P : Program} {f : FuncId} {args : List AV} {O : List AObj} {Q Q' : AV → List AObj → Prop} (h : CallsA P f args O Q) (hq : ∀ r O', Q r O' → Q' r O') : CallsA P f args O Q' :=
  ⟨h.1, fun K σ w vs h1 h2 h3 h4 h5 => (h.2 K σ w vs h1 h2 h3 h4 h5).mono fun _ _ ⟨v, r, K', σ', O', g1, g2, g3, g4⟩ => ⟨v, r, K', σ', O', g1, g2, g3, hq _ _ g4⟩⟩

/-- Inside a region: what stands at place i and behind it. -/
def WL (P : Program) (f : FuncId) (n : Nat) (O0 : List AObj) (ops : Array Oper) (i : Nat) (l : List Oper) (k : List Item) (st : St) (Q : AV → List AObj → Prop) : Prop :=
  l = ops.toList.drop i → W P f n O0 (.inRegion ops (List.range' i l.length) :: k) st Q

/-- The function's results. -/
def resA (P : Program) (fn : Func) (st : St) : Ev AV :=
  match fn.results.toList with
  | [.tmp t] => .ret (get st.env t)
  | [.cell a t] => loadE P st.objs t (get st.env a)
  | [] => .ret (.tup [])
  | rs => (go rs).bind fun xs => .ret (.tup xs)
  where go : List ResultVar → Ev (List AV)
  | [] => .ret []
  | .tmp t :: rs => (go rs).bind fun xs => .ret (get st.env t :: xs)
  | .cell a t :: rs => (loadE P st.objs t (get st.env a)).bind fun x => (go rs).bind fun xs => .ret (x :: xs)

def calleeOf : AV → Option (Nat × List AV)
  | .clo f cs => some (f, cs)
  | _ => none
def Tree.ok (P : Program) (f : FuncId) (fn : Func) (n : Nat) (O0 : List AObj) (Q : AV → List AObj → Prop) : Tree → Prop
  | .ret st => (resA P fn st).holds fun r => Q r st.objs
  | .call ops i l k dst g args st => match calleeOf g with
    | some (g, cs) => CallsA P g (args ++ cs) st.objs fun r O' => WL P f n O0 ops i l k ⟨put n st.env dst r, O'⟩ Q
    | none => False
  | .stop todo st => W P f n O0 todo st Q
  | .need p t => p ∧ t.ok P f fn n O0 Q
  | .fork b t u => (b = true → (t ()).ok P f fn n O0 Q) ∧ (b = false → (u ()).ok P f fn n O0 Q)
  | .bad => False

section
variable {P : Program} {f : FuncId} {fn : Func} {n : Nat} {O0 : List AObj} {Q : AV → List AObj → Prop}

theorem toTree_ok {α : Type} {E : Ev α} {g : α → Tree} : (E.toTree g).ok P f fn n O0 Q ↔ E.holds fun x => (g x).ok P f fn n O0 Q := by
  induction E with
  | ret a => rfl
  | need p k ih => simp only [Ev.toTree, Tree.ok, Ev.holds, ih]
  | fork b x y ihx ihy => simp only [Ev.toTree, Tree.ok, Ev.holds, ihx, ihy]
  | bad => rfl

theorem W.op {ops : Array Oper} {i : Nat} {rest : List Nat} {k : List Item} {o : Oper} {st : St} (ho : ops[i]? = some o) (hw : ∀ c K σ a w, R c K σ st n a w → Region.wanted o (yielded ops a.tmps) = true)
    (h : (opE P st.env st.objs o.op).holds fun x => W P f n O0 (.inRegion ops rest :: k) ⟨put n st.env o.dst x.1, x.2⟩ Q) : W P f n O0 (.inRegion ops (i :: rest) :: k) st Q := by
  intro c K σ a w hO hR
  obtain ⟨env, O⟩ := st
  obtain ⟨nx, v, x, K', σ', O', w', hQ, hr, hnx, h1, h2, h3⟩ := opE_ok hR.mem hR.eval o _ h
  have hR' := hR.put (h1 c hR.mem) h2 o.dst h3
  rcases hnx with rfl | ⟨rfl, rfl⟩
  · exact .value ho (hw _ _ _ _ _ hR) hr (hQ c K' σ' _ w' hO hR')
  · exact .skip ho (hw _ _ _ _ _ hR) hr (hQ c K' σ' _ w' hO hR')
theorem W.unw {ops : Array Oper} {i : Nat} {rest : List Nat} {k : List Item} {o : Oper} {st : St} (ho : ops[i]? = some o) (hw : ∀ c K σ a w, R c K σ st n a w → Region.wanted o (yielded ops a.tmps) = false)
    (h : W P f n O0 (.inRegion ops rest :: k) ⟨put n st.env o.dst undefA, st.objs⟩ Q) : W P f n O0 (.inRegion ops (i :: rest) :: k) st Q := by
  intro c K σ a w hO hR
  obtain ⟨env, O⟩ := st
  exact .unwanted ho (hw _ _ _ _ _ hR) (h c K σ _ w hO (hR.put hR.mem (fun _ _ h => h) o.dst (.lit _)))

theorem callFunc_run {g : FuncId} {args : Array Value} {w : World} (h : callable P g) : (callFunc g args).run P w = .ok (.enter g args) w := by
  obtain ⟨fn, h1, h2, h3⟩ := h
  simp only [callFunc, Sem.run_bind, run_program, Result.andThen_ok, h1, h2, h3, Bool.false_eq_true, if_false, Sem.run_pure]
theorem W.call {ops : Array Oper} {i : Nat} {rest : List Nat} {k : List Item} {o : Oper} {st : St} (ho : ops[i]? = some o) (hw : ∀ c K σ a w, R c K σ st n a w → Region.wanted o (yielded ops a.tmps) = true)
    {x : AV} {args : List AV} (hc : callOf st.env o.op = some (x, args)) {g : Nat} {cs : List AV} (hx : calleeOf x = some (g, cs))
    (h : CallsA P g (args ++ cs) st.objs fun r O' => W P f n O0 (.inRegion ops rest :: k) ⟨put n st.env o.dst r, O'⟩ Q) : W P f n O0 (.inRegion ops (i :: rest) :: k) st Q := by
  intro c K σ a w hO hR
  obtain ⟨env, O⟩ := st
  obtain ⟨hcall, h⟩ := h
  unfold callOf at hc
  split at hc
  · rename_i f' args' ts hop
    simp only [Option.some.injEq, Prod.mk.injEq] at hc
    obtain ⟨rfl, rfl⟩ := hc
    have hf := hR.eval f'
    unfold calleeOf at hx
    split at hx
    · rename_i g' cs' he
      cases hx
      dsimp only at he hf h
      rw [he] at hf
      generalize hfe : a.eval f' = fv at hf
      cases hf with
      | clo _ _ vs h1 h2 =>
        refine .call (g := g) (args := args'.map a.eval ++ vs) (w' := w) ho (hw _ _ _ _ _ hR) ?_ ?_
        · obtain ⟨dst, op, ty, pos, after, guard⟩ := o
          dsimp only at hop
          subst hop
          have : execOp a.eval ⟨dst, .call { callee := .value f', args := args', argTypes := ts }, ty, pos, after, guard⟩ = callFunc g (#[] ++ args'.map a.eval ++ vs) := by
            simp only [execOp, resolve, hfe]; rfl
          rw [this, Array.empty_append]
          exact callFunc_run hcall
        · refine (h K σ w (args'.map a.eval ++ vs) hR.mem.cons hR.mem.objs hR.mem.inj (by simp [h1]) (fun j hj => ?_)).mono fun e w' ⟨v, r, K', σ', O', g1, g2, g3, g4⟩ => ?_
          · rcases Nat.lt_or_ge j args'.size with hl | hl
            · have e1 : (args'.map a.eval ++ vs).getD j undef = a.eval args'[j] := by
                simp [Array.getElem?_append, hl]
              have e2 : (List.map (evalA env) args'.toList ++ cs)[j] = evalA env args'[j] := by
                rw [List.getElem_append_left (by simpa using hl)]; simp
              rw [e1, e2]; exact hR.eval _
            · have hj2 : j - args'.size < cs.length := by simp at hj; omega
              have e1 : (args'.map a.eval ++ vs).getD j undef = vs.getD (j - args'.size) undef := by
                simp only [Array.getD_eq_getD_getElem?, Array.getElem?_append, Array.size_map]
                rw [if_neg (by omega)]
              have e2 : (List.map (evalA env) args'.toList ++ cs)[j] = cs[j - args'.size] := by
                rw [List.getElem_append_right (by simpa using hl)]; simp
              rw [e1, e2]; exact h2 _ hj2
          · exact ⟨v, g1, g4 c K' σ' _ w' hO (hR.put (hR.mem.trans g2) (fun v x hv => hv.mono g2.le g2.comp) o.dst g3)⟩
    · cases hx
  · cases hc

theorem drop_cons {α : Type} {ops : Array α} {i : Nat} {o : α} {l : List α} (h : o :: l = ops.toList.drop i) : ops[i]? = some o ∧ l = ops.toList.drop (i + 1) := by
  have h1 : (ops.toList.drop i)[0]? = some o := by rw [← h]; rfl
  have h2 : (ops.toList.drop i).drop 1 = l := by rw [← h]; rfl
  refine ⟨by simpa using h1, ?_⟩
  rw [← h2, List.drop_drop]
theorem yield_of {c K σ st a w} (hR : R c K σ st n a w) {ops : Array Oper} {j d : Nat} {b : Bool} (hj : (ops[j]?).bind (·.dst) = some d) (hg : get st.env d = .lit (.bool b)) : yielded ops a.tmps j = some b := by
  have h1 := hR.env d
  rw [hg] at h1
  have h2 := h1.toBool
  unfold yielded
  rw [hj]
  simp only [Option.bind_some]
  cases h3 : a.tmps[d]? with
  | none => simp [h3, undef] at h2
  | some v => simp [h3] at h2; rw [h2]
theorem R.know {c K σ st a w} (hR : R c K σ st n a w) {d : Nat} {b : Bool} (hg : get st.env d = .lit (.bool b)) {b' : Bool} (hb : b = b') : R c K σ ⟨(d, .lit (.bool b')) :: st.env, st.objs⟩ n a w := by
  subst hb
  refine ⟨hR.mem, fun t => ?_, hR.size, hR.defers⟩
  simp only [get]
  split
  · rename_i e; subst e; rw [← hg]; exact hR.env t
  · exact hR.env t
theorem W.know {todo : List Item} {st : St} {d : Nat} {b b' : Bool} (hg : get st.env d = .lit (.bool b)) (hb : b = b') (h : W P f n O0 todo ⟨(d, .lit (.bool b')) :: st.env, st.objs⟩ Q) : W P f n O0 todo st Q :=
  fun c K σ a w hO hR => h c K σ a w hO (hR.know hg hb)

theorem stepT_ok {ops : Array Oper} {i : Nat} {k : List Item} {o : Oper} {l : List Oper} {st : St} {go : St → Tree} (hl : o :: l = ops.toList.drop i)
    (hw : ∀ c K σ a w, R c K σ st n a w → Region.wanted o (yielded ops a.tmps) = true) (hgo : ∀ st, (go st).ok P f fn n O0 Q → W P f n O0 (.inRegion ops (List.range' (i + 1) l.length) :: k) st Q)
    (h : (stepT P n ops i o l k st go).ok P f fn n O0 Q) : W P f n O0 (.inRegion ops (List.range' i (o :: l).length) :: k) st Q := by
  obtain ⟨ho, hl'⟩ := drop_cons hl
  unfold stepT at h
  rw [List.length_cons, List.range'_succ]
  split at h
  · exact h
  split at h
  · rename_i x args hc
    simp only [Tree.ok] at h
    split at h
    · rename_i g cs hx
      exact W.call ho hw hc hx (h.mono fun r O' hr => hr hl')
    · exact h.elim
  · rw [toTree_ok] at h
    exact W.op ho hw (by
      revert h
      generalize opE P st.env st.objs o.op = E
      intro h
      induction E with
      | ret a => exact hgo _ h
      | need p k ih => exact ⟨h.1, ih h.2⟩
      | fork b x y ihx ihy => exact ⟨fun e => ihx (h.1 e), fun e => ihy (h.2 e)⟩
      | bad => exact h)
theorem runR_ok {ex : List Item → St → Tree} {ops : Array Oper} (hex : ∀ k st, (ex k st).ok P f fn n O0 Q → W P f n O0 k st Q) : ∀ (l : List Oper) (i : Nat) (k : List Item) (st : St),
    l = ops.toList.drop i → (runR P n ex ops i l k st).ok P f fn n O0 Q → W P f n O0 (.inRegion ops (List.range' i l.length) :: k) st Q
  | [], i, k, st, _, h => fun c K σ a w hO hR => .region_end (hex k st h c K σ a w hO hR)
  | o :: l, i, k, st, hl, h => by
    have ih := fun st => runR_ok hex l (i + 1) k st (drop_cons hl).2
    obtain ⟨ho, _⟩ := drop_cons hl
    unfold runR at h
    split at h
    · rename_i hg
      exact stepT_ok hl (fun c K σ a w _ => by simp [Region.wanted, hg]) ih h
    · rename_i j want hg
      split at h
      · rename_i d hd
        split at h
        · rename_i b hb
          have hwant : ∀ c K σ a w st', R c K σ st' n a w → get st'.env d = .lit (.bool b) → Region.wanted o (yielded ops a.tmps) = (b == want) := fun c K σ a w st' hR hb' => by
            simp [Region.wanted, hg, yield_of hR hd hb']
          split at h
          · rename_i hwt
            cases b with
            | true =>
              refine W.know hb rfl (stepT_ok hl (fun c K σ a w hR => ?_) ih (h.1 rfl))
              rw [hwant c K σ a w _ hR (by simp [get])]; simp [hwt]
            | false =>
              refine W.know hb rfl ?_
              rw [List.length_cons, List.range'_succ]
              refine W.unw ho (fun c K σ a w hR => ?_) (ih _ (h.2 rfl))
              rw [hwant c K σ a w _ hR (by simp [get])]; simp [hwt]
          · rename_i hwt
            cases b with
            | true =>
              refine W.know hb rfl ?_
              rw [List.length_cons, List.range'_succ]
              refine W.unw ho (fun c K σ a w hR => ?_) (ih _ (h.1 rfl))
              rw [hwant c K σ a w _ hR (by simp [get])]; simp [hwt]
            | false =>
              refine W.know hb rfl (stepT_ok hl (fun c K σ a w hR => ?_) ih (h.2 rfl))
              rw [hwant c K σ a w _ hR (by simp [get])]; simp [hwt]
        · rename_i vs hb
          rw [List.length_cons, List.range'_succ]
          refine W.unw ho (fun c K σ a w hR => ?_) (ih _ h)
          have h1 := hR.env d
          rw [hb] at h1
          have h2 := h1.litv
          have h3 : yielded ops a.tmps j = none := by
            unfold yielded
            rw [hd]
            simp only [Option.bind_some]
            cases h3 : a.tmps[d]? with
            | none => rfl
            | some v => simp [h3] at h2; rw [h2]
          simp [Region.wanted, hg, h3]
        · exact h.elim
      · exact h.elim

def resOne (tmps : Array Value) (x : ResultVar) : Sem Value :=
  match x with
  | .tmp t => pure (tmps.getD t undef)
  | .cell a t => do loadVar t (← asAddr (tmps.getD a undef))
theorem results_eq (fn : Func) (tmps : Array Value) : results fn tmps = (fn.results.mapM (resOne tmps) >>= fun vs => pure (if h : vs.size = 1 then vs[0] else .tuple vs)) := by
  unfold results
  rfl
theorem load_as {t : TypeId} {u v : Value} {w : World} (h : (Instr.loadAt t u).run P w = .ok v w) : (do loadVar t (← asAddr u) : Sem Value).run P w = .ok v w := by
  unfold Instr.loadAt at h
  simp only [Sem.run_bind] at h ⊢
  cases u with
  | pointer a => cases a with
    | some a => exact h
    | none => simp [Instr.sureAddr] at h
  | _ => simp [Instr.sureAddr] at h
theorem resGo_ok {c K σ st a w} (hR : R c K σ st n a w) : ∀ (rs : List ResultVar) (Q : List AV → Prop), (resA.go P st rs).holds Q →
    ∃ (xs : List AV) (vs : List Value), Q xs ∧ (rs.mapM (resOne a.tmps)).run P w = .ok vs w ∧ vs.length = xs.length ∧ vs.length = rs.length ∧ ∀ i (h : i < xs.length), Rep K σ st.objs (vs.getD i undef) xs[i]
  | [], Q, h => ⟨[], [], h, by simp, rfl, rfl, fun i h => by simp at h⟩
  | .tmp t :: rs, Q, h => by
    unfold resA.go at h
    rw [Ev.holds_bind] at h
    obtain ⟨xs, vs, hQ, hr, hl, hl2, hv⟩ := resGo_ok hR rs _ h
    refine ⟨_, a.tmps.getD t undef :: vs, hQ, ?_, by simp [hl], by simp [hl2], fun i hi => ?_⟩
    · simp only [List.mapM_cons, Sem.run_bind, resOne, Sem.run_pure, Result.andThen_ok, hr]
    · cases i with
      | zero => exact hR.env t
      | succ i => have := hv i (by simp at hi; omega); simpa using this
  | .cell x t :: rs, Q, h => by
    unfold resA.go at h
    rw [Ev.holds_bind] at h
    obtain ⟨v, y, h, hr1, hv1⟩ := loadE_ok (P := P) hR.mem (hR.env x) _ h
    rw [Ev.holds_bind] at h
    obtain ⟨xs, vs, hQ, hr, hl, hl2, hv⟩ := resGo_ok hR rs _ h
    refine ⟨_, v :: vs, hQ, ?_, by simp [hl], by simp [hl2], fun i hi => ?_⟩
    · have h3 := load_as hr1
      have h4 : (resOne a.tmps (.cell x t)).run P w = .ok v w := h3
      simp only [List.mapM_cons, Sem.run_bind, h4, Result.andThen_ok, hr, Sem.run_pure]
    · cases i with
      | zero => exact hv1
      | succ i => have := hv i (by simp at hi; omega); simpa using this
theorem resA_ok {c K σ st a w} (hR : R c K σ st n a w) {Q : AV → Prop} (h : (resA P fn st).holds Q) : ∃ v r, Q r ∧ (results fn a.tmps).run P w = .ok v w ∧ Rep K σ st.objs v r := by
  have hres : ∀ vs, (fn.results.toList.mapM (resOne a.tmps)).run P w = .ok vs w → (results fn a.tmps).run P w = .ok (if h : vs.toArray.size = 1 then vs.toArray[0] else .tuple vs.toArray) w := by
    intro vs hvs
    rw [results_eq, Array.mapM_eq_mapM_toList]
    simp only [Sem.run_bind, Sem.run_map, hvs, Result.andThen_ok, Sem.run_pure]
  unfold resA at h
  split at h
  · rename_i t hl
    refine ⟨a.tmps.getD t undef, _, h, ?_, hR.env t⟩
    rw [hres [a.tmps.getD t undef] (by rw [hl]; simp [resOne])]; simp
  · rename_i x t hl
    obtain ⟨v, y, hQ, hr1, hv1⟩ := loadE_ok (P := P) hR.mem (hR.env x) _ h
    have h4 : (resOne a.tmps (.cell x t)).run P w = .ok v w := load_as hr1
    refine ⟨v, y, hQ, ?_, hv1⟩
    rw [hres [v] (by rw [hl]; simp [h4])]; simp
  · rename_i hl
    refine ⟨.tuple #[], _, h, ?_, .tup _ _ rfl fun i hi => by simp at hi⟩
    rw [hres [] (by rw [hl]; simp)]; simp
  · rename_i rs h1 h2 h3
    rw [Ev.holds_bind] at h
    obtain ⟨xs, vs, hQ, hr, hl, hl2, hv⟩ := resGo_ok hR _ _ h
    have hne : ¬ vs.length = 1 := by
      intro hvl
      rw [hl2] at hvl
      match hrl : fn.results.toList, hvl with
      | [.tmp t], _ => exact h1 t hrl
      | [.cell a t], _ => exact h2 a t hrl
    refine ⟨.tuple vs.toArray, _, hQ, ?_, .tup _ _ (by simpa using hl) fun i hi => by simpa using hv i hi⟩
    rw [hres vs hr]
    simp [hne]

theorem exec_ok (hf : P.funcs[f]? = some fn) : ∀ (m : Nat) (todo : List Item) (st : St), (exec P n m todo st).ok P f fn n O0 Q → W P f n O0 todo st Q := by
  have hret : ∀ (k : List Item) (st : St), (Tree.ret st).ok P f fn n O0 Q → W P f n O0 (.code .ret :: k) st Q := fun k st h c K σ a w hO hR => by
    obtain ⟨v, r, hQ, hr, hv⟩ := resA_ok hR h
    exact .ret hR.defers hf hr ⟨v, r, K, σ, st.objs, rfl, hR.mem, hv, hQ⟩
  have hend : ∀ (st : St), (Tree.ret st).ok P f fn n O0 Q → W P f n O0 [] st Q := fun st h c K σ a w hO hR => by
    obtain ⟨v, r, hQ, hr, hv⟩ := resA_ok hR h
    exact .done hR.defers hf hr ⟨v, r, K, σ, st.objs, rfl, hR.mem, hv, hQ⟩
  intro m
  induction m with
  | zero => intro todo st h; exact h
  | succ m ih =>
    intro todo st h
    cases todo with
    | nil => exact hend st h
    | cons x k => cases x with
      | code c => cases c with
        | seq x y => exact W.seq (ih _ _ h)
        | skip => exact W.skip (ih _ _ h)
        | label l => exact W.label (ih _ _ h)
        | block id c => exact W.block (ih _ _ h)
        | exit id =>
          simp only [exec] at h
          split at h
          · rename_i k' he; exact W.exit he (ih _ _ h)
          · exact h.elim
        | ret => exact hret _ _ h
        | cond x y z =>
          simp only [exec] at h
          split at h
          · rename_i v hv
            exact W.cond hv (fun e => ih _ _ (h.1 e)) (fun e => ih _ _ (h.2 e))
          · exact h.elim
        | region id ops draw => cases draw with
          | false =>
            have h2 := runR_ok (fn := fn) ih ops.toList 0 k st (by simp) h
            intro c K σ a w hO hR
            refine .region ?_
            have e : List.range ops.size = List.range' 0 ops.toList.length := by simp [List.range_eq_range']
            rw [e]
            exact h2 c K σ a w hO hR
          | true => exact h
        | _ => exact h
      | inBlock id => exact W.inBlock (ih _ _ h)
      | _ => exact h
/-- Behind a call. -/
theorem WL.run (hf : P.funcs[f]? = some fn) {ops : Array Oper} {i : Nat} {l : List Oper} {k : List Item} {st : St} (m : Nat)
    (h : (runR P n (exec P n m) ops i l k st).ok P f fn n O0 Q) : WL P f n O0 ops i l k st Q :=
  fun hl => runR_ok (fn := fn) (fun k st => exec_ok hf m k st) l i k st hl h
end
end Go.Aw
