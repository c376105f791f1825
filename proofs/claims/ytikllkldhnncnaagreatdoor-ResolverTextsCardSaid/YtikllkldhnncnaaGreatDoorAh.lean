/- Regions whose order is drawn: any order gives what the order of the text gives. What an operation reads, and what it leaves alone. Any order of a drawn region gives what the order of the text gives. -/
import Derived.Test.YtikllkldhnncnaaGreatDoorAg
set_option linter.all false
namespace Go.Aw
open Region

/-- The orders that a region may be run in. -/
inductive Sched (ops : Array Oper) : (Nat → Bool) → List Nat → Prop
  | nil {S : Nat → Bool} : (∀ i, i < ops.size → S i = true) → Sched ops S []
  | cons {S : Nat → Bool} {j : Nat} {o : Oper} {l : List Nat} : ops[j]? = some o → S j = false → (∀ e ∈ o.after.toList, binds .any e = true → S e.on = true) →
      Sched ops (fun i => S i || i == j) l → Sched ops S (j :: l)

/-- In this mode no operation waits for itself: a rank is told by one order. -/
def backM (m : Region.Mode) (ops : Array Oper) : Bool := (List.range ops.size).all fun i => match ops[i]? with
  | some o => o.after.toList.all fun e => !binds m e || (decide ((linearise m ops 0).idxOf e.on < (linearise m ops 0).idxOf i) && decide (e.on < ops.size))
  | none => true
def backB (ops : Array Oper) : Bool := backM .text ops && (backM .gc ops && backM .any ops)
theorem backM_ok {m : Region.Mode} {ops : Array Oper} (h : backM m ops = true) {i : Nat} {o : Oper} (ho : ops[i]? = some o) {e : Edge} (he : e ∈ o.after.toList) (hb : binds m e = true) :
    (linearise m ops 0).idxOf e.on < (linearise m ops 0).idxOf i ∧ e.on < ops.size := by
  have hi : i < ops.size := by
    rcases Nat.lt_or_ge i ops.size with h | h
    · exact h
    · rw [Array.getElem?_eq_none h] at ho; cases ho
  have := List.all_eq_true.1 h i (by simpa using hi)
  rw [ho] at this
  have := List.all_eq_true.1 this e he
  rw [hb] at this
  simpa using this

theorem binds_any {m : Region.Mode} {e : Edge} (h : binds .any e = true) : binds m e = true := by
  unfold binds at *
  split at h <;> first | rfl | simp at h

def unl (listed : Array Bool) (n : Nat) : Nat := (List.range n).countP fun i => !listed.getD i true
theorem unl_set {listed : Array Bool} {n i : Nat} (hi : i < n) (hn : listed.size = n) (hl : listed.getD i true = false) : unl (listed.setIfInBounds i true) n < unl listed n := by
  unfold unl
  have hmem : i ∈ List.range n := by simpa using hi
  obtain ⟨a, b, hab, ha⟩ := List.append_of_mem hmem |>.elim fun a ⟨b, e⟩ => (⟨a, b, e, True.intro⟩ : ∃ a b, List.range n = a ++ i :: b ∧ True)
  rw [hab]
  simp only [List.countP_append, List.countP_cons]
  have h1 : ∀ l : List Nat, l.countP (fun j => !(listed.setIfInBounds i true).getD j true) ≤ l.countP (fun j => !listed.getD j true) := fun l => by
    apply List.countP_mono_left
    intro j _ hj
    simp only [Array.getD_eq_getD_getElem?, Array.getElem?_setIfInBounds] at hj ⊢
    split at hj
    · split at hj <;> simp_all
    · exact hj
  have h2 := h1 a
  have h3 := h1 b
  have h4 : (!(listed.setIfInBounds i true).getD i true) = false := by
    simp [Array.getD_eq_getD_getElem?, Array.getElem?_setIfInBounds, hn, hi]
  rw [h4, hl]
  simp only [Bool.not_false, if_true, Bool.false_eq_true, if_false]
  omega
theorem go_sched {ops : Array Oper} (m : Region.Mode) (hb : backM m ops = true) : ∀ (fuel t : Nat) (listed : Array Bool) (acc : List Nat), listed.size = ops.size → unl listed ops.size ≤ fuel →
    ∃ l, linearise.go m ops fuel t listed acc = acc.reverse ++ l ∧ Sched ops (fun i => listed.getD i false) l
  | 0, t, listed, acc, hs, hu => by
    refine ⟨[], by simp [linearise.go], .nil fun i hi => ?_⟩
    have : unl listed ops.size = 0 := by omega
    have := List.countP_eq_zero.1 this i (by simpa using hi)
    simp [Array.getD_eq_getD_getElem?, hs, hi] at this ⊢
    exact this
  | fuel + 1, t, listed, acc, hs, hu => by
    unfold linearise.go
    dsimp only
    generalize hrs : (List.range ops.size).filter (fun i => !listed.getD i true && ((ops[i]?).map (·.after.all fun e => !binds m e || listed.getD e.on false)).getD false) = rs
    split
    · rename_i i hi
      have hmem : i ∈ rs := List.mem_of_getElem? hi
      rw [← hrs] at hmem
      simp only [List.mem_filter, List.mem_range, Bool.and_eq_true] at hmem
      obtain ⟨h1, h2, h3⟩ := hmem
      have hl : listed.getD i true = false := by simpa using h2
      obtain ⟨o, ho⟩ : ∃ o, ops[i]? = some o := ⟨ops[i], by simp [h1]⟩
      rw [ho] at h3
      obtain ⟨l, e1, e2⟩ := go_sched m hb fuel (t / rs.length) (listed.setIfInBounds i true) (i :: acc) (by simpa using hs) (by
        have := unl_set h1 hs hl; omega)
      refine ⟨i :: l, by rw [e1]; simp, .cons ho ?_ ?_ ?_⟩
      · simp [Array.getD_eq_getD_getElem?, hs, h1] at hl ⊢; exact hl
      · intro e he hbe
        simp only [Option.map_some, Option.getD_some, Array.all_eq_true'] at h3
        have := h3 e (by simpa using he)
        simpa [binds_any hbe] using this
      · have : (fun j => (listed.setIfInBounds i true).getD j false) = fun j => listed.getD j false || j == i := by
          funext j
          simp only [Array.getD_eq_getD_getElem?, Array.getElem?_setIfInBounds]
          by_cases hji : j = i
          · subst hji; simp [hs, h1]
          · rw [if_neg (fun e => hji e.symm)]; simp [hji]
        rw [← this]; exact e2
    · rename_i hn
      refine ⟨[], by simp, .nil ?_⟩
      have hnil : rs = [] := by
        rcases List.eq_nil_or_concat rs with h | ⟨a, b, h⟩
        · exact h
        · exfalso
          have : t % rs.length < rs.length := Nat.mod_lt _ (by rw [h]; simp)
          rw [List.getElem?_eq_getElem this] at hn; cases hn
      have key : ∀ r i, (linearise m ops 0).idxOf i ≤ r → i < ops.size → listed.getD i false = true := by
        intro r
        induction r using Nat.strongRecOn with
        | _ r ih =>
          intro i hr hi
          by_cases hl : listed.getD i false = true
          · exact hl
          · exfalso
            have hmem : i ∈ rs := by
              rw [← hrs]
              simp only [List.mem_filter, List.mem_range, Bool.and_eq_true]
              refine ⟨hi, ?_, ?_⟩
              · simp [Array.getD_eq_getD_getElem?, hs, hi] at hl ⊢; exact hl
              · have ho : ops[i]? = some ops[i] := by simp [hi]
                rw [ho]
                simp only [Option.map_some, Option.getD_some, Array.all_eq_true']
                intro e he
                cases hbe : binds m e with
                | false => rfl
                | true =>
                  obtain ⟨k1, k2⟩ := backM_ok hb ho (by simpa using he) hbe
                  have := ih _ (Nat.lt_of_lt_of_le k1 hr) e.on (Nat.le_refl _) k2
                  simp [this]
            rw [hnil] at hmem; cases hmem
      exact fun i hi => key _ i (Nat.le_refl _) hi
theorem lin_sched {ops : Array Oper} (m : Region.Mode) (hb : backM m ops = true) (t : Nat) : Sched ops (fun _ => false) (linearise m ops t) := by
  obtain ⟨l, e1, e2⟩ := go_sched m hb ops.size t (Array.replicate ops.size false) [] (by simp) (by
    unfold unl; exact Nat.le_trans List.countP_le_length (by simp))
  unfold linearise
  rw [e1]
  have : (fun i => (Array.replicate ops.size false).getD i false) = fun _ => false := by
    funext i; simp only [Array.getD_eq_getD_getElem?, Array.getElem?_replicate]; split <;> rfl
  rw [← this]; simpa using e2
theorem sched_ok {ops : Array Oper} (hb : backB ops = true) (mixed : Bool) (t : Nat) : Sched ops (fun _ => false) (schedule mixed ops t) := by
  unfold backB at hb
  simp only [Bool.and_eq_true] at hb
  unfold schedule
  split
  · exact lin_sched _ hb.2.2 _
  · split
    · exact lin_sched _ hb.1 _
    · exact lin_sched _ hb.2.1 _
end Go.Aw
namespace Go.Aw

theorem Ev.holds.mono {α : Type} {E : Ev α} {Q Q' : α → Prop} (h : E.holds Q) (hq : ∀ a, Q a → Q' a) : E.holds Q' := by
  induction E with
  | ret a => exact hq _ h
  | need p k ih => exact ⟨h.1, ih h.2⟩
  | fork b x y ihx ihy => exact ⟨fun e => ihx (h.1 e), fun e => ihy (h.2 e)⟩
  | bad => exact h
theorem map_loc {env env' : List (Nat × AV)} : ∀ (xs : List Operand), (∀ x ∈ xs, evalA env x = evalA env' x) → xs.map (evalA env) = xs.map (evalA env') := fun _ h => List.map_congr_left h
theorem omap_loc {env env' : List (Nat × AV)} (x : Option Operand) (h : ∀ y ∈ x.toList, evalA env y = evalA env' y) : x.map (evalA env) = x.map (evalA env') := by
  cases x with
  | none => rfl
  | some y => simp only [Option.map_some]; rw [h y (by simp)]
theorem pmap_loc {α : Type} {env env' : List (Nat × AV)} (ps : List (α × Operand)) (h : ∀ x ∈ ps.map (·.2), evalA env x = evalA env' x) :
    ps.map (fun p => (p.1, evalA env p.2)) = ps.map (fun p => (p.1, evalA env' p.2)) :=
  List.map_congr_left fun p hp => by rw [h p.2 (List.mem_map_of_mem hp)]

theorem opE_loc {P : Program} {env env' : List (Nat × AV)} {O : List AObj} (o : Op) (h : ∀ x ∈ o.operands.toList, evalA env x = evalA env' x) : opE P env O o = opE P env' O o := by
  cases o with
  | call c =>
    obtain ⟨callee, args, ts⟩ := c
    cases callee with
    | builtin b =>
      simp only [opE]
      rw [map_loc args.toList fun x hx => h x (by simp [Op.operands, Call.operands]; simpa using hx)]
    | _ => rfl
  | makeMap t r =>
    simp only [opE]
    rw [omap_loc r fun y hy => h y (by simpa [Op.operands] using hy)]
  | slice t x lo hi mx =>
    simp only [opE]
    rw [h x (by simp [Op.operands]), omap_loc lo fun y hy => h y (by simp [Op.operands] at hy ⊢; simp [hy]), omap_loc hi fun y hy => h y (by simp [Op.operands] at hy ⊢; simp [hy]), omap_loc mx fun y hy => h y (by simp [Op.operands] at hy ⊢; simp [hy])]
  | build t ps => simp only [opE]; rw [pmap_loc ps.toList fun x hx => h x (by simpa [Op.operands] using hx)]
  | buildSlice t n ps => simp only [opE]; rw [pmap_loc ps.toList fun x hx => h x (by simpa [Op.operands] using hx)]
  | makeFunc fn fi ca =>
    simp only [opE]
    rw [map_loc fi.toList fun x hx => h x (by simp [Op.operands] at hx ⊢; exact Or.inl hx), map_loc ca.toList fun x hx => h x (by simp [Op.operands] at hx ⊢; exact Or.inr hx)]
  | _ => first
    | rfl
    | (simp [Op.operands] at h; simp only [opE, h])
theorem callOf_loc {env env' : List (Nat × AV)} (o : Op) (h : ∀ x ∈ o.operands.toList, evalA env x = evalA env' x) : callOf env o = callOf env' o := by
  unfold callOf
  split
  · rename_i f args ts
    rw [h f (by simp [Op.operands, Call.operands]), map_loc args.toList fun x hx => h x (by simp [Op.operands, Call.operands]; exact Or.inr (by simpa using hx))]
  · rfl

/-- 0: looks at no object; 1: leaves the objects as they are; 2: neither is said. -/
def cls (P : Program) : Op → Nat
  | .move _ | .assign _ | .pick _ _ _ | .build _ _ | .unOp _ _ _ | .makeInterface _ _ | .makeFunc _ _ _ | .field _ _ _ | .index _ _ _ | .extract _ _ => 0
  | .load _ _ | .nilCheck _ | .binOp _ _ _ _ _ | .slice _ _ _ _ _ | .fieldAddr _ _ _ | .indexAddr _ _ _ | .lookup _ _ _ _ | .buildSlice _ _ _ => 1
  | .convert s d _ => match tk P s, tk P d with
    | some .str, some (.slice _) => 2
    | _, _ => 1
  | .call { callee := .value _, .. } => 1
  | .call { callee := .builtin .len, .. } => 1
  | _ => 2

theorem keep {O : List AObj} {E : Ev AV} {Q : AV × List AObj → Prop} (h : (E.bind fun x => .ret (x, O)).holds Q) : (E.bind fun x => Ev.ret (x, O)).holds fun y => Q y ∧ y.2 = O := by
  rw [Ev.holds_bind] at h ⊢
  exact h.mono fun x hx => ⟨hx, rfl⟩
theorem keepB {P : Program} {O : List AObj} {t n xs} {Q : AV × List AObj → Prop} (h : (buildSliceE P O t n xs).holds Q) : (buildSliceE P O t n xs).holds fun y => Q y ∧ y.2 = O := by
  unfold buildSliceE at h ⊢
  split at h
  · rename_i e he
    split at h
    · rename_i sz zs h1 h2
      split at h
      · rename_i out ho
        exact ⟨h.1, h.2, rfl⟩
      · exact h.elim
    · exact h.elim
  · exact h.elim
theorem cls_keep {P : Program} {env : List (Nat × AV)} {O : List AObj} (o : Op) (hc : cls P o ≤ 1) (hcall : callOf env o = none) {Q : AV × List AObj → Prop} (h : (opE P env O o).holds Q) :
    (opE P env O o).holds fun y => Q y ∧ y.2 = O := by
  cases o with
  | call c =>
    obtain ⟨callee, args, ts⟩ := c
    cases callee with
    | builtin b =>
      cases b <;> first | (simp [cls] at hc) | skip
      simp only [opE, builtE] at h ⊢
      split at h <;> first | exact keep h | exact h.elim | (rename_i h9 _ _; cases h9)
    | value f => simp [callOf] at hcall
    | _ => exact h.elim
  | convert s d x =>
    simp only [opE, convX] at h ⊢
    simp only [cls] at hc
    split at h
    · rename_i h1 h2; simp [h1, h2] at hc
    · exact keep h
  | buildSlice t n ps => exact keepB h
  | move x => exact ⟨h, rfl⟩
  | assign x => exact ⟨h, rfl⟩
  | _ => first
    | exact keep h
    | exact h.elim
    | (simp [cls] at hc)
theorem any0 {O O' : List AObj} {E : Ev AV} {x : AV × List AObj} (h : (E.bind fun x => .ret (x, O)).holds fun y => y = x) : (E.bind fun x => Ev.ret (x, O')).holds fun y => y = (x.1, O') := by
  rw [Ev.holds_bind] at h ⊢
  exact h.mono fun y hy => by simp only [Ev.holds] at hy ⊢; rw [← hy]
theorem cls_any {P : Program} {env : List (Nat × AV)} {O : List AObj} (o : Op) (hc : cls P o = 0) {x : AV × List AObj} (h : (opE P env O o).holds fun y => y = x) (O' : List AObj) :
    (opE P env O' o).holds fun y => y = (x.1, O') := by
  cases o with
  | call c =>
    obtain ⟨callee, args, ts⟩ := c
    cases callee with
    | builtin b => cases b <;> simp [cls] at hc
    | value f => simp [cls] at hc
    | _ => exact h.elim
  | convert s d x => simp only [cls] at hc; split at hc <;> cases hc
  | move x => simp only [opE, Ev.holds] at h ⊢; rw [← h]
  | assign x => simp only [opE, Ev.holds] at h ⊢; rw [← h]
  | _ => first
    | exact any0 h
    | exact h.elim
    | (simp [cls] at hc)
end Go.Aw
namespace Go.Aw
open Region

theorem get_put_ne {n : Nat} {env : List (Nat × AV)} {dst : Option Nat} {x : AV} {t : Nat} (h : dst ≠ some t) : get (put n env dst x) t = get env t := by
  unfold put
  split
  · rename_i d
    simp only [get]
    rw [if_neg (fun e => h (by rw [e]))]
  · rfl
theorem get_put_eq {n : Nat} {env env' : List (Nat × AV)} {t : Nat} {x : AV} : get (put n env (some t) x) t = get (put n env' (some t) x) t := by
  simp [put, get]

def want1 (ops : Array Oper) (env : List (Nat × AV)) (o : Oper) : Option Bool :=
  match o.guard with
  | none => some true
  | some (j, want) => match (ops[j]?).bind (·.dst) with
    | some d => match get env d with
      | .lit (.bool b) => some (b == want)
      | .lit (.tuple _) => some false
      | _ => none
    | none => none
def Gives (P : Program) (st : St) (o : Op) (x : AV × List AObj) : Prop :=
  match callOf st.env o with
  | some (v, args) => ∃ g cs r, calleeOf v = some (g, cs) ∧ (args ++ cs).all closedA = true ∧ Pure P g ((args ++ cs).map normA) r ∧ x = (r, st.objs)
  | none => (opE P st.env st.objs o).holds fun y => y = x
def Stp (P : Program) (n : Nat) (ops : Array Oper) (j : Nat) (st st' : St) : Prop :=
  ∃ o x, ops[j]? = some o ∧ (∀ t, get st'.env t = get (put n st.env o.dst x.1) t) ∧ st'.objs = x.2 ∧ ((want1 ops st.env o = some true ∧ Gives P st o.op x) ∨ (want1 ops st.env o = some false ∧ x = (undefA, st.objs)))

section
variable {P : Program} {f : FuncId} {n : Nat} {O0 : List AObj} {Q : AV → List AObj → Prop} {ops : Array Oper} {k : List Item}

theorem want_ok {st : St} {o : Oper} {b : Bool} (h : want1 ops st.env o = some b) {c K σ a w} (hR : R c K σ st n a w) : Region.wanted o (yielded ops a.tmps) = b := by
  unfold want1 at h
  split at h
  · rename_i hg; cases h; simp [Region.wanted, hg]
  · rename_i j want hg
    split at h
    · rename_i d hd
      split at h
      · rename_i v hv
        cases h
        simp [Region.wanted, hg, yield_of hR hd hv]
      · rename_i vs hv
        cases h
        have h1 := hR.env d
        rw [hv] at h1
        have h2 := h1.litv
        have h3 : yielded ops a.tmps j = none := by
          unfold yielded
          rw [hd]
          simp only [Option.bind_some]
          cases h3 : a.tmps[d]? with
          | none => rfl
          | some v => simp [h3] at h2; rw [h2]
        simp [Region.wanted, hg, h3]
      · cases h
    · cases h
theorem W.ext {todo : List Item} {st st' : St} (he : ∀ t, get st.env t = get st'.env t) (hO : st.objs = st'.objs) (hW : W P f n O0 todo st' Q) : W P f n O0 todo st Q := by
  obtain ⟨env, O⟩ := st
  obtain ⟨env', O'⟩ := st'
  dsimp only at he hO
  subst hO
  exact fun c K σ a w hc hR => hW c K σ a w hc ⟨hR.mem, fun t => by dsimp only; rw [← he]; exact hR.env t, hR.size, hR.defers⟩

theorem Stp.run {j : Nat} {st st' : St} (h : Stp P n ops j st st') {rest : List Nat} (hW : W P f n O0 (.inRegion ops rest :: k) st' Q) : W P f n O0 (.inRegion ops (j :: rest) :: k) st Q := by
  obtain ⟨o, x, ho, he, hO, hx⟩ := h
  have hW : W P f n O0 (.inRegion ops rest :: k) ⟨put n st.env o.dst x.1, x.2⟩ Q := W.ext (fun t => (he t).symm) hO.symm hW
  obtain ⟨hw, hd⟩ | ⟨hw, rfl⟩ := hx
  · unfold Gives at hd
    split at hd
    · rename_i v args hc
      obtain ⟨g, cs, r, h1, h2, h3, rfl⟩ := hd
      exact W.call ho (fun _ _ _ _ _ hR => want_ok hw hR) hc h1 (h3.calls (fitsL_norm _ h2) hW)
    · exact W.op ho (fun _ _ _ _ _ hR => want_ok hw hR) (hd.mono fun y hy => by rw [hy]; exact hW)
  · exact W.unw ho (fun _ _ _ _ _ hR => want_ok hw hR) hW

/-- The temporaries that an operation looks at. -/
def rdT (ops : Array Oper) (o : Oper) : List Nat :=
  (o.op.operands.toList.filterMap fun | .tmp t => some t | _ => none) ++ match o.guard with | some (j, _) => ((ops[j]?).bind (·.dst)).toList | none => []
theorem rd_opd {env env' : List (Nat × AV)} {o : Oper} (h : ∀ t ∈ rdT ops o, get env t = get env' t) : ∀ x ∈ o.op.operands.toList, evalA env x = evalA env' x := fun x hx => by
  cases x with
  | tmp t => exact h t (List.mem_append_left _ (List.mem_filterMap.2 ⟨_, hx, rfl⟩))
  | _ => rfl
theorem rd_want {env env' : List (Nat × AV)} {o : Oper} (h : ∀ t ∈ rdT ops o, get env t = get env' t) : want1 ops env o = want1 ops env' o := by
  unfold want1
  split
  · rfl
  · rename_i j want hg
    split
    · rename_i d hd
      have : get env d = get env' d := h d (List.mem_append_right _ (by rw [hg]; simp [hd]))
      rw [this]
    · rfl
theorem Stp.keep {j : Nat} {st st' : St} {o : Oper} (h : Stp P n ops j st st') (ho : ops[j]? = some o) (hc : cls P o.op ≤ 1) : st'.objs = st.objs := by
  obtain ⟨o', x, ho', he, hO, hx⟩ := h
  rw [hO]
  obtain ⟨hw, hd⟩ | ⟨hw, rfl⟩ := hx
  · rw [ho] at ho'; cases ho'
    unfold Gives at hd
    split at hd
    · obtain ⟨g, cs, r, h1, h2, h3, rfl⟩ := hd; rfl
    · rename_i hcall
      have := cls_keep o.op hc hcall hd
      have h2 : ∀ {E : Ev (AV × List AObj)} {x : AV × List AObj} {p : Prop}, E.holds (fun y => y = x ∧ p) → p := by
        intro E x p
        induction E with
        | ret a => exact fun h => h.2
        | need q k ih => exact fun h => ih h.2
        | fork b u v ihu ihv => cases b with
          | true => exact fun h => ihu (h.1 rfl)
          | false => exact fun h => ihv (h.2 rfl)
        | bad => exact fun h => h.elim
      have h3 : (opE P st.env st.objs o.op).holds fun y => y = x ∧ x.2 = st.objs := this.mono fun y hy => ⟨hy.1, by rw [← hy.1]; exact hy.2⟩
      exact h2 h3
  · rfl
theorem Stp.dst {j : Nat} {st st' : St} {o : Oper} (h : Stp P n ops j st st') (ho : ops[j]? = some o) {t : Nat} (ht : o.dst ≠ some t) : get st'.env t = get st.env t := by
  obtain ⟨o', x, ho', he, _⟩ := h
  rw [ho] at ho'; cases ho'
  rw [he]; exact get_put_ne ht
/-- The step, taken in another state that looks alike. -/
theorem Stp.move {j : Nat} {st st' st2 : St} {o : Oper} (h : Stp P n ops j st st') (ho : ops[j]? = some o) (he : ∀ t ∈ rdT ops o, get st2.env t = get st.env t) (hO : cls P o.op ≠ 0 → st2.objs = st.objs) :
    ∃ st2', Stp P n ops j st2 st2' ∧ (∀ t, o.dst = some t → get st2'.env t = get st'.env t) ∧ (∀ t, o.dst ≠ some t → get st2'.env t = get st2.env t) ∧
      (cls P o.op = 2 → st2'.objs = st'.objs) ∧ (cls P o.op ≤ 1 → st2'.objs = st2.objs) := by
  have hkeep := h.keep ho
  obtain ⟨o', x, ho', hen, hob, hx⟩ := h
  rw [ho] at ho'; cases ho'
  have hw := rd_want he
  have hop := rd_opd he
  by_cases hc : cls P o.op = 0
  · have hk : x.2 = st.objs := hob.symm.trans (hkeep (by omega))
    refine ⟨⟨put n st2.env o.dst x.1, st2.objs⟩, ⟨o, (x.1, st2.objs), ho, fun _ => rfl, rfl, ?_⟩, fun t ht => by rw [hen, ht]; exact get_put_eq, fun t ht => get_put_ne ht, fun h => by omega, fun _ => rfl⟩
    rcases hx with ⟨h1, h2⟩ | ⟨h1, rfl⟩
    · refine .inl ⟨hw.trans h1, ?_⟩
      unfold Gives at h2 ⊢
      rw [callOf_loc o.op hop]
      split at h2
      · obtain ⟨g, cs, r, g1, g2, g3, rfl⟩ := h2
        exact ⟨g, cs, r, g1, g2, g3, rfl⟩
      · rw [opE_loc o.op hop]
        exact cls_any o.op hc h2 _
    · exact .inr ⟨hw.trans h1, rfl⟩
  · have hO := hO hc
    refine ⟨⟨put n st2.env o.dst x.1, x.2⟩, ⟨o, x, ho, fun _ => rfl, rfl, ?_⟩, fun t ht => by rw [hen, ht]; exact get_put_eq, fun t ht => get_put_ne ht, fun _ => hob.symm, fun h => hob.symm.trans ((hkeep h).trans hO.symm)⟩
    rcases hx with ⟨h1, h2⟩ | ⟨h1, rfl⟩
    · refine .inl ⟨hw.trans h1, ?_⟩
      unfold Gives at h2 ⊢
      rw [callOf_loc o.op hop, hO, opE_loc o.op hop]
      exact h2
    · exact .inr ⟨hw.trans h1, by rw [hO]⟩

inductive Anc (ops : Array Oper) : Nat → Nat → Prop
  | base {j : Nat} {o : Oper} {e : Edge} : ops[j]? = some o → e ∈ o.after.toList → binds .any e = true → Anc ops e.on j
  | step {i j : Nat} {o : Oper} {e : Edge} : ops[j]? = some o → e ∈ o.after.toList → binds .any e = true → Anc ops i e.on → Anc ops i j

/-- Two operations whose order matters. -/
def conf (P : Program) (ops : Array Oper) (a b : Oper) : Bool :=
  (match a.dst with | some t => (rdT ops b).contains t || b.dst == some t | none => false) ||
  (match b.dst with | some t => (rdT ops a).contains t | none => false) ||
  (cls P a.op == 2 && cls P b.op != 0) || (cls P b.op == 2 && cls P a.op != 0)

theorem same_env {sts : Nat → St} (hs : ∀ j, j < ops.size → Stp P n ops j (sts j) (sts (j + 1))) {t m : Nat} : ∀ (m' : Nat), m ≤ m' → m' ≤ ops.size → (∀ i o, m ≤ i → i < m' → ops[i]? = some o → o.dst ≠ some t) → get (sts m').env t = get (sts m).env t
  | 0, hm, _, _ => by have : m = 0 := by omega
                      subst this; rfl
  | m' + 1, hm, hN, h => by
    rcases Nat.lt_or_ge m' m with hlt | hge
    · have : m = m' + 1 := by omega
      subst this; rfl
    · have ho : ops[m']? = some ops[m'] := by simp [Nat.lt_of_succ_le hN]
      rw [(hs m' hN).dst ho (h m' _ hge (Nat.lt_succ_self _) ho)]
      exact same_env hs m' hge (by omega) fun i o h1 h2 => h i o h1 (by omega)
theorem same_objs {sts : Nat → St} (hs : ∀ j, j < ops.size → Stp P n ops j (sts j) (sts (j + 1))) {m : Nat} : ∀ (m' : Nat), m ≤ m' → m' ≤ ops.size → (∀ i o, m ≤ i → i < m' → ops[i]? = some o → cls P o.op ≠ 2) → (sts m').objs = (sts m).objs
  | 0, hm, _, _ => by have : m = 0 := by omega
                      subst this; rfl
  | m' + 1, hm, hN, h => by
    rcases Nat.lt_or_ge m' m with hlt | hge
    · have : m = m' + 1 := by omega
      subst this; rfl
    · have ho : ops[m']? = some ops[m'] := by simp [Nat.lt_of_succ_le hN]
      have hc := h m' _ hge (Nat.lt_succ_self _) ho
      have h2 : cls P ops[m'].op ≤ 1 := by
        have : cls P ops[m'].op ≤ 2 := by
          generalize ops[m'].op = o
          unfold cls
          repeat' split
          all_goals omega
        omega
      rw [(hs m' hN).keep ho h2]
      exact same_objs hs m' hge (by omega) fun i o h1 h2 => h i o h1 (by omega)

theorem perm_ok {sts : Nat → St} (hs : ∀ j, j < ops.size → Stp P n ops j (sts j) (sts (j + 1))) (hconf : ∀ i j a b, i < j → ops[i]? = some a → ops[j]? = some b → conf P ops a b = true → Anc ops i j)
    (hW : ∀ st, (∀ t, get st.env t = get (sts ops.size).env t) → st.objs = (sts ops.size).objs → W P f n O0 k st Q) {S : Nat → Bool} {l : List Nat} (hl : Sched ops S l) :
    ∀ st : St, (∀ t, ∃ m, m ≤ ops.size ∧ (∀ i o, ops[i]? = some o → o.dst = some t → (S i = true ↔ i < m)) ∧ get st.env t = get (sts m).env t) →
      (∃ m, m ≤ ops.size ∧ (∀ i o, ops[i]? = some o → cls P o.op = 2 → (S i = true ↔ i < m)) ∧ st.objs = (sts m).objs) →
      (∀ i j, S j = true → Anc ops i j → S i = true) → W P f n O0 (.inRegion ops l :: k) st Q := by
  induction hl with
  | nil hall =>
    intro st he ⟨m, hm, hO, hO2⟩ _
    have hlt : ∀ {i o}, ops[i]? = some o → i < ops.size := fun {i o} h => by
      rcases Nat.lt_or_ge i ops.size with h1 | h1
      · exact h1
      · rw [Array.getElem?_eq_none h1] at h; cases h
    have := hW st (fun t => by
      obtain ⟨m, hm, h1, h2⟩ := he t
      rw [h2, same_env hs ops.size hm (Nat.le_refl _)]
      intro i o hi hi2 ho hd
      have := (h1 i o ho hd).1 (hall i hi2)
      omega) (by
      rw [hO2, same_objs hs ops.size hm (Nat.le_refl _)]
      intro i o hi hi2 ho hd
      have := (hO i o ho hd).1 (hall i hi2)
      omega)
    exact fun c K σ a w hc hR => .region_end (this c K σ a w hc hR)
  | @cons S j o l ho hj hedge _ ih =>
    intro st he hO hcl
    have hlt : j < ops.size := by
      rcases Nat.lt_or_ge j ops.size with h1 | h1
      · exact h1
      · rw [Array.getElem?_eq_none h1] at ho; cases ho
    have hanc : ∀ i, Anc ops i j → S i = true := fun i h => by
      cases h with
      | base h1 h2 h3 => rw [ho] at h1; cases h1; exact hedge _ h2 h3
      | step h1 h2 h3 h4 => rw [ho] at h1; cases h1; exact hcl _ _ (hedge _ h2 h3) h4
    -- what stands in conflict with j
    have hbefore : ∀ i a, ops[i]? = some a → i < j → conf P ops a o = true → S i = true := fun i a ha hi hc => hanc i (hconf i j a o hi ha ho hc)
    have hafter : ∀ i a, ops[i]? = some a → j < i → conf P ops o a = true → S i = false := fun i a ha hi hc => by
      cases h : S i with
      | false => rfl
      | true => have := hcl j i h (hconf j i o a hi ho ha hc); rw [hj] at this; cases this
    have hsize : ∀ {i a}, ops[i]? = some a → i < ops.size := fun {i a} h => by
      rcases Nat.lt_or_ge i ops.size with h1 | h1
      · exact h1
      · rw [Array.getElem?_eq_none h1] at h; cases h
    have hread : ∀ t ∈ rdT ops o, get st.env t = get (sts j).env t := fun t ht => by
      obtain ⟨m, hm, h1, h2⟩ := he t
      rw [h2]
      rcases Nat.le_total m j with hmj | hmj
      · refine (same_env hs j hmj (Nat.le_of_lt hlt) fun i a hi hi2 ha hd => ?_).symm
        have := (h1 i a ha hd).1 (hbefore i a ha hi2 (by simp [conf, hd, ht]))
        omega
      · refine same_env hs m hmj hm fun i a hi hi2 ha hd => ?_
        have h3 := (h1 i a ha hd).2 hi2
        rcases Nat.eq_or_lt_of_le hi with rfl | hlt2
        · rw [hj] at h3; cases h3
        · have := hafter i a ha hlt2 (by simp [conf, hd, ht])
          rw [h3] at this; cases this
    have hobj : cls P o.op ≠ 0 → st.objs = (sts j).objs := fun hc => by
      obtain ⟨m, hm, h1, h2⟩ := hO
      rw [h2]
      rcases Nat.le_total m j with hmj | hmj
      · refine (same_objs hs j hmj (Nat.le_of_lt hlt) fun i a hi hi2 ha hd => ?_).symm
        have := (h1 i a ha hd).1 (hbefore i a ha hi2 (by simp [conf, hd, hc]))
        omega
      · refine same_objs hs m hmj hm fun i a hi hi2 ha hd => ?_
        have h3 := (h1 i a ha hd).2 hi2
        rcases Nat.eq_or_lt_of_le hi with rfl | hlt2
        · rw [hj] at h3; cases h3
        · have := hafter i a ha hlt2 (by simp [conf, hd, hc])
          rw [h3] at this; cases this
    obtain ⟨st2, hstp, e1, e2, e3, e4⟩ := (hs j hlt).move ho hread hobj
    refine hstp.run (ih st2 (fun t => ?_) ?_ ?_)
    · by_cases hd : o.dst = some t
      · refine ⟨j + 1, hlt, fun i a ha hda => ?_, e1 t hd⟩
        rcases Nat.lt_trichotomy i j with h | rfl | h
        · simp [hbefore i a ha h (by simp [conf, hda, hd])]; omega
        · simp
        · have h3 := hafter i a ha h (by simp [conf, hda, hd])
          simp [h3]; omega
      · obtain ⟨m, hm, h1, h2⟩ := he t
        refine ⟨m, hm, fun i a ha hda => ?_, (e2 t hd).trans h2⟩
        have : i ≠ j := fun e => by subst e; rw [ho] at ha; cases ha; exact hd hda
        simp [this]; exact h1 i a ha hda
    · by_cases hc : cls P o.op = 2
      · refine ⟨j + 1, hlt, fun i a ha hda => ?_, e3 hc⟩
        rcases Nat.lt_trichotomy i j with h | rfl | h
        · simp [hbefore i a ha h (by simp [conf, hda, hc])]; omega
        · simp
        · have h3 := hafter i a ha h (by simp [conf, hda, hc])
          simp [h3]; omega
      · obtain ⟨m, hm, h1, h2⟩ := hO
        have hc1 : cls P o.op ≤ 1 := by
          have : cls P o.op ≤ 2 := by
            generalize o.op = o
            unfold cls
            repeat' split
            all_goals omega
          omega
        refine ⟨m, hm, fun i a ha hda => ?_, (e4 hc1).trans h2⟩
        have : i ≠ j := fun e => by subst e; rw [ho] at ha; cases ha; exact hc hda
        simp [this]; exact h1 i a ha hda
    · intro i j' h hA
      simp only [Bool.or_eq_true, beq_iff_eq] at h ⊢
      rcases h with h | rfl
      · exact .inl (hcl i j' h hA)
      · exact .inl (hanc i hA)
end
end Go.Aw
