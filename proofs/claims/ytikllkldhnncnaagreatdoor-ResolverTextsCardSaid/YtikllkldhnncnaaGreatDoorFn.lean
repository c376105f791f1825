/- Calls that write into one object of the caller's, and calls that make one. The dice: Mod, Next. Light, Roll, Spoil. -/
import Derived.Test.YtikllkldhnncnaaGreatDoorFm
set_option linter.all false
namespace Go.Aw
section
variable {P : Program} {f : FuncId} {fn : Func} {n : Nat}
theorem initR {K : Sto} {σ1 : Plc} {O1 : List AObj} {c : Ctx} {w : World} (hRA : RA c K σ1 O1 w) {vs : Array Value} {args : List AV} (hvs : vs.size = args.length) (hn : args.length ≤ n)
    (hr : ∀ i (h : i < args.length), Rep K σ1 O1 (vs.getD i undef) args[i]) : R c K σ1 ⟨initE 0 args, O1⟩ n { tmps := vs ++ Array.replicate (n - vs.size) undef, defers := [] } w := by
  refine ⟨hRA, fun t => ?_, by simp; omega, rfl⟩
  rw [get_initE, if_pos (Nat.zero_le _), Nat.sub_zero]
  by_cases ht : t < args.length
  · have := hr t ht
    have e1 : (vs ++ Array.replicate (n - vs.size) undef).getD t undef = vs.getD t undef := by
      simp only [Array.getD_eq_getD_getElem?, Array.getElem?_append]
      rw [if_pos (by omega)]
    dsimp only
    rw [e1]
    simpa [ht] using this
  · have e2 : args.getD t .any = .any := by simp [List.getElem?_eq_none (show args.length ≤ t by omega)]
    rw [e2]; exact .any _
theorem CallsA.onBox {c : Code} (hf : P.funcs[f]? = some fn) (hb : fn.body = some c) (hname : (fn.name == "runtime.NumGoroutine") = false) (hn : fn.ntmps = n) {xs args : List AV} (hl : args.length + 1 ≤ n) {S : AV → List AV → Prop}
    (h : W P f n [.box xs] [.code c] ⟨initE 0 (.ptr 0 0 :: args), [.box xs]⟩ (fun r O' => ∃ ys tl, O' = .box ys :: tl ∧ closedA r = true ∧ ys.all closed1 = true ∧ S r ys))
    {O : List AObj} {id : Nat} (ho : O[id]? = some (.box xs)) (hx : xs.all closed1 = true) {args' : List AV} (ha : fitsL args' args) {Q : AV → List AObj → Prop} (hq : ∀ r ys, S r ys → Q r (O.set id (.box ys))) :
    CallsA P f (.ptr id 0 :: args') O Q := by
  subst hn
  obtain ⟨hal, hfit⟩ := fitsL_ok _ _ ha
  refine ⟨⟨fn, hf, hname, by rw [hb]; rfl⟩, fun K σ w vs hK hobj hinj hvs hr => ?_⟩
  refine Calls_of_Runs hf hb ?_
  have hidl : AObj.alive O[id]? := by rw [ho]; trivial
  have hid := hobj id
  rw [ho] at hid
  obtain ⟨k0, arr, ty, fr, hb1, hfr, hsz, hcell⟩ := hid
  have hcl : ∀ i (h : i < xs.length), Rep K σ [] (arr.getD i undef) xs[i] := fun i hi => (hcell i hi).closed (List.all_eq_true.1 hx _ (List.getElem_mem hi))
  have hRA : RA ⟨K, fun _ => σ id, [.box xs], w⟩ K (fun _ => σ id) [.box xs] w := RA.enter hK (fun j => by
    cases j with
    | zero => exact ⟨k0, arr, ty, fr, hb1, hfr, hsz, fun i hi => (hcl i hi).mono (fun _ _ h => h) (.nil _ _ _)⟩
    | succ j => trivial) (fun i j hi hj _ => by
      have h1 := alive_lt hi
      have h2 := alive_lt hj
      simp at h1 h2
      omega)
  have hrep : ∀ i (h : i < (AV.ptr 0 0 :: args).length), Rep K (fun _ => σ id) [.box xs] (vs.getD i undef) (AV.ptr 0 0 :: args)[i] := fun i hi => by
    cases i with
    | zero =>
      have h0 := hr 0 (by simp)
      simp only [List.getElem_cons_zero] at h0 ⊢
      generalize vs.getD 0 undef = v at h0 ⊢
      cases h0 with
      | ptr _ _ _ g1 g2 g3 =>
        refine .ptr _ 0 0 g1 (by simp) fun xs' e => ?_
        exact g3 _ ho
    | succ i =>
      simp only [List.length_cons] at hi
      have h0 := hr (i + 1) (by simp; omega)
      simp only [List.getElem_cons_succ] at h0 ⊢
      exact (fits_rep h0 (hfit i (by omega) (by omega))).mono (fun _ _ h => h) (.nil _ _ _)
  have hW := h ⟨K, fun _ => σ id, [.box xs], w⟩ K (fun _ => σ id) _ w rfl (initR hRA (by simp at hvs ⊢; omega) (by simp; omega) hrep)
  intro cs
  obtain ⟨e, w', fr', ⟨v, r, K', σ', O', g1, g2, g3, ys, tl, rfl, g4, g5, g6⟩, hc⟩ := hW cs
  refine ⟨e, w', fr', ⟨v, r, K', σ, O.set id (.box ys), g1, ?_, (g3.closedA g4).mono (fun _ _ h => h) (.nil _ _ _), hq _ _ g6⟩, hc⟩
  obtain ⟨⟨xs', e1, e2⟩, e3⟩ := g2.comp.box 0 ys (by simp) rfl
  simp only [List.getElem?_cons_zero, Option.some.injEq, AObj.box.injEq] at e1
  subst e1
  have hcomp : Compat O σ (O.set id (.box ys)) σ := Compat.set ho (fun _ _ => rfl) (fun xs' e => by cases e; exact ⟨⟨xs, rfl, e2⟩, rfl⟩) (fun _ _ e => by cases e) (fun _ e => by cases e) (fun _ _ e => by cases e)
  have hown : ∀ b, owns [.box xs] (fun _ => σ id) b → b = (σ id).1 := fun b ⟨j, _, e⟩ => e.symm
  have hidlt : id < O.length := alive_lt hidl
  have hal2 : ∀ j, AObj.alive (O.set id (.box ys))[j]? → AObj.alive O[j]? := fun j hj => by
    rw [List.getElem?_set] at hj
    split at hj
    · rename_i e; subst e; exact hidl
    · exact hj
  have hne : ∀ j, AObj.alive O[j]? → j ≠ id → (σ j).1 ≠ (σ id).1 := fun j hj hji e => hji (hinj j id hj hidl e)
  refine ⟨g2.os, g2.tape, g2.output, g2.size, g2.cons, fun j => ?_, fun i j hi hj => hinj i j (hal2 i hi) (hal2 j hj), fun b hlt hno => g2.frame b hlt fun ho' => hno ⟨id, hidl, (hown b ho').symm⟩,
    fun j hj => .inl ⟨j, hal2 j hj, rfl⟩, g2.le, fun b o hk => ?_, hcomp⟩
  · by_cases hji : j = id
    · subst hji
      rw [List.getElem?_set, if_pos rfl, if_pos hidlt]
      have := g2.objs 0
      rw [List.getElem?_cons_zero] at this
      obtain ⟨q0, arr', ty', fr'', q1, q2, q3, q4⟩ := this
      rw [e3] at q0 q1
      exact ⟨q0, arr', ty', fr'', q1, q2, q3, fun i hi => ((q4 i hi).closed (List.all_eq_true.1 g5 _ (List.getElem_mem hi))).mono (fun _ _ h => h) (.nil _ _ _)⟩
    · rw [List.getElem?_set, if_neg (Ne.symm hji)]
      refine (hobj j).mono (fun _ _ r => r.mono g2.le hcomp) rfl (fun ha hk => ?_) (fun ha => ?_) g2.le
      · cases hk' : K' (σ j).1 with
        | none => rfl
        | some o =>
          rcases g2.new _ _ hk' with q | q | q
          · have q : K (σ j).1 = some o := q
            have e := (show K (σ j).1 = none from hk).symm.trans q; cases e
          · exact (hne j ha hji (hown _ q)).elim
          · have := ((hobj j).block ha).2
            dsimp only at q; omega
      · exact g2.frame _ ((hobj j).block ha).2 fun ho' => hne j ha hji (hown _ ho')
  · rcases g2.new b o hk with q | q | q
    · exact .inl q
    · exact .inr (.inl ⟨id, hidl, (hown b q).symm⟩)
    · exact .inr (.inr q)
theorem CallsA.newBox {c : Code} (hf : P.funcs[f]? = some fn) (hb : fn.body = some c) (hname : (fn.name == "runtime.NumGoroutine") = false) (hn : fn.ntmps = n) {args : List AV} (hl : args.length ≤ n) {S : List AV → Prop}
    (h : W P f n [] [.code c] ⟨initE 0 args, []⟩ (fun r O' => ∃ ys tl, r = .ptr 0 0 ∧ O' = .box ys :: tl ∧ ys.all closed1 = true ∧ S ys))
    {O : List AObj} {args' : List AV} (ha : fitsL args' args) {Q : AV → List AObj → Prop} (hq : ∀ ys, S ys → Q (.ptr O.length 0) (O ++ [.box ys])) :
    CallsA P f args' O Q := by
  subst hn
  obtain ⟨hal, hfit⟩ := fitsL_ok _ _ ha
  refine ⟨⟨fn, hf, hname, by rw [hb]; rfl⟩, fun K σ w vs hK hobj hinj hvs hr => ?_⟩
  refine Calls_of_Runs hf hb ?_
  have hRA : RA ⟨K, σ0, [], w⟩ K σ0 [] w := .enter hK (fun id => by simp [RObj]) (fun i j hi => by have := alive_lt hi; simp at this)
  have hW := h ⟨K, σ0, [], w⟩ K σ0 _ w rfl (initR hRA (by omega) (by omega) fun i hi => fits_rep (hr i (by omega)) (hfit i (by omega) hi))
  intro cs
  obtain ⟨e, w', fr', ⟨v, r, K', σ', O', g1, g2, g3, ys, tl, rfl, rfl, g5, g6⟩, hc⟩ := hW cs
  let σ2 : Plc := σ.upd O.length (σ' 0)
  have s2 : ∀ j, j ≠ O.length → σ2 j = σ j := fun j hj => by show Plc.upd _ _ _ j = _; unfold Plc.upd; rw [if_neg hj]
  have s3 : σ2 O.length = σ' 0 := by show Plc.upd _ _ _ _ = _; unfold Plc.upd; rw [if_pos rfl]
  have hgt : ∀ j, j < O.length → (O ++ [AObj.box ys])[j]? = O[j]? := fun j hj => by rw [List.getElem?_append_left hj]
  have hge : (O ++ [AObj.box ys])[O.length]? = some (.box ys) := by simp
  have hnew : w.heap.size ≤ (σ' 0).1 := by
    rcases g2.own 0 (by rw [List.getElem?_cons_zero]; trivial) with ⟨_, hh, _⟩ | hh
    · have := alive_lt hh; simp at this
    · exact hh
  have hcomp : Compat O σ (O ++ [AObj.box ys]) σ2 := by
    refine ⟨by simp, fun j xs' hj he => ?_, fun j sz xs' hj he => ?_, fun j es' hj he => ?_, fun j es' se hj he => ?_⟩ <;> rw [hgt j hj] at he
    · exact ⟨⟨_, he, rfl⟩, s2 j (by omega)⟩
    · exact ⟨_, he, .inl ⟨rfl, s2 j (by omega)⟩⟩
    · exact ⟨⟨_, he⟩, s2 j (by omega)⟩
    · exact ⟨⟨_, _, he⟩, s2 j (by omega)⟩
  have halive : ∀ j, AObj.alive (O ++ [AObj.box ys])[j]? → (j < O.length ∧ AObj.alive O[j]?) ∨ j = O.length := fun j hj => by
    have hl := alive_lt hj
    simp at hl
    rcases Nat.lt_or_ge j O.length with hj2 | hj2
    · rw [hgt j hj2] at hj; exact .inl ⟨hj2, hj⟩
    · exact .inr (by omega)
  have hold : ∀ j, AObj.alive O[j]? → (σ j).1 < w.heap.size := fun j hj => ((hobj j).block hj).2
  cases g3 with
  | ptr _ _ _ p1 p2 p3 =>
    refine ⟨e, w', fr', ⟨v, .ptr O.length 0, K', σ2, O ++ [.box ys], g1, ?_, .ptr _ _ _ p1 (by simp) (fun xs' he => ?_), hq _ g6⟩, hc⟩
    · refine ⟨g2.os, g2.tape, g2.output, g2.size, g2.cons, fun j => ?_, fun i j hi hj hij => ?_, fun b hlt hno => g2.frame b hlt fun ⟨_, hh, _⟩ => by have := alive_lt hh; simp at this,
        fun j hj => ?_, g2.le, fun b o hk => ?_, hcomp⟩
      · rcases Nat.lt_trichotomy j O.length with hj | rfl | hj
        · rw [hgt j hj]
          refine (hobj j).mono (fun _ _ r => r.mono g2.le hcomp) (s2 j (by omega)) (fun ha hk => ?_) (fun ha => ?_) g2.le
          · cases hk' : K' (σ j).1 with
            | none => rfl
            | some o =>
              rcases g2.new _ _ hk' with q | ⟨_, hh, _⟩ | q
              · have q : K (σ j).1 = some o := q
                have e := (show K (σ j).1 = none from hk).symm.trans q; cases e
              · have := alive_lt hh; simp at this
              · have := hold j ha
                have q : w.heap.size ≤ (σ j).1 := q
                omega
          · exact g2.frame _ (hold j ha) fun ⟨_, hh, _⟩ => by have := alive_lt hh; simp at this
        · rw [hge]
          have := g2.objs 0
          rw [List.getElem?_cons_zero] at this
          obtain ⟨q0, arr', ty', fr'', q1, q2, q3, q4⟩ := this
          refine ⟨by rw [s3]; exact q0, arr', ty', fr'', by rw [s3]; exact q1, q2, q3, fun i hi => ((q4 i hi).closed (List.all_eq_true.1 g5 _ (List.getElem_mem hi))).mono (fun _ _ h => h) (.nil _ _ _)⟩
        · rw [List.getElem?_eq_none (by simp; omega)]; trivial
      · rcases halive i hi with ⟨hi1, hi2⟩ | rfl <;> rcases halive j hj with ⟨hj1, hj2⟩ | rfl
        · rw [s2 i (by omega), s2 j (by omega)] at hij; exact hinj i j hi2 hj2 hij
        · rw [s2 i (by omega), s3] at hij; have := hold i hi2; omega
        · rw [s3, s2 j (by omega)] at hij; have := hold j hj2; omega
        · rfl
      · rcases halive j hj with ⟨hj1, hj2⟩ | rfl
        · rw [s2 j (by omega)]; exact .inl ⟨j, hj2, rfl⟩
        · rw [s3]; exact .inr hnew
      · rcases g2.new b o hk with q | ⟨_, hh, _⟩ | q
        · exact .inl q
        · have := alive_lt hh; simp at this
        · exact .inr (.inr q)
    · rw [s3]
      exact p3 _ rfl
end
end Go.Aw
namespace Go.Proofs
open Go Go.Aw
set_option maxRecDepth 100000
def modZ (n : Int) (m : Nat) : Int := (n.tmod m + m).tmod m
theorem modZ_range (n : Int) {m : Nat} (h : 1 ≤ m) : 0 ≤ modZ n m ∧ modZ n m < m := by
  unfold modZ
  have h1 : -(m : Int) < n.tmod m := by
    have := Int.lt_tmod_of_pos n (show (0 : Int) < m by omega)
    omega
  rw [Int.tmod_eq_emod_of_nonneg (by omega)]
  exact ⟨Int.emod_nonneg _ (by omega), Int.emod_lt_of_pos _ (by omega)⟩
theorem mod_spec (n : Int) (m : Nat) (h : 1 ≤ m) (h2 : m ≤ 4294967296) : Go.Aw.Pure Tryz.prog 26 [.lit (.int .i64 n), .lit (.int .i64 m)] (.lit (.int .i64 (modZ n m))) := by
  refine Pure.ofS Tryz.func26 (c := Tryz.f26.body.getD .skip) rfl (by kernel_rfl) Tryz.ntmps26 (by simp) fun hs R hR => ?_
  have hw : IntKind.i64.wrap (n.tmod (Int.ofNat m) + Int.ofNat m) = n.tmod (Int.ofNat m) + Int.ofNat m := by
    have h1 := Int.lt_tmod_of_pos n (show (0 : Int) < (Int.ofNat m) by simp; omega)
    have h3 := Int.tmod_lt_of_pos n (show (0 : Int) < (Int.ofNat m) by simp; omega)
    simp only [Int.ofNat_eq_natCast] at *
    exact w64 (by omega) (by omega)
  refine S.run tab_ok Tryz.func26 rfl .nil _ _ fun P hP => ?_
  cbv
  refine fk (fun h => ?_) (fun h => ?_) <;> simp only [fold, plain] at h
  · exfalso
    simp at h; omega
  clear h
  cbv
  simp only [fold, plain, hw]
  refine ⟨by simp; omega, by simp; omega, ?_⟩
  exact hR
def Ints (ts : List (List AV)) : Prop := ∀ x ∈ ts, ∃ n, x = [.lit (.int .i64 n)]
def dice (ts : List (List AV)) (a : Nat) : List AV := [.seq ts, .lit (.int .i64 a)]
theorem next_W (ts : List (List AV)) (a m : Nat) (hts : Ints ts) (hl : ts.length ≤ 500) (ha : a ≤ ts.length) (hm : 1 ≤ m) (hm2 : m ≤ 1000) (Q : AV → List AObj → Prop)
    (hQ : ∀ v a' : Nat, v < m → a' ≤ ts.length → Q (.lit (.int .i64 v)) [.box (dice ts a')]) :
    W Tryz.prog 18 35 [.box (dice ts a)] [.code (Tryz.f18.body.getD .skip)] ⟨initE 0 [.ptr 0 0, .lit (.int .i64 m)], [.box (dice ts a)]⟩ Q := by
  unfold dice at *
  by_cases hal : a < ts.length
  · obtain ⟨nx, hn⟩ := hts _ (List.getElem_mem hal)
    have hg : ts.getD a [] = [.lit (.int .i64 nx)] := by rw [List.getD_eq_getElem?_getD, List.getElem?_eq_getElem hal, hn]; rfl
    have hx1 : IntKind.i64.wrap (Int.ofNat a + 1) = Int.ofNat (a + 1) := by rw [w64 (by simp; omega) (by simp; omega)]; simp
    have hx2 : IntKind.i64.wrap (Int.ofNat (a + 1) - 1) = Int.ofNat a := by rw [w64 (by simp <;> omega) (by simp; omega)]; simp
    have hmod := mod_spec nx m hm (by omega)
    obtain ⟨g1, g2⟩ := modZ_range nx hm
    have hQ' := hQ (modZ nx m).toNat (a + 1) (by omega) hal
    rw [show (((modZ nx m).toNat : Nat) : Int) = modZ nx m by omega] at hQ'
    clear hQ
    generalize modZ nx m = z at *
    refine S.run tab_ok Tryz.func18 rfl (.call (.lit (.int .i64 z)) .nil) _ _ fun P hP => ?_
    cbv
    refine ⟨.of (by kernel_rfl) hP, fk (fun h => ?_) (fun h => ?_)⟩ <;> simp only [fold, plain] at h
    · exfalso; simp at h; omega
    clear h
    cbv
    simp only [fold, plain, rows, decide_eq_true_eq]
    simp only [hx1, hx2, toNat_of, hg]
    exact ⟨.of (by kernel_rfl) hP, inB_of hal, rfl, by simp, rfl, .of hmod hP, hQ'⟩
  · have hQ' := hQ 0 a (by omega) ha
    refine S.run tab_ok Tryz.func18 rfl .nil _ _ fun P hP => ?_
    cbv
    refine ⟨.of (by kernel_rfl) hP, fk (fun h => ?_) (fun h => ?_)⟩ <;> simp only [fold, plain] at h
    · clear h; cbv; exact hQ'
    · exfalso; simp at h; omega
theorem next_calls {ts : List (List AV)} {a m : Nat} (hts : Ints ts) (hl : ts.length ≤ 500) (ha : a ≤ ts.length) (hm : 1 ≤ m) (hm2 : m ≤ 1000) {O : List AObj} {id : Nat} (ho : O[id]? = some (.box (dice ts a))) {Q : AV → List AObj → Prop}
    (hQ : ∀ v a' : Nat, v < m → a' ≤ ts.length → Q (.lit (.int .i64 v)) (O.set id (.box (dice ts a')))) : CallsA Tryz.prog 18 [.ptr id 0, .lit (.int .i64 m)] O Q :=
  CallsA.onBox Tryz.func18 (c := Tryz.f18.body.getD .skip) rfl (by kernel_rfl) Tryz.ntmps18 (by simp) (args' := [.lit (.int .i64 m)]) (S := fun r ys => ∃ v a' : Nat, v < m ∧ a' ≤ ts.length ∧ r = .lit (.int .i64 v) ∧ ys = dice ts a')
    (next_W ts a m hts hl ha hm hm2 _ fun v a' h1 h2 => ⟨_, [], rfl, rfl, rfl, v, a', h1, h2, rfl, rfl⟩) ho rfl ⟨⟨rfl, .inl rfl⟩, trivial⟩
    (fun r ys ⟨v, a', h1, h2, e1, e2⟩ => by rw [e1, e2]; exact hQ v a' h1 h2)
theorem CallI_of {P P0 : Program} {f n : Nat} {O0 : List AObj} {Q : AV → List AObj → Prop} {ops : Array Oper} {i : Nat} {l : List Oper} {k : List Item} {dst : Option Nat} {st : St} {g : FuncId} {args : List AV}
    (h : CallsA P0 g args st.objs fun r O' => WL P0 f n O0 ops i l k ⟨put n st.env dst r, O'⟩ Q) (e : P = P0) : S.CallI P f n O0 Q ops i l k dst st g args := ⟨e ▸ h⟩
def Strs (ws : List (List AV)) : Prop := ∀ x ∈ ws, ∃ w, x = [.str w]
theorem word_W (ts ws : List (List AV)) (a : Nat) (hts : Ints ts) (hl : ts.length ≤ 500) (ha : a ≤ ts.length) (hws : Strs ws) (hw1 : 1 ≤ ws.length) (hw2 : ws.length ≤ 1000) (Q : AV → List AObj → Prop)
    (hQ : ∀ (w : List UInt8) (a' : Nat), [AV.str w] ∈ ws → a' ≤ ts.length → Q (.str w) [.box (dice ts a')]) :
    W Tryz.prog 7 12 [.box (dice ts a)] [.code (Tryz.f7.body.getD .skip)] ⟨initE 0 [.ptr 0 0, .seq ws], [.box (dice ts a)]⟩ Q := by
  obtain ⟨D, hD⟩ : ∃ D, D = dice ts a := ⟨_, rfl⟩
  rw [← hD]
  refine S.run tab_ok Tryz.func7 rfl .nil _ _ fun P hP => ?_
  cbv
  refine CallI_of ?_ hP
  simp only [fold, plain]
  subst hD
  refine next_calls hts hl ha hw1 hw2 rfl fun v a' hv ha' => ?_
  obtain ⟨w, hw⟩ := hws _ (List.getElem_mem hv)
  have hmem : [AV.str w] ∈ ws := by rw [← hw]; exact List.getElem_mem hv
  have hg : ws.getD v [] = [.str w] := by rw [List.getD_eq_getElem?_getD, List.getElem?_eq_getElem hv, hw]; rfl
  have hQ' := hQ w a' hmem ha'
  obtain ⟨D, hD⟩ : ∃ D, D = dice ts a' := ⟨_, rfl⟩
  rw [← hD] at hQ' ⊢
  refine S.go tab_ok Tryz.func7 rfl .nil fun P hP => ?_
  cbv
  simp only [fold, plain, rows, decide_eq_true_eq]
  simp only [Int.ofNat_eq_natCast, Int.toNat_natCast, hg]
  refine ⟨⟨Int.natCast_nonneg _, by simpa using hv⟩, rfl, by simp, rfl, hQ'⟩
theorem word_calls {ts ws ws' : List (List AV)} {a : Nat} (hts : Ints ts) (hl : ts.length ≤ 500) (ha : a ≤ ts.length) (hws : Strs ws) (hw1 : 1 ≤ ws.length) (hw2 : ws.length ≤ 1000) {x : AV} (hx : fits x (.seq ws)) {O : List AObj} {id : Nat} (ho : O[id]? = some (.box (dice ts a))) {Q : AV → List AObj → Prop}
    (hQ : ∀ (w : List UInt8) (a' : Nat), [AV.str w] ∈ ws → a' ≤ ts.length → Q (.str w) (O.set id (.box (dice ts a')))) : CallsA Tryz.prog 7 [.ptr id 0, x] O Q :=
  CallsA.onBox Tryz.func7 (c := Tryz.f7.body.getD .skip) rfl (by kernel_rfl) Tryz.ntmps7 (args := [.seq ws]) (by simp) (args' := [x]) (S := fun r ys => ∃ (w : List UInt8) (a' : Nat), [AV.str w] ∈ ws ∧ a' ≤ ts.length ∧ r = .str w ∧ ys = dice ts a')
    (word_W ts ws a hts hl ha hws hw1 hw2 _ fun w a' h1 h2 => ⟨_, [], rfl, rfl, rfl, w, a', h1, h2, rfl, rfl⟩) ho rfl ⟨hx, trivial⟩
    (fun r ys ⟨w, a', h1, h2, e1, e2⟩ => by rw [e1, e2]; exact hQ w a' h1 h2)
def lits (l : List (List UInt8)) : List (List AV) := l.map fun w => [.str w]
theorem lits_strs (l : List (List UInt8)) : Strs (lits l) := fun x hx => by
  simp [lits] at hx; obtain ⟨w, _, e⟩ := hx; exact ⟨w, e.symm⟩
theorem lits_mem {l : List (List UInt8)} {w : List UInt8} (h : [AV.str w] ∈ lits l) : w ∈ l := by
  simp [lits] at h; exact h
theorem digest8_W (ts : List (List AV)) (a : Nat) (hts : Ints ts) (hl : ts.length ≤ 500) (ha : a ≤ ts.length) (Q : AV → List AObj → Prop)
    (hQ : ∀ (w : List UInt8) (a' : Nat), w.length = 44 → a' ≤ ts.length → Q (.str w) [.box (dice ts a')]) :
    W Tryz.prog 8 7 [.box (dice ts a)] [.code (Tryz.f8.body.getD .skip)] ⟨initE 0 [.ptr 0 0], [.box (dice ts a)]⟩ Q := by
  obtain ⟨D, hD⟩ : ∃ D, D = dice ts a := ⟨_, rfl⟩
  rw [← hD]
  refine S.run tab_ok Tryz.func8 rfl .nil _ _ fun P hP => ?_
  cbv
  refine CallI_of ?_ hP
  subst hD
  refine word_calls (ws := lits [[97], [98], [99], [100], [101], [102], [103], [104]]) (ws' := []) hts hl ha (lits_strs _) (by simp [lits]) (by simp [lits]) ⟨rfl, .inr rfl⟩ rfl fun w a' hw ha' => ?_
  have hw1 : w.length ≤ 100 := by
    have := lits_mem hw
    simp only [List.mem_cons, List.not_mem_nil, or_false] at this
    rcases this with rfl | rfl | rfl | rfl | rfl | rfl | rfl | rfl <;> simp
  have hd := digest19_spec w hw1
  have hQ' := hQ (digestS w) a' (digestS_length w) ha'
  generalize digestS w = d at *
  obtain ⟨D, hD⟩ : ∃ D, D = dice ts a' := ⟨_, rfl⟩
  rw [← hD] at hQ' ⊢
  refine S.go tab_ok Tryz.func8 rfl (.call (.str d) .nil) fun P hP => ?_
  cbv
  exact ⟨.of hd hP, hQ'⟩
theorem digest8_calls {ts : List (List AV)} {a : Nat} (hts : Ints ts) (hl : ts.length ≤ 500) (ha : a ≤ ts.length) {O : List AObj} {id : Nat} (ho : O[id]? = some (.box (dice ts a))) {Q : AV → List AObj → Prop}
    (hQ : ∀ (w : List UInt8) (a' : Nat), w.length = 44 → a' ≤ ts.length → Q (.str w) (O.set id (.box (dice ts a')))) : CallsA Tryz.prog 8 [.ptr id 0] O Q :=
  CallsA.onBox Tryz.func8 (c := Tryz.f8.body.getD .skip) rfl (by kernel_rfl) Tryz.ntmps8 (args := []) (by simp) (args' := []) (S := fun r ys => ∃ (w : List UInt8) (a' : Nat), w.length = 44 ∧ a' ≤ ts.length ∧ r = .str w ∧ ys = dice ts a')
    (digest8_W ts a hts hl ha _ fun w a' h1 h2 => ⟨_, [], rfl, rfl, rfl, w, a', h1, h2, rfl, rfl⟩) ho rfl trivial
    (fun r ys ⟨w, a', h1, h2, e1, e2⟩ => by rw [e1, e2]; exact hQ w a' h1 h2)
theorem key9_W (ts : List (List AV)) (a : Nat) (hts : Ints ts) (hl : ts.length ≤ 500) (ha : a ≤ ts.length) (Q : AV → List AObj → Prop)
    (hQ : ∀ (w : List UInt8) (a' : Nat), w.length = 44 → a' ≤ ts.length → Q (.str w) [.box (dice ts a')]) :
    W Tryz.prog 9 8 [.box (dice ts a)] [.code (Tryz.f9.body.getD .skip)] ⟨initE 0 [.ptr 0 0], [.box (dice ts a)]⟩ Q := by
  obtain ⟨D, hD⟩ : ∃ D, D = dice ts a := ⟨_, rfl⟩
  rw [← hD]
  refine S.run tab_ok Tryz.func9 rfl .nil _ _ fun P hP => ?_
  cbv
  refine CallI_of ?_ hP
  subst hD
  refine word_calls (ws := lits [[107], [108], [109], [110], [111], [112], [113], [114], [115], [116]]) (ws' := []) hts hl ha (lits_strs _) (by simp [lits]) (by simp [lits]) ⟨rfl, .inr rfl⟩ rfl fun w a' hw ha' => ?_
  have hw1 : w.length ≤ 100 := by
    have := lits_mem hw
    simp only [List.mem_cons, List.not_mem_nil, or_false] at this
    rcases this with rfl | rfl | rfl | rfl | rfl | rfl | rfl | rfl | rfl | rfl <;> simp
  have hd := sum_spec w hw1
  have hm := make20_2 (sumS w) (sumS_length w)
  have hQ' := hQ _ a' (key_length (sumS w) (sumS_length w)) ha'
  generalize (68 :: (enc64 (0 :: sumS w)).drop 1 : List UInt8) = y at *
  generalize sumS w = d at *
  obtain ⟨D, hD⟩ : ∃ D, D = dice ts a' := ⟨_, rfl⟩
  rw [← hD] at hQ' ⊢
  refine S.go tab_ok Tryz.func9 rfl (.call (.str d) (.call (.str y) .nil)) fun P hP => ?_
  cbv
  exact ⟨.of hd hP, .of hm hP, hQ'⟩
theorem key9_calls {ts : List (List AV)} {a : Nat} (hts : Ints ts) (hl : ts.length ≤ 500) (ha : a ≤ ts.length) {O : List AObj} {id : Nat} (ho : O[id]? = some (.box (dice ts a))) {Q : AV → List AObj → Prop}
    (hQ : ∀ (w : List UInt8) (a' : Nat), w.length = 44 → a' ≤ ts.length → Q (.str w) (O.set id (.box (dice ts a')))) : CallsA Tryz.prog 9 [.ptr id 0] O Q :=
  CallsA.onBox Tryz.func9 (c := Tryz.f9.body.getD .skip) rfl (by kernel_rfl) Tryz.ntmps9 (args := []) (by simp) (args' := []) (S := fun r ys => ∃ (w : List UInt8) (a' : Nat), w.length = 44 ∧ a' ≤ ts.length ∧ r = .str w ∧ ys = dice ts a')
    (key9_W ts a hts hl ha _ fun w a' h1 h2 => ⟨_, [], rfl, rfl, rfl, w, a', h1, h2, rfl, rfl⟩) ho rfl trivial
    (fun r ys ⟨w, a', h1, h2, e1, e2⟩ => by rw [e1, e2]; exact hQ w a' h1 h2)
end Go.Proofs
namespace Go.Proofs
open Go Go.Aw
set_option maxRecDepth 100000
theorem light_spec (ts : List (List AV)) : Go.Aw.Pure Tryz.prog 4 [.seq ts] (.lit (.bool (decide (Int.ofNat ts.length ≤ 500)))) := by
  refine Pure.ofS Tryz.func4 (c := Tryz.f4.body.getD .skip) rfl (by kernel_rfl) Tryz.ntmps4 (by simp) fun hs R hR => ?_
  refine S.run tab_ok Tryz.func4 rfl .nil _ _ fun P hP => ?_
  cbv
  simp only [fold, plain]
  exact hR
theorem roll_calls {ts : List (List AV)} {x : AV} (hx : fits x (.seq ts)) {O : List AObj} {Q : AV → List AObj → Prop} (hQ : Q (.ptr O.length 0) (O ++ [.box (dice ts 0)])) : CallsA Tryz.prog 6 [x] O Q :=
  CallsA.newBox Tryz.func6 (c := Tryz.f6.body.getD .skip) rfl (by kernel_rfl) Tryz.ntmps6 (args := [.seq ts]) (by simp) (S := fun ys => ys = dice ts 0) (by
    refine S.run tab_ok Tryz.func6 rfl .nil _ _ fun P hP => ?_
    cbv
    exact ⟨_, [], rfl, rfl, rfl, rfl⟩) (args' := [x]) ⟨hx, trivial⟩ (fun ys e => by rw [e]; exact hQ)
theorem set_enc {s : List UInt8} {i : Nat} (hi : i < s.length) (y : Int) :
    (s.map encB).set i (splice ((s.map encB).getD i []) 0 [.lit (.int .u8 (IntKind.u8.wrap y))]) = (s.set i (UInt8.ofNat (IntKind.u8.wrap y).toNat)).map encB := by
  rw [List.map_set, encB_u8]
  congr 1
  rw [List.getD_eq_getElem?_getD, List.getElem?_map, List.getElem?_eq_getElem hi]
  rfl
theorem spoil_spec (s : List UInt8) (hl : s.length ≤ 100000) (a b : Int) : ∃ w : List UInt8, w.length = s.length ∧ Go.Aw.Pure Tryz.prog 12 [.str s, .lit (.int .i64 a), .lit (.int .i64 b)] (.str w) := by
  by_cases hs0 : s = []
  · subst hs0
    refine ⟨[], rfl, ?_⟩
    refine Pure.ofS Tryz.func12 (c := Tryz.f12.body.getD .skip) rfl (by kernel_rfl) Tryz.ntmps12 (by simp) fun hs R hR => ?_
    refine S.run tab_ok Tryz.func12 rfl .nil _ _ fun P hP => ?_
    cbv
    exact hR
  · have hpos : 1 ≤ s.length := by cases s <;> simp at hs0 ⊢
    have hmod := mod_spec a s.length hpos (by omega)
    obtain ⟨g1, g2⟩ := modZ_range a hpos
    generalize modZ a s.length = z at *
    obtain ⟨i, rfl⟩ : ∃ i : Nat, z = i := ⟨z.toNat, by omega⟩
    have hi : i < s.length := by omega
    refine ⟨s.set i (UInt8.ofNat (IntKind.u8.wrap (((s.getD i 0).toNat : Int) + IntKind.u8.wrap b)).toNat), by simp, ?_⟩
    clear g1 g2
    refine Pure.ofS Tryz.func12 (c := Tryz.f12.body.getD .skip) rfl (by kernel_rfl) Tryz.ntmps12 (by simp) fun hs R hR => ?_
    clear hs
    have hI := isI_encB s i hi
    have hJ := intOf_encB s i hi
    have hse := @set_enc s i hi
    refine S.run tab_ok Tryz.func12 rfl (.call (.lit (.int .i64 i)) .nil) _ _ fun P hP => ?_
    cbv
    refine fk (fun h => ?_) (fun h => ?_) <;> simp only [fold, plain] at h
    · exfalso; simp at h; exact hs0 h
    clear h
    cbv
    simp only [fold, plain, rows, decide_eq_true_eq]
    simp only [toNat_of, hI, hJ, hse, rows, List.length_set, decide_eq_true_eq]
    exact ⟨trivial, .of hmod hP, ⟨trivial, trivial⟩, inB_of hi, trivial, trivial, ⟨trivial, trivial⟩, inB_of hi, ⟨trivial, trivial⟩, trivial, trivial, hR⟩
end Go.Proofs
