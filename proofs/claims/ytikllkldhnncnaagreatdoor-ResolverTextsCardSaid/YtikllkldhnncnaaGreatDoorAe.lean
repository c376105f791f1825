/- What the operations do to abstract values: rows that are made, bytes of strings, maps. Ranging over a map. -/
import Derived.Maps.RangeRun
import Derived.Test.YtikllkldhnncnaaGreatDoorAd
set_option linter.all false
namespace Go.Aw
section
variable {P : Program} {K : Sto} {σ : Plc} {O : List AObj} {w : World} {c : Ctx}

def makeSliceE (P : Program) (O : List AObj) (t : TypeId) (l cp : AV) : Ev (AV × List AObj) :=
  match tk P t, l, cp with
  | some (.slice e), .lit (.int _ l), .lit (.int _ cp) => match szT P e, byT P e, zeT P e with
    | some sz, some by_, some zs => .need (0 ≤ l ∧ l ≤ cp ∧ cp * by_ ≤ (LIM : Int) ∧ by_ ≠ 0 ∧ zs.length = sz ∧ cp ≤ (LIM : Int))
        (.ret (.own O.length l.toNat, O ++ [.buf sz (List.replicate l.toNat zs)]))
    | _, _, _ => .bad
  | _, _, _ => .bad
theorem wrap_small {n : Int} (h0 : 0 ≤ n) (h1 : n ≤ (LIM : Int)) : IntKind.i64.wrap n = n := by
  unfold LIM at h1
  simp [IntKind.wrap, IntKind.bits, IntKind.signed]
  omega
theorem makeSliceE_ok {t : TypeId} {v u : Value} {l cp : AV} (hv : Rep K σ O v l) (hu : Rep K σ O u cp) : DoesV P (Instr.makeSlice t v u) K σ O w (makeSliceE P O t l cp) := by
  unfold makeSliceE
  split
  · rename_i e k1 l k2 cp hk
    obtain rfl := hv.int
    obtain rfl := hu.int
    split
    · rename_i sz by_ zs hsz hby hz
      refine .need fun ⟨h0, h1, h2, hby0, hzl, hcl⟩ Q hq => ?_
      obtain ⟨i, z, hi, hi1, hi2, hi3, hi4⟩ := info_of hsz hby hz
      obtain ⟨z', hzr, _, hzc⟩ := run_zeroValue (w := w) hz
      have hz' : z' = z := by
        have : (zeroValue e).run P w = .ok z w := by simp [zeroValue, typeInfo, hi, hi3]
        rw [this] at hzr; cases hzr; rfl
      subst hz'
      have hwl := wrap_small h0 (by omega)
      have hwc := wrap_small (n := cp) (by omega) hcl
      let zero : Array Value := if cp.toNat * sz = 0 then #[] else z'.cells
      let cs : Array Value := (Array.range (cp.toNat * sz)).map (zero[· % zero.size]!)
      have hcs : ∀ i j, i < cp.toNat → j < sz → cs.getD (i * sz + j) undef = z'.cells.getD j undef := by
        intro i j hi hj
        have h4 : (i + 1) * sz ≤ cp.toNat * sz := Nat.mul_le_mul_right _ (by omega)
        rw [Nat.add_mul] at h4
        have hlt : i * sz + j < cp.toNat * sz := by omega
        have hne : ¬ (cp.toNat * sz = 0) := by omega
        have hmod : (i * sz + j) % sz = j := by rw [Nat.mul_comm, Nat.mul_add_mod, Nat.mod_eq_of_lt hj]
        have hjz : j < z'.cells.size := by omega
        have hzs : z'.cells.size = sz := by omega
        simp only [cs, zero, if_neg hne]
        simp only [Array.getD_eq_getD_getElem?, Array.getElem?_map, Array.getElem?_range, hlt, if_true, Option.map_some, Option.getD_some, hzs, hmod]
        rw [getElem!_pos z'.cells j hjz, getElem?_pos z'.cells j hjz]; rfl
      have hset : ∀ c, RA c K σ O w → _ := fun c h => newBuf (K := K) (σ := σ) (O := O) (cs := cs) (sz := sz) (cap := cp.toNat) (xs := List.replicate l.toNat zs) e (0, 0) (fun j _ => by omega) (by simp [cs]) (by simp; omega) (by simp; omega)
        (fun x hx => by rw [List.eq_of_mem_replicate hx]; exact hzl)
        (fun i hi j hj => by
          have hi' : i < l.toNat := by simpa using hi
          have hj' : j < zs.length := by simpa using hj
          rw [hcs i j (by omega) (by omega)]
          simpa using hzc K σ O j hj') h
      refine ⟨.slice (some ⟨w.heap.size, 0, none⟩) l.toNat cp.toNat, _, K, _, _, _, hq, ?_, hset, fun v x h => h.mono (fun _ _ h => h) (Compat.append _ _ _ _), .own _ _ _ rfl (by simp) fun s z hz => ?_⟩
      · have g1 : (cp < 0 || decide ((i.bytes : Int) * cp > 2 ^ 48)) = false := by
          have e1 : ¬ cp < 0 := by omega
          have e2 : (i.bytes : Int) * cp ≤ 281474976710656 := by rw [hi2, Int.mul_comm]; unfold LIM at h2; omega
          simp [e1, e2]
        have g2 : ¬ l < 0 := by omega
        have g3 : ¬ l > cp := by omega
        have hsz' := run_sizeOf (w := w) hsz
        simp only [Instr.makeSlice, Sem.run_bind, run_underlying (slice_of hk), Result.andThen_ok, asInt, asIntOf, Sem.run_pure, typeInfo, run_program, hi, hwl, hwc]
        simp only [g1, g2, g3, decide_false, Bool.or_false, Bool.false_eq_true, if_false, Sem.run_bind, run_askRoom, Result.andThen_ok, hsz']
        by_cases h0 : cp.toNat * sz = 0
        · simp [h0, newRow, cs, zero]
        · simp [h0, hzr, newRow, cs, zero]
      · simp at hz
        obtain ⟨rfl, rfl⟩ := hz
        have sn : σ.upd O.length (w.heap.size, cp.toNat) O.length = (w.heap.size, cp.toNat) := by unfold Plc.upd; rw [if_pos rfl]
        exact ⟨by simp, fun _ => by rw [sn]⟩
    · exact .bad
  · exact .bad

theorem freeze_new (W : World) (cs : Array Value) (e : TypeId) :
    World.freeze { W with heap := W.heap.push (.cells cs e) } { block := W.heap.size, off := cs.size } 1 = { W with heap := W.heap.push (.cells cs e (cs.size, cs.size + 1)) } := by
  unfold World.freeze
  rw [if_neg (by omega)]
  congr 1
  rw [modify_eq _ _ _ (x := .cells cs e (0, 0)) (by simp)]
  apply Array.ext_getElem?; intro j
  simp only [Array.getElem?_setIfInBounds, Array.getElem?_push, Array.size_push]
  by_cases hj : W.heap.size = j
  · subst hj; simp
  · rw [if_neg hj, if_neg (Ne.symm hj), if_neg (Ne.symm hj)]
/-- The bytes of a string as a row. -/
def strBytesE (P : Program) (O : List AObj) (src dst : TypeId) (x : AV) : Ev (AV × List AObj) :=
  match tk P src, tk P dst, x with
  | some .str, some (.slice e), .str s => match tk P e with
    | some (.int .u8) => .ret (.own O.length s.length, O ++ [.buf 1 (s.map encB)])
    | _ => .bad
  | _, _, _ => .bad
theorem strBytesE_ok {src dst : TypeId} {v : Value} {x : AV} (hv : Rep K σ O v x) : DoesV P (convert src dst v) K σ O w (strBytesE P O src dst x) := by
  unfold strBytesE
  split
  · rename_i e s hs hd
    obtain ⟨rfl, hl⟩ := hv.strv
    split
    · rename_i he
      intro Q hq
      let cap := (Question.appendCap s.length 0 e).cut (w.tape w.drawn (.appendCap s.length 0 e))
      have hcap : s.length ≤ cap := by simp only [cap, Question.cut]; omega
      let cs : Array Value := (s.toArray.map fun b => Value.int .u8 b.toNat) ++ Array.replicate (cap - s.length) (.int .u8 0)
      have hcsz : cs.size = cap := by simp [cs]; omega
      have hset : ∀ c, RA c K σ O w → _ := fun c h => newBuf (K := K) (σ := σ) (O := O) (w := w.drew) (cs := cs) (sz := 1) (cap := cap) (xs := s.map encB) e (cap, cap + 1) (fun j hj => by omega) (by omega) (by simpa using hcap) (by simpa using hl)
        (fun x hx => by obtain ⟨b, _, rfl⟩ := List.mem_map.1 hx; rfl)
        (fun i hi j hj => by
          have hi' : i < s.length := by simpa using hi
          have hj' : j = 0 := by simpa [encB] using hj
          subst hj'
          have e1 : cs.getD (i * 1 + 0) undef = .int .u8 (s[i]).toNat := by
            simp [cs, Array.getElem?_append, hi']
          rw [e1]
          simp only [List.getElem_map, encB, List.getElem_cons_zero]
          exact .lit _) (h.drawn _)
      refine ⟨.slice (some ⟨w.heap.size, 0, none⟩) s.length cap, _, K, _, _, _, hq, ?_, hset, fun v x h => h.mono (fun _ _ h => h) (Compat.append _ _ _ _), .own _ _ _ rfl (by simp) fun s z hz => ?_⟩
      · simp only [convert, Sem.run_bind, run_underlying (str_of hs), run_underlying (slice_of hd), run_underlying (int_of he), Result.andThen_ok, Conv.stringToBytes, run_choose, Question.forced, size_mk]
        simp only [Bool.false_eq_true, if_false, Result.andThen_ok, newRow, Sem.run_bind, run_newObj, Sem.run_pure, markStringish, run_shape, World.shape?]
        have hfr := freeze_new w.drew cs e
        simp only [Array.getElem?_push_size, run_freeze, Result.andThen_ok]
        refine (congrArg (Result.ok _) hfr).trans ?_
        rw [hcsz]
      · simp at hz
        obtain ⟨rfl, rfl⟩ := hz
        have sn : σ.upd O.length (w.drew.heap.size, cap) O.length = (w.heap.size, cap) := by unfold Plc.upd; rw [if_pos rfl]; rfl
        exact ⟨by simp, fun _ => by simp only [sn]⟩
    · exact .bad
  · exact .bad

/-- Are two keys one? -/
def keyEq : AV → AV → Option Bool
  | .lit (.int k a), .lit (.int k' b) => if k = k' then some (a == b) else none
  | .str a, .str b => some (a == b)
  | _, _ => none
def keyK : TK → AV → Bool
  | .int _, .lit (.int _ _) => true
  | .str, .str _ => true
  | _, _ => false
def findA : List (AV × AV) → AV → Ev (Option AV)
  | [], _ => .ret none
  | (k', v) :: es, k => match keyEq k k' with
    | some b => .fork b (.ret (some v)) (findA es k)
    | none => .bad
def kindOf : TK → Option TypeDesc
  | .int k => some (.int k)
  | .str => some .string
  | _ => none
theorem kind_of {t : TypeId} {kt : TK} {d : TypeDesc} (h : tk P t = some kt) (hd : kindOf kt = some d) : P.underlying t = some d := by
  cases kt <;> simp only [kindOf, Option.some.injEq, reduceCtorEq] at hd
  · subst hd; exact str_of h
  · subst hd; exact int_of h
theorem keyEq_ok {kt : TK} {d : TypeDesc} {v u : Value} {x y : AV} {b : Bool} (hd : kindOf kt = some d) (hk : keyK kt x = true) (hv : Rep K σ O v x) (hu : Rep K σ O u y)
    (h : keyEq x y = some b) : Instr.sameNow d v u = some b := by
  cases x with
  | lit v' =>
    cases v' <;> cases y <;> simp only [keyEq, reduceCtorEq] at h
    rename_i k n v2
    cases v2 <;> simp only [reduceCtorEq] at h
    obtain rfl := hv.int
    obtain rfl := hu.int
    cases kt <;> simp only [keyK, Bool.false_eq_true] at hk
    simp only [kindOf, Option.some.injEq] at hd
    subst hd
    exact h
  | str a =>
    cases y <;> simp only [keyEq, reduceCtorEq, Option.some.injEq] at h
    rename_i b'
    obtain ⟨rfl, _⟩ := hv.strv
    obtain ⟨rfl, _⟩ := hu.strv
    cases kt <;> simp only [keyK, Bool.false_eq_true] at hk
    simp only [kindOf, Option.some.injEq] at hd
    subst hd
    simp only [Instr.sameNow]
    rw [← h]; congr 1
    show (a.toArray == b'.toArray) = (a == b')
    simp
  | _ => simp only [keyEq, reduceCtorEq] at h

/-- Entries of a map in memory, and what is known of them. -/
def EntsOk (K : Sto) (σ : Plc) (O : List AObj) (ents : List MapEntry) (es : List (AV × AV)) : Prop :=
  ents.length = es.length ∧ ∀ j (h : j < es.length), Rep K σ O (ents.getD j default).key es[j].1 ∧ Rep K σ O (ents.getD j default).val es[j].2
theorem EntsOk.cons {e : MapEntry} {ents : List MapEntry} {p : AV × AV} {es : List (AV × AV)} (h : EntsOk K σ O (e :: ents) (p :: es)) :
    Rep K σ O e.key p.1 ∧ Rep K σ O e.val p.2 ∧ EntsOk K σ O ents es := by
  obtain ⟨h1, h2⟩ := h
  have h0 := h2 0 (by simp)
  refine ⟨by simpa using h0.1, by simpa using h0.2, by simpa using h1, fun j hj => ?_⟩
  have := h2 (j + 1) (by simp; omega)
  simpa using this
theorem EntsOk.mk {e : MapEntry} {ents : List MapEntry} {p : AV × AV} {es : List (AV × AV)} (h1 : Rep K σ O e.key p.1) (h2 : Rep K σ O e.val p.2) (h3 : EntsOk K σ O ents es) :
    EntsOk K σ O (e :: ents) (p :: es) := by
  refine ⟨by simp [h3.1], fun j hj => ?_⟩
  cases j with
  | zero => simpa using ⟨h1, h2⟩
  | succ j => have := h3.2 j (by simp at hj; omega); simpa using this
theorem EntsOk.of_array {ents : Array MapEntry} {es : List (AV × AV)} (h1 : ents.size = es.length) (h2 : ∀ i (h : i < es.length), Rep K σ O (ents.getD i default).key es[i].1)
    (h3 : ∀ i (h : i < es.length), Rep K σ O (ents.getD i default).val es[i].2) : EntsOk K σ O ents.toList es :=
  ⟨by simpa using h1, fun j hj => by have g2 := h2 j hj; have g3 := h3 j hj; simp at g2 g3 ⊢; exact ⟨g2, g3⟩⟩

theorem findA_ok {kt : TK} {d : TypeDesc} {v : Value} {x : AV} (hd : kindOf kt = some d) (hk : keyK kt x = true) (hv : Rep K σ O v x) :
    ∀ (ents : List MapEntry) (es : List (AV × AV)) (i : Nat) (Q : Option AV → Prop), EntsOk K σ O ents es → (findA es x).holds Q →
      ∃ r, Q r ∧ match r with | none => Instr.findNow d v ents i = some none | some y => ∃ j u, Instr.findNow d v ents i = some (some (j, u)) ∧ Rep K σ O u y
  | [], [], i, Q, _, hq => ⟨none, hq, rfl⟩
  | [], _ :: _, i, Q, h, _ => by have := h.1; simp at this
  | _ :: _, [], i, Q, h, _ => by have := h.1; simp at this
  | e :: ents, (k', y) :: es, i, Q, h, hq => by
    obtain ⟨h1, h2, h3⟩ := h.cons
    unfold findA at hq
    split at hq
    · rename_i b hb
      have hs := keyEq_ok hd hk hv h1 hb
      cases b with
      | true => exact ⟨some y, hq.1 rfl, i, e.val, by simp only [Instr.findNow, hs], h2⟩
      | false =>
        obtain ⟨r, hQ, hr⟩ := findA_ok hd hk hv ents es (i + 1) Q h3 (hq.2 rfl)
        refine ⟨r, hQ, ?_⟩
        simp only [Instr.findNow, hs]; exact hr
    · exact hq.elim

/-- The zero value of a type. -/
def zeV (P : Program) (t : TypeId) : Option AV := (P.info? t).bind fun i => i.zero.map fun v => match v with | .agg cs => .agg (cs.toList.map ofV) | v => ofV v
theorem zeV_ok {t : TypeId} {x : AV} (h : zeV P t = some x) : ∃ v, (zeroValue t).run P w = .ok v w ∧ Rep K σ O v x := by
  unfold zeV at h
  cases hi : P.info? t with
  | none => rw [hi] at h; cases h
  | some i =>
    rw [hi] at h
    simp only [Option.bind_some, Option.map_eq_some_iff] at h
    obtain ⟨v, hv, hx⟩ := h
    refine ⟨v, by simp [zeroValue, typeInfo, hi, hv], ?_⟩
    subst hx
    split
    · exact .agg _ _ (by simp) fun j hj => by
        rename_i cs
        have hj' : j < cs.size := by simpa using hj
        simpa [hj'] using Rep.ofV (K := K) (σ := σ) (O := O) cs[j]
    · exact Rep.ofV _
/-- The entries of a map that can be read. -/
def entsE (O : List AObj) : AV → Ev (List (AV × AV))
  | .mapv es => .ret es
  | .lit (.map none) => .ret []
  | .omap id => match O[id]? with
    | some (.omap es) => .ret es
    | _ => .bad
  | _ => .bad
def lookupE (P : Program) (O : List AObj) (t : TypeId) (m k : AV) (ok : Bool) : Ev AV :=
  match tk P t with
  | some (.map kt vt) => match tk P kt, zeV P vt with
    | some kk, some z => .need (keyK kk k = true) ((entsE O m).bind fun es => (findA es k).bind fun r => .ret (match r with
      | some y => if ok then .tup [y, .lit (.bool true)] else y
      | none => if ok then .tup [z, .lit (.bool false)] else z))
    | _, _ => .bad
  | _ => .bad
theorem run_checkKey {kt : TypeId} {kk : TK} {d : TypeDesc} {b : Bool} {v : Value} (h : tk P kt = some kk) (hd : kindOf kk = some d) : (Instr.checkKey b 10000 kt v).run P w = .ok () w := by
  rw [show (10000 : Nat) = 9999 + 1 from rfl, Instr.checkKey]
  simp only [Sem.run_bind, run_underlying (kind_of h hd), Result.andThen_ok]
  cases kk <;> simp only [kindOf, Option.some.injEq, reduceCtorEq] at hd <;> subst hd <;> rfl
theorem keyK_kind {kk : TK} {x : AV} (h : keyK kk x = true) : ∃ d, kindOf kk = some d := by
  cases kk <;> first | exact ⟨_, rfl⟩ | (cases x <;> simp [keyK] at h)
theorem rep_tup2 {v u : Value} {x y : AV} (hv : Rep K σ O v x) (hu : Rep K σ O u y) : Rep K σ O (.tuple #[v, u]) (.tup [x, y]) :=
  .tup _ _ rfl fun i hi => by
    have : i = 0 ∨ i = 1 := by simp at hi; omega
    rcases this with rfl | rfl
    · exact hv
    · exact hu
theorem entsE_ok (h0 : RA c K σ O w) {v : Value} {m : AV} (hv : Rep K σ O v m) {Q : List (AV × AV) → Prop} (hq : (entsE O m).holds Q) :
    ∃ es ents, Q es ∧ EntsOk K σ O ents es ∧ ((v = .map none ∧ ents = []) ∨ ∃ b arr clock, v = .map (some b) ∧ (getObj b).run P w = .ok (.map arr clock) w ∧ arr.toList = ents) := by
  unfold entsE at hq
  split at hq
  · cases hv with
    | mapv _ b ents clock h1 h2 h3 h4 =>
      exact ⟨_, ents.toList, hq, .of_array h2.1 (fun i hi => (h3 i hi).lift) (fun i hi => (h4 i hi).lift), .inr ⟨b, ents, clock, rfl, run_getObj_map (h0.cons _ _ h1), rfl⟩⟩
  · obtain rfl := hv.litv
    exact ⟨[], [], hq, ⟨rfl, fun j hj => by simp at hj⟩, .inl ⟨rfl, rfl⟩⟩
  · rename_i id
    split at hq
    · rename_i es ho
      have h1 := h0.objs id
      rw [ho] at h1
      obtain ⟨_, ents, clock, g1, g2, g3, g4⟩ := h1
      cases hv with
      | omap _ _ _ _ h3 =>
        exact ⟨es, ents.toList, hq, .of_array g2.1 g3 g4, .inr ⟨(σ id).1, ents, clock, h3 _ ho, run_getObj_map g1, rfl⟩⟩
    · exact hq.elim
  · exact hq.elim
theorem run_findKey {kt : TypeId} {d : TypeDesc} {v : Value} {ents : List MapEntry} {x : Option (Nat × Value)} (h : P.underlying kt = some d) (hf : Instr.findNow d v ents 0 = some x) :
    (Instr.findKey kt v ents).run P w = .ok x w := by
  simp only [Instr.findKey, Sem.run_bind, run_underlying h, Result.andThen_ok, hf, Sem.run_pure]
theorem lookupE_ok (h0 : RA c K σ O w) {t : TypeId} {v u : Value} {m k : AV} {ok : Bool} (hv : Rep K σ O v m) (hu : Rep K σ O u k) : Reads P (Instr.lookup t v u ok) K σ O w (lookupE P O t m k ok) := by
  unfold lookupE
  split
  · rename_i kt vt ht
    split
    · rename_i kk z hkk hz
      refine .need fun hkey Q hq => ?_
      obtain ⟨d, hd⟩ := keyK_kind hkey
      obtain ⟨zv, hzr, hzv⟩ := zeV_ok (K := K) (σ := σ) (O := O) (w := w) hz
      rw [Ev.holds_bind] at hq
      obtain ⟨es, ents, hq, hents, hmap⟩ := entsE_ok (P := P) h0 hv hq
      rw [Ev.holds_bind] at hq
      obtain ⟨r, hQ, hr⟩ := findA_ok hd hkey hu ents es 0 _ hents hq
      have hck : ∀ b, (Instr.checkKey b 10000 kt u).run P w = .ok () w := fun b => run_checkKey hkk hd
      have hund := run_underlying (w := w) (map_of ht)
      cases r with
      | none =>
        dsimp only at hr hQ
        have hf := run_findKey (w := w) (kind_of hkk hd) hr
        rcases hmap with ⟨rfl, rfl⟩ | ⟨b, arr, clock, rfl, hg, rfl⟩
        · refine ⟨_, _, hQ, (by simp only [Instr.lookup, Sem.run_bind, hund, Result.andThen_ok, Sem.run_pure, hck, hf, hzr]; rfl), ?_⟩
          cases ok <;> first | exact hzv | exact rep_tup2 hzv (.lit _)
        · refine ⟨_, _, hQ, (by simp only [Instr.lookup, Sem.run_bind, hund, Result.andThen_ok, Sem.run_pure, hg, hck, hf, hzr]; rfl), ?_⟩
          cases ok <;> first | exact hzv | exact rep_tup2 hzv (.lit _)
      | some y =>
        dsimp only at hr hQ
        obtain ⟨j, x, hr, hx⟩ := hr
        have hf := run_findKey (w := w) (kind_of hkk hd) hr
        rcases hmap with ⟨rfl, rfl⟩ | ⟨b, arr, clock, rfl, hg, rfl⟩
        · simp [Instr.findNow] at hr
        · refine ⟨_, _, hQ, (by simp only [Instr.lookup, Sem.run_bind, hund, Result.andThen_ok, Sem.run_pure, hg, hck, hf]; rfl), ?_⟩
          cases ok <;> first | exact hx | exact rep_tup2 hx (.lit _)
    · exact .bad
  · exact .bad

def makeMapE (O : List AObj) (r : Option AV) : Ev (AV × List AObj) :=
  match r with
  | none => .ret (.omap O.length, O ++ [.omap []])
  | some _ => .bad
theorem newOmap {c : Ctx} (h : RA c K σ O w) : RA c K (σ.upd O.length (w.heap.size, 0)) (O ++ [.omap []]) { w with heap := w.heap.push (.map #[] 0) } := by
  have hp := h.push (.map #[] 0)
  refine hp.adopt h.size (fun ⟨id, ha, e⟩ => ?_) ?_
  · have := h.owned_lt ha; omega
  · have sn : σ.upd O.length (w.heap.size, 0) O.length = (w.heap.size, 0) := by unfold Plc.upd; rw [if_pos rfl]
    refine ⟨?_, #[], 0, ?_, ⟨rfl, fun i hi => by simp at hi, fun i j _ hj => by simp at hj⟩, fun i hi => by simp at hi, fun i hi => by simp at hi⟩
    · rw [sn]
      cases hk : K w.heap.size with
      | none => rfl
      | some o => have := h.cons _ _ hk; simp at this
    · rw [sn]; simp
theorem makeMapE_ok {t : TypeId} {v : Option Value} {r : Option AV} (hv : r = none → v = none) : DoesV P (Instr.makeMap t v) K σ O w (makeMapE O r) := by
  unfold makeMapE
  split
  · obtain rfl := hv rfl
    intro Q hq
    refine ⟨.map (some w.heap.size), _, K, _, _, _, hq, by simp [Instr.makeMap], fun c h => newOmap h, fun v x h => h.mono (fun _ _ h => h) (Compat.append _ _ _ _), .omap _ _ rfl (by simp) fun es _ => ?_⟩
    unfold Plc.upd; rw [if_pos rfl]
  · exact .bad

/-- An entry is put into a map. -/
def insA : List (AV × AV) → AV → AV → Ev (List (AV × AV))
  | [], k, x => .ret [(k, x)]
  | (k', v) :: es, k, x => match keyEq k k' with
    | some b => .fork b (.ret ((k, x) :: es)) ((insA es k x).bind fun r => .ret ((k', v) :: r))
    | none => .bad
def updE (P : Program) (O : List AObj) (t : TypeId) (m k x : AV) : Ev (AV × List AObj) :=
  match tk P t, m with
  | some (.map kt _), .omap id => match O[id]?, tk P kt with
    | some (.omap es), some kk => .need (keyK kk k = true) ((insA es k x).bind fun es' => .ret (.any, O.set id (.omap es')))
    | _, _ => .bad
  | _, _ => .bad
theorem keyEq_same {kt : TK} {v u : Value} {x y : AV} (hk : keyK kt x = true) (hv : Rep K σ O v x) (hu : Rep K σ O u y) (h : keyEq x y = some true) : v = u := by
  cases x with
  | lit v' =>
    cases v' <;> cases y <;> simp only [keyEq, reduceCtorEq] at h
    rename_i k n v2
    cases v2 <;> simp only [reduceCtorEq] at h
    obtain rfl := hv.int
    obtain rfl := hu.int
    split at h
    · rename_i e; subst e; simp at h; rw [h]
    · cases h
  | str a =>
    cases y <;> simp only [keyEq, reduceCtorEq, Option.some.injEq] at h
    obtain ⟨rfl, _⟩ := hv.strv
    obtain ⟨rfl, _⟩ := hu.strv
    simp at h; rw [h]
  | _ => simp only [keyEq, reduceCtorEq] at h
theorem sameBits_refl {kt : TK} {x : AV} {v : Value} (hk : keyK kt x = true) (hv : Rep K σ O v x) : Instr.sameBits 10000 v v = true := by
  cases kt <;> cases x <;> simp only [keyK, Bool.false_eq_true] at hk
  · obtain ⟨rfl, _⟩ := hv.strv; rw [Instr.sameBits]; show (_ == _) = true; exact beq_self_eq_true (α := Array UInt8) _
  · rename_i v'
    cases v' <;> simp only [Bool.false_eq_true] at hk
    obtain rfl := hv.int; simp [Instr.sameBits]
theorem insA_ok {kt : TK} {d : TypeDesc} {v z : Value} {k x : AV} (hd : kindOf kt = some d) (hk : keyK kt k = true) (hv : Rep K σ O v k) (hz : Rep K σ O z x) (clock : Nat) :
    ∀ (ents : List MapEntry) (es : List (AV × AV)) (i : Nat) (Q : List (AV × AV) → Prop), EntsOk K σ O ents es → (insA es k x).holds Q →
      ∃ es', Q es' ∧ ((Instr.findNow d v ents i = some none ∧ EntsOk K σ O (ents ++ [⟨v, z, clock⟩]) es') ∨
        ∃ j e, i ≤ j ∧ Instr.findNow d v ents i = some (some (j, e.val)) ∧ ents[j - i]? = some e ∧ e.key = v ∧ EntsOk K σ O (ents.set (j - i) { e with key := v, val := z }) es')
  | [], [], i, Q, _, hq => ⟨_, hq, .inl ⟨rfl, .mk hv hz ⟨rfl, fun j hj => by simp at hj⟩⟩⟩
  | [], _ :: _, i, Q, h, _ => by have := h.1; simp at this
  | _ :: _, [], i, Q, h, _ => by have := h.1; simp at this
  | e :: ents, (k', y) :: es, i, Q, h, hq => by
    obtain ⟨h1, h2, h3⟩ := h.cons
    unfold insA at hq
    split at hq
    · rename_i b hb
      have hs := keyEq_ok hd hk hv h1 hb
      cases b with
      | true =>
        refine ⟨_, hq.1 rfl, .inr ⟨i, e, Nat.le_refl _, by simp only [Instr.findNow, hs], by simp, (keyEq_same hk hv h1 hb).symm, ?_⟩⟩
        simp only [Nat.sub_self, List.set_cons_zero]
        exact .mk hv hz h3
      | false =>
        have hq2 := hq.2 rfl
        rw [Ev.holds_bind] at hq2
        obtain ⟨es', hQ, hr⟩ := insA_ok hd hk hv hz clock ents es (i + 1) _ h3 hq2
        refine ⟨_, hQ, ?_⟩
        rcases hr with ⟨g1, g2⟩ | ⟨j, e', g0, g1, g2, g3, g4⟩
        · exact .inl ⟨by simp only [Instr.findNow, hs]; exact g1, .mk h1 h2 g2⟩
        · refine .inr ⟨j, e', by omega, by simp only [Instr.findNow, hs]; exact g1, ?_, g3, ?_⟩
          · rw [show j - i = (j - (i + 1)) + 1 by omega]; simpa using g2
          · rw [show j - i = (j - (i + 1)) + 1 by omega]; exact .mk h1 h2 g4
    · exact hq.elim
theorem Stamps.push {ents : Array MapEntry} {clock : Nat} (h : Stamps ents clock) (u z : Value) : Stamps (ents.push ⟨u, z, clock⟩) (clock + 1) := by
  have e : ∀ i, i < ents.size + 1 → ((ents.push ⟨u, z, clock⟩).getD i default).born = if i < ents.size then (ents.getD i default).born else clock := fun i hi => by
    simp only [Array.getD_eq_getD_getElem?, Array.getElem?_push]
    by_cases h1 : i = ents.size
    · rw [if_pos h1, if_neg (by omega)]; rfl
    · rw [if_neg h1, if_pos (by omega)]
  refine ⟨fun i hi => ?_, fun i j hij hj => ?_⟩
  · rw [Array.size_push] at hi
    rw [e i hi]
    rcases Nat.lt_or_ge i ents.size with h1 | h1
    · rw [if_pos h1]; have := h.1 i h1; omega
    · rw [if_neg (by omega)]; omega
  · rw [Array.size_push] at hj
    rw [e i (by omega), e j hj, if_pos (by omega)]
    rcases Nat.lt_or_ge j ents.size with h1 | h1
    · rw [if_pos h1]; exact h.2 i j hij h1
    · rw [if_neg (by omega)]; have := h.1 i (by omega); omega
theorem Stamps.modify {ents : Array MapEntry} {clock : Nat} (h : Stamps ents clock) (j : Nat) (u z : Value) : Stamps (ents.modify j fun e => { e with key := u, val := z }) clock := by
  have e : ∀ i, ((ents.modify j fun e => { e with key := u, val := z }).getD i default).born = (ents.getD i default).born := fun i => by
    simp only [Array.getD_eq_getD_getElem?, Array.getElem?_modify]
    split
    · cases ents[i]? <;> rfl
    · rfl
  refine ⟨fun i hi => ?_, fun i k hik hk => ?_⟩
  · rw [e]; exact h.1 i (by simpa using hi)
  · rw [e, e]; exact h.2 i k hik (by simpa using hk)
theorem setOmap {id : Nat} {es es' : List (AV × AV)} (ho : O[id]? = some (.omap es)) {ents ents' : Array MapEntry} {cl cl' : Nat} (hb : w.heap[(σ id).1]? = some (.map ents cl))
    (hr : EntsOk K σ O ents'.toList es') (hst : Stamps ents' cl') {c : Ctx} (h : RA c K σ O w) :
    RA c K σ (O.set id (.omap es')) (setBlk w (σ id).1 (.map ents' cl')) ∧ Compat O σ (O.set id (.omap es')) σ := by
  have hid : σ.upd id (σ id) = σ := by funext j; unfold Plc.upd; split <;> simp_all
  have hc : Compat O σ (O.set id (.omap es')) σ := Compat.set ho (fun _ _ => rfl) (fun _ e => by cases e) (fun _ _ e => by cases e) (fun _ e => by cases e; exact ⟨⟨es, rfl⟩, rfl⟩)
  refine ⟨?_, hc⟩
  have hlt := lt_of_some hb
  have h0 := h.objs id
  rw [ho] at h0
  obtain ⟨hk, _⟩ := h0
  have := h.set (o' := .omap es') ho trivial (w' := setBlk w (σ id).1 (.map ents' cl')) (p := σ id) (.inl rfl) rfl rfl rfl (by simp [setBlk])
    (fun b hlt hne => by simp [setBlk, Ne.symm hne]) (by rw [hid]; exact hc)
    (by
      rw [hid]
      refine ⟨hk, ents', cl', by simp [setBlk, hlt], ⟨by simpa using hr.1, hst⟩, fun i hi => ?_, fun i hi => ?_⟩
      · have := (hr.2 i hi).1; simp at this; simpa using this.mono (fun _ _ h => h) hc
      · have := (hr.2 i hi).2; simp at this; simpa using this.mono (fun _ _ h => h) hc)
  rw [hid] at this; exact this
theorem updE_ok {c0 : Ctx} (h0 : RA c0 K σ O w) {t : TypeId} {v u z : Value} {m k x : AV} (hv : Rep K σ O v m) (hu : Rep K σ O u k) (hz : Rep K σ O z x) : DoesU P (Instr.mapUpdate t v u z) K σ O w (updE P O t m k x) := by
  unfold updE
  split
  · rename_i kt vt id ht
    split
    · rename_i es kk ho hkk
      refine .need fun hkey Q hq => ?_
      obtain ⟨d, hd⟩ := keyK_kind hkey
      rw [Ev.holds_bind] at hq
      have h1 := h0.objs id
      rw [ho] at h1
      obtain ⟨_, ents, clock, g1, g2, g3, g4⟩ := h1
      have hents : EntsOk K σ O ents.toList es := .of_array g2.1 g3 g4
      obtain ⟨es', hQ, hr⟩ := insA_ok hd hkey hu hz clock ents.toList es 0 _ hents hq
      have hck : ∀ b, (Instr.checkKey b 10000 kt u).run P w = .ok () w := fun b => run_checkKey hkk hd
      have hund := run_underlying (w := w) (map_of ht)
      have hset : ∀ r o, w.heap[r]? = some (.map ents clock) → (setObj r o).run P w = .ok () (setBlk w r o) := fun r o h => by simp [setObj, Sem.run, h, setBlk]
      cases hv with
      | omap _ _ g5 g6 g7 =>
        obtain rfl := g7 _ ho
        rcases hr with ⟨hf, hr⟩ | ⟨j, e, _, hf, hj, hkv, hr⟩
        · have hf' := run_findKey (w := w) (kind_of hkk hd) hf
          have hall := fun c (h : RA c K σ O w) => setOmap (c := c) (es' := es') (ents' := ents.push ⟨u, z, clock⟩) (cl' := clock + 1) ho g1 (by simpa using hr) (g2.2.push u z) h
          refine ⟨(), .any, K, σ, _, _, hQ, ?_, fun c h => (hall c h).1, fun v x hx => hx.mono (fun _ _ h => h) (hall c0 h0).2, rfl⟩
          simp only [Instr.mapUpdate, Sem.run_bind, hund, Result.andThen_ok, run_getObj_map g1, hck, hf', hset _ _ g1]
        · have hf' := run_findKey (w := w) (kind_of hkk hd) hf
          simp only [Nat.sub_zero] at hj hr
          have hj' : ents[j]? = some e := by simpa using hj
          have hall := fun c (h : RA c K σ O w) => setOmap (c := c) (es' := es') (ents' := ents.modify j fun e => { e with key := u, val := z }) (cl' := clock) ho g1
            (by rw [modify_eq _ _ _ hj']; simpa using hr) (g2.2.modify j u z) h
          refine ⟨(), .any, K, σ, _, _, hQ, ?_, fun c h => (hall c h).1, fun v x hx => hx.mono (fun _ _ h => h) (hall c0 h0).2, rfl⟩
          have hsb := sameBits_refl hkey hu
          simp only [Instr.mapUpdate, Sem.run_bind, hund, Result.andThen_ok, run_getObj_map g1, hck, hf', hj', Option.map_some, Option.getD_some, hkv, Instr.keyThatStays, hsb, if_true, Sem.run_pure, hset _ _ g1]
    · exact .bad
  · exact .bad
end
end Go.Aw
namespace Go.Aw
section
variable {P : Program} {K : Sto} {σ : Plc} {O : List AObj} {w : World}

def rangeE (P : Program) (O : List AObj) (t : TypeId) (x : AV) : Ev (AV × List AObj) :=
  match tk P t, x with
  | some (.map _ _), .mapv es => .ret (.it O.length, O ++ [.iter es []])
  | _, _ => .bad
theorem newIter {c : Ctx} (h : RA c K σ O w) {b : Nat} {es : List (AV × AV)} {ents : Array MapEntry} {clock : Nat} (h1 : K b = some (.map ents clock)) (h2 : ents.size = es.length ∧ Stamps ents clock)
    (h3 : ∀ i (h : i < es.length), Rep K σ [] (ents.getD i default).key es[i].1) (h4 : ∀ i (h : i < es.length), Rep K σ [] (ents.getD i default).val es[i].2) :
    RA c K (σ.upd O.length (w.heap.size, 0)) (O ++ [.iter es []]) { w with heap := w.heap.push (.mapIter (some b) clock #[] clock) } := by
  have hp := h.push (.mapIter (some b) clock #[] clock)
  refine hp.adopt h.size (fun ⟨id, ha, e⟩ => ?_) ?_
  · have := h.owned_lt ha; omega
  · have sn : σ.upd O.length (w.heap.size, 0) O.length = (w.heap.size, 0) := by unfold Plc.upd; rw [if_pos rfl]
    refine ⟨?_, b, ents, clock, h1, h2, fun i hi => (h3 i hi).mono (fun _ _ h => h) (.nil _ _ _), fun i hi => (h4 i hi).mono (fun _ _ h => h) (.nil _ _ _), fun i hi => (by cases hi), ?_⟩
    · rw [sn]
      cases hk : K w.heap.size with
      | none => rfl
      | some o => have := h.cons _ _ hk; simp at this
    · rw [sn]; simp
theorem rangeE_ok {c0 : Ctx} (h0 : RA c0 K σ O w) {t : TypeId} {v : Value} {x : AV} (hv : Rep K σ O v x) : DoesV P (Instr.range t v) K σ O w (rangeE P O t x) := by
  unfold rangeE
  split
  · rename_i kt vt es ht
    cases hv with
    | mapv _ b ents clock h1 h2 h3 h4 =>
      intro Q hq
      refine ⟨.pointer (some ⟨w.heap.size, 0, none⟩), _, K, _, _, _, hq, ?_, fun c h => newIter h h1 h2 h3 h4, fun v x h => h.mono (fun _ _ h => h) (Compat.append _ _ _ _), .it _ _ rfl (by simp) fun es seen _ => ?_⟩
      · simp [Instr.range, run_underlying (map_of ht), run_getObj_map (h0.cons _ _ h1), newObj, Sem.run]
      · unfold Plc.upd; rw [if_pos rfl]
  · exact .bad

def entryE (O : List AObj) (x : AV) : Ev AV :=
  match x with
  | .it id => match O[id]? with
    | some (.iter es seen) => match seen.getLast? with
      | some i => match es[i]? with
        | some e => .ret (.tup [e.1, e.2])
        | none => .bad
      | none => .bad
    | _ => .bad
  | _ => .bad
theorem Stamps.nodup {ents : Array MapEntry} {clock : Nat} (h : Stamps ents clock) : (ents.toList.map (·.born)).Nodup := by
  rw [List.nodup_iff_pairwise_ne, List.pairwise_iff_getElem]
  intro i j hi hj hij
  simp at hi hj ⊢
  have := h.2 i j hij hj
  simpa [hi, hj] using this
theorem entryE_ok {c : Ctx} (h : RA c K σ O w) {v : Value} {x : AV} (hv : Rep K σ O v x) : Reads P (Instr.entry v) K σ O w (entryE O x) := by
  unfold entryE
  split
  · rename_i id
    split
    · rename_i es seen ho
      split
      · rename_i i hlast
        split
        · rename_i e he
          have h1 := h.objs id
          rw [ho] at h1
          obtain ⟨_, b, ents, clock, g1, g2, g3, g4, g5, g6⟩ := h1
          cases hv with
          | it _ _ k1 k2 k3 =>
            obtain rfl := k3 _ _ ho
            have hi : i < es.length := g5 i (List.mem_of_getLast? hlast)
            have hie : i < ents.size := by rw [g2.1]; exact hi
            obtain ⟨s0, rfl⟩ : ∃ s0, seen = s0 ++ [i] := List.getLast?_eq_some_iff.1 hlast
            have hhe : (ents.getD i default) = ents[i] := by simp [hie]
            have hes : es[i] = e := by rw [List.getElem?_eq_getElem hi] at he; exact Option.some.inj he
            refine .ret (v := .tuple #[ents[i].key, ents[i].val]) ?_ (.tup _ _ rfl fun j hj => ?_)
            · refine run_entry_at w (σ id).1 b clock (s0.map fun i => (ents.getD i default).born).toArray ents clock ents[i] ?_ (h.cons _ _ g1) (by simp) g2.2.nodup
              rw [g6]; simp [hie]
            · have k1 := g3 i hi
              have k2 := g4 i hi
              rw [hhe, hes] at k1 k2
              match j, hj with
              | 0, _ => exact k1.lift
              | 1, _ => exact k2.lift
        · exact .bad
      · exact .bad
    · exact .bad
  · exact .bad
end
end Go.Aw
