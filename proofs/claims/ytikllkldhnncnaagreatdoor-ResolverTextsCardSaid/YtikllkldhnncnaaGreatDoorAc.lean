/- What the operations do to abstract values: cuts, lengths, parts put together. What the operations do to abstract values: new memory, stores. -/
import Derived.Test.YtikllkldhnncnaaGreatDoorAb
set_option linter.all false
namespace Go.Aw
section
variable {P : Program} {K : Sto} {σ : Plc} {O : List AObj} {w : World} {c : Ctx}

/-- A bound of a cut. -/
def bdE (x : Option AV) (d : Nat) (hi : Nat) : Ev Nat :=
  match x with
  | none => .ret d
  | some (.lit (.int _ i)) => .need (0 ≤ i ∧ i.toNat ≤ hi) (.ret i.toNat)
  | _ => .bad
/-- A row's part. -/
def cut {α : Type} (xs : List α) (l h : Nat) : List α := (xs.drop l).take (h - l)
def sliceE (P : Program) (O : List AObj) (t : TypeId) (x : AV) (lo hi mx : Option AV) : Ev AV :=
  match tk P t, x with
  | some .str, .str s => match mx with
    | none => (bdE hi s.length s.length).bind fun h => (bdE lo 0 h).bind fun l => .ret (.str (cut s l h))
    | some _ => .bad
  | some (.slice e), .seq xs => match szT P e with
    | some sz => (bdE mx xs.length xs.length).bind fun m => (bdE hi xs.length m).bind fun h => (bdE lo 0 h).bind fun l =>
        .need (mx.isSome = true → hi.isSome = true) (.need (h ≤ m ∧ ∀ x ∈ xs, x.length = sz) (.ret (.seq (cut xs l h))))
    | none => .bad
  | some (.slice e), .full xs => match szT P e with
    | some sz => (bdE mx xs.length xs.length).bind fun m => (bdE hi xs.length m).bind fun h => (bdE lo 0 h).bind fun l =>
        .need (mx.isSome = true → hi.isSome = true) (.need (h ≤ m ∧ ∀ x ∈ xs, x.length = sz) (.ret (.seq (cut xs l h))))
    | none => .bad
  | some (.arr n e), .ptr id off => match szT P e, O[id]?, lo, hi, mx with
    | some 1, some (.box xs), none, none, none => .need (off + n ≤ xs.length) (.ret (.sub id off n))
    | _, _, _, _, _ => .bad
  | _, _ => .bad

/-- What a bound comes to. -/
def IsBd (v : Option Value) (x : Option AV) : Prop := (x = none → v = none) ∧ ∀ k i, x = some (.lit (.int k i)) → v = some (.int k i)
theorem IsBd.mk {v : Option Operand} {a : Act} {env : List (Nat × AV)} (h : ∀ o, Rep K σ O (a.eval o) (evalA env o)) : IsBd (v.map a.eval) (v.map (evalA env)) := by
  cases v with
  | none => exact ⟨fun _ => rfl, fun k i hx => (by cases hx)⟩
  | some o =>
    refine ⟨(fun hx => by cases hx), fun k i hx => ?_⟩
    simp only [Option.map_some, Option.some.injEq] at hx ⊢
    have h1 := h o
    rw [hx] at h1
    exact h1.int
theorem bd_some {v : Option Value} {x : Option AV} {d hi : Nat} {Q : Nat → Prop} (hv : IsBd v x) (hq : (bdE x d hi).holds Q) :
    ∃ n, Q n ∧ ((x = none ∧ v = none ∧ n = d) ∨ ∃ k i, v = some (.int k i) ∧ x.isSome = true ∧ 0 ≤ i ∧ i.toNat ≤ hi ∧ n = i.toNat) := by
  unfold bdE at hq
  split at hq
  · exact ⟨d, hq, .inl ⟨rfl, hv.1 rfl, rfl⟩⟩
  · rename_i k i
    exact ⟨_, hq.2, .inr ⟨k, i, hv.2 k i rfl, rfl, hq.1.1, hq.1.2, rfl⟩⟩
  · exact hq.elim
theorem run_sliceBound {k : IntKind} {i : Int} {y : Nat} {code : BoundsCode} (h0 : 0 ≤ i) (h1 : i.toNat ≤ y) : (Instr.sliceBound (.int k i) y code).run P w = .ok i.toNat w := by
  have h2 : 0 ≤ i ∧ i ≤ (y : Int) := ⟨h0, by omega⟩
  simp only [Instr.sliceBound, asIntOf, Sem.run_bind, Sem.run_pure, Result.andThen_ok, if_pos h2]
theorem run_sliceBounds {b : Bool} {len cap l h m : Nat} {lo hi mx : Option Value}
    (hm : (mx = none ∧ m = cap) ∨ ∃ k i, mx = some (.int k i) ∧ 0 ≤ i ∧ i.toNat ≤ cap ∧ m = i.toNat)
    (hh : (hi = none ∧ mx = none ∧ h = len) ∨ ∃ k i, hi = some (.int k i) ∧ 0 ≤ i ∧ i.toNat ≤ m ∧ h = i.toNat)
    (hl : (lo = none ∧ l = 0) ∨ ∃ k i, lo = some (.int k i) ∧ 0 ≤ i ∧ i.toNat ≤ h ∧ l = i.toNat) :
    (Instr.sliceBounds b len cap lo hi mx).run P w = .ok (l, h, m) w := by
  rcases hm with ⟨rfl, rfl⟩ | ⟨k, i, rfl, hi0, hi1, rfl⟩ <;> rcases hh with ⟨rfl, h2, rfl⟩ | ⟨k2, i2, rfl, hi2, hi3, rfl⟩ <;>
    rcases hl with ⟨rfl, rfl⟩ | ⟨k3, i3, rfl, hi4, hi5, rfl⟩ <;> first | (cases h2; done) | skip
  all_goals simp only [Instr.sliceBounds, Sem.run_bind, Sem.run_pure, Result.andThen_ok]
  all_goals (repeat rw [run_sliceBound (by assumption) (by assumption)])
  all_goals simp only [Result.andThen_ok]
  all_goals (repeat rw [run_sliceBound (by assumption) (by assumption)])
  all_goals simp only [Result.andThen_ok]
  all_goals (repeat rw [run_sliceBound (by assumption) (by assumption)])
  all_goals rfl

theorem cut_get {α : Type} {xs : List α} {l h i : Nat} (hi : i < (cut xs l h).length) : ∃ hl : l + i < xs.length, (cut xs l h)[i] = xs[l + i] := by
  unfold cut at hi ⊢
  simp at hi
  exact ⟨by omega, by simp⟩
theorem cut_length {α : Type} {xs : List α} {l h : Nat} (h1 : l ≤ h) (h2 : h ≤ xs.length) : (cut xs l h).length = h - l := by
  unfold cut; simp; omega
theorem cut_seq {xs : List (List AV)} {v : Value} (hv : Rep K σ O v (.seq xs) ∨ Rep K σ O v (.full xs)) {sz l h m : Nat} {a : Option Addr} {cap : Nat} (hva : v = .slice a xs.length cap)
    (h1 : l ≤ h) (h2 : h ≤ xs.length) (h3 : h ≤ m) (hsz : ∀ x ∈ xs, x.length = sz) :
    Rep K σ O (.slice (if m = l then a else a.map (·.add (l * sz))) (h - l) (m - l)) (.seq (cut xs l h)) := by
  have hlen := cut_length (xs := xs) h1 h2
  have hlim : xs.length ≤ LIM := by rcases hv with hv | hv <;> cases hv <;> assumption
  by_cases hne : l = h
  · subst hne
    have hnil : cut xs l l = [] := by apply List.eq_nil_of_length_eq_zero; rw [hlen]; omega
    rw [hnil]
    have := Rep.seq (K := K) (σ := σ) (O := O) [] (if m = l then a else a.map (·.add (l * sz))) (m - l) 0 (fun _ _ => undef) (by simp) (fun h => (h rfl).elim) (by simp) (Nat.zero_le _) (fun i hi => by simp at hi)
    simpa using this
  · have hxs : xs ≠ [] := by intro e; subst e; simp at h2; omega
    have hml : ¬ m = l := by omega
    rw [if_neg hml, ← hlen]
    have key : ∀ (sz' : Nat) (u : Nat → Nat → Value), (∀ x ∈ xs, x.length = sz') → (∃ b o arr t fr, a = some ⟨b, o, none⟩ ∧ K b = some (.cells arr t fr) ∧ ∀ i j, i < xs.length → j < sz' → arr[o + i * sz' + j]? = some (u i j)) →
        (∀ i (h : i < xs.length) j (hj : j < xs[i].length), Rep K σ [] (u i j) xs[i][j]) → Rep K σ O (.slice (a.map (·.add (l * sz))) (cut xs l h).length (m - l)) (.seq (cut xs l h)) := by
      intro sz' u g1 g2 g3
      have hss : sz' = sz := by
        have hp : 0 < xs.length := by omega
        rw [← g1 _ (List.getElem_mem hp), hsz _ (List.getElem_mem hp)]
      subst hss
      obtain ⟨b, o, arr, t, fr, rfl, hb, hc⟩ := g2
      refine .seq _ _ _ sz' (fun i j => u (l + i) j) (fun x hx => ?_) (fun _ => ⟨b, o + l * sz', arr, t, fr, by simp [add_at], hb, fun i j hi hj => ?_⟩) (by omega) (by omega) (fun i hi j hj => ?_)
      · unfold cut at hx; exact hsz x (List.mem_of_mem_drop (List.mem_of_mem_take hx))
      · have := hc (l + i) j (by omega) hj
        rw [Nat.add_mul] at this
        rw [← this]; congr 1; omega
      · obtain ⟨hl, e⟩ := cut_get hi
        have hj' : j < xs[l + i].length := by rw [← e]; exact hj
        have := g3 (l + i) hl j hj'
        simpa [e] using this
    rcases hv with hv | hv
    · cases hv with
      | seq _ a2 cap2 sz' u g1 g2 g3 g4 g5 => cases hva; exact key sz' u g1 (g2 hxs) g5
    · cases hv with
      | full _ a2 sz' u g1 g2 g3 g5 =>
        cases hva
        obtain ⟨b, o, arr, t, fr, e, hb, hc⟩ := g2 hxs
        exact key sz' u g1 ⟨b, o, arr, t, fr, by rw [e], hb, hc⟩ g5

theorem sliceE_seq {t e sz : Nat} {v : Value} {xs : List (List AV)} {lo hi mx : Option AV} {vl vh vm : Option Value} (hut : P.underlying t = some (.slice e)) (hsz : szT P e = some sz)
    (hv : Rep K σ O v (.seq xs) ∨ Rep K σ O v (.full xs)) (hlo : IsBd vl lo) (hhi : IsBd vh hi) (hmx : IsBd vm mx) : Reads P (Instr.sliceAt t v vl vh vm) K σ O w
      ((bdE mx xs.length xs.length).bind fun m => (bdE hi xs.length m).bind fun h => (bdE lo 0 h).bind fun l =>
        .need (mx.isSome = true → hi.isSome = true) (.need (h ≤ m ∧ ∀ x ∈ xs, x.length = sz) (.ret (.seq (cut xs l h))))) := by
  intro Q hq
  rw [Ev.holds_bind] at hq
  obtain ⟨m, hq, hm⟩ := bd_some hmx hq
  rw [Ev.holds_bind] at hq
  obtain ⟨h, hq, hh⟩ := bd_some hhi hq
  rw [Ev.holds_bind] at hq
  obtain ⟨l, hq, hl⟩ := bd_some hlo hq
  obtain ⟨himp, ⟨hhm, hall⟩, hQ⟩ := hq
  obtain ⟨a, cap, hva, hcap⟩ : ∃ a cap, v = .slice a xs.length cap ∧ xs.length ≤ cap := by
    rcases hv with hv | hv
    · cases hv; exact ⟨_, _, rfl, ‹_›⟩
    · cases hv; exact ⟨_, _, rfl, Nat.le_refl _⟩
  obtain ⟨m', hm1, hm2, hm3⟩ : ∃ m', ((vm = none ∧ m' = cap) ∨ ∃ k i, vm = some (.int k i) ∧ 0 ≤ i ∧ i.toNat ≤ cap ∧ m' = i.toNat) ∧ m ≤ m' ∧ (vm = none → mx = none) := by
    rcases hm with ⟨h1, h2, h3⟩ | ⟨k, i, h2, h1, h4, h5, h6⟩
    · exact ⟨cap, .inl ⟨h2, rfl⟩, by omega, fun _ => h1⟩
    · exact ⟨m, .inr ⟨k, i, h2, h4, by omega, h6⟩, Nat.le_refl _, fun e => by rw [e] at h2; cases h2⟩
  have hb := run_sliceBounds (P := P) (w := w) (b := true) (len := xs.length) (cap := cap) (l := l) (h := h) (m := m') (lo := vl) (hi := vh) (mx := vm) hm1
    (by rcases hh with ⟨h1, h2, h3⟩ | ⟨k, i, h2, _, h4, h5, h6⟩
        · refine .inl ⟨h2, ?_, h3⟩
          cases mx with
          | none => exact hmx.1 rfl
          | some y => have := himp rfl; rw [h1] at this; cases this
        · exact .inr ⟨k, i, h2, h4, by omega, h6⟩)
    (by rcases hl with ⟨_, h2, h3⟩ | ⟨k, i, h2, _, h4, h5, h6⟩
        · exact .inl ⟨h2, h3⟩
        · exact .inr ⟨k, i, h2, h4, h5, h6⟩)
  have hmle : m ≤ xs.length := by
    rcases hm with ⟨h1, h2, h3⟩ | ⟨k, i, h2, h1, h4, h5, h6⟩ <;> omega
  have hle : l ≤ h := by rcases hl with ⟨_, h2, h3⟩ | ⟨k, i, h2, _, h4, h5, h6⟩ <;> omega
  refine ⟨_, _, hQ, ?_, cut_seq hv hva (l := l) (h := h) (m := m') hle (by omega) (by omega) hall⟩
  subst hva
  simp only [Instr.sliceAt, Sem.run_bind, run_underlying hut, Result.andThen_ok, Instr.slice, hb, run_sizeOf hsz, Sem.run_pure]
theorem sliceE_ok (_h : RA c K σ O w) {t : TypeId} {v : Value} {x : AV} {lo hi mx : Option AV} {vl vh vm : Option Value} (hv : Rep K σ O v x)
    (hlo : IsBd vl lo) (hhi : IsBd vh hi) (hmx : IsBd vm mx) : Reads P (Instr.sliceAt t v vl vh vm) K σ O w (sliceE P O t x lo hi mx) := by
  unfold sliceE
  split
  · rename_i s ht
    have hut := str_of ht
    obtain ⟨rfl, hlim⟩ := hv.strv
    split
    · intro Q hq
      rw [Ev.holds_bind] at hq
      obtain ⟨h, hq, hh⟩ := bd_some hhi hq
      rw [Ev.holds_bind] at hq
      obtain ⟨l, hq, hl⟩ := bd_some hlo hq
      have hvm : vm = none := hmx.1 rfl
      subst hvm
      have hs : (⟨s.toArray⟩ : ByteArray).size = s.length := by simp [ByteArray.size]
      refine ⟨.string ⟨(cut s l h).toArray⟩, _, hq, ?_, .str _ ?_⟩
      · have hb := run_sliceBounds (P := P) (w := w) (b := false) (len := s.length) (cap := s.length) (l := l) (h := h) (m := s.length) (lo := vl) (hi := vh) (mx := none) (.inl ⟨rfl, rfl⟩)
          (by rcases hh with ⟨_, h2, h3⟩ | ⟨k, i, h2, _, h4, h5, h6⟩
              · exact .inl ⟨h2, rfl, h3⟩
              · exact .inr ⟨k, i, h2, h4, h5, h6⟩)
          (by rcases hl with ⟨_, h2, h3⟩ | ⟨k, i, h2, _, h4, h5, h6⟩
              · exact .inl ⟨h2, h3⟩
              · exact .inr ⟨k, i, h2, h4, h5, h6⟩)
        simp only [Instr.sliceAt, Sem.run_bind, run_underlying hut, Result.andThen_ok, Instr.slice, Option.isSome_none, Bool.false_eq_true, if_false, hs, hb, Sem.run_pure]
        rw [Go.ByteArray.extract_mk]; rfl
      · have : (cut s l h).length ≤ s.length := by unfold cut; simp; omega
        omega
    · exact .bad
  all_goals first
    | exact .bad
    | skip
  · rename_i e xs ht
    split
    · rename_i sz hsz; exact sliceE_seq (slice_of ht) hsz (.inl hv) hlo hhi hmx
    · exact .bad
  · rename_i e xs ht
    split
    · rename_i sz hsz; exact sliceE_seq (slice_of ht) hsz (.inr hv) hlo hhi hmx
    · exact .bad
  · rename_i n e id off ht
    split
    · rename_i xs hsz hx
      refine .need fun hle => ?_
      cases hv with
      | ptr _ _ _ h1 h2 h3 =>
        obtain rfl := h3 _ hx
        obtain rfl := hlo.1 rfl
        obtain rfl := hhi.1 rfl
        obtain rfl := hmx.1 rfl
        refine .ret (v := .slice (some ⟨(σ id).1, off, none⟩) n n) ?_ (.sub _ _ _ _ rfl h2 fun ys hy => ⟨rfl, by rw [hx] at hy; cases hy; exact hle⟩)
        have hb := run_sliceBounds (P := P) (w := w) (b := false) (len := n) (cap := n) (l := 0) (h := n) (m := n) (lo := none) (hi := none) (mx := none) (.inl ⟨rfl, rfl⟩) (.inl ⟨rfl, rfl, rfl⟩) (.inl ⟨rfl, rfl⟩)
        simp only [Instr.sliceAt, Sem.run_bind, run_underlying (arr_of ht), Result.andThen_ok, Instr.sureAddr, Sem.run_pure, hb, run_sizeOf hsz, add_at]
        simp
    · exact .bad

def lenE (P : Program) (O : List AObj) (t : TypeId) (x : AV) : Ev AV :=
  match tk P t, x with
  | some .str, .str s => .ret (.lit (.int .i64 s.length))
  | some (.slice _), x => (rowE O x).bind fun xs => .ret (.lit (.int .i64 xs.length))
  | some (.arr n _), _ => .ret (.lit (.int .i64 n))
  | some (.map _ _), .mapv es => .ret (.lit (.int .i64 es.length))
  | some (.map _ _), .lit (.map none) => .ret (.lit (.int .i64 0))
  | some (.map _ _), .omap id => match O[id]? with
    | some (.omap es) => .ret (.lit (.int .i64 es.length))
    | _ => .bad
  | _, _ => .bad
theorem map_of {t a b : TypeId} (h : tk P t = some (.map a b)) : P.underlying t = some (.map a b) := by
  unfold tk at h
  cases hu : P.underlying t with
  | none => rw [hu] at h; cases h
  | some d => rw [hu] at h; cases d <;> simp at h <;> first | (rw [h.1, h.2]; done) | (split at h <;> simp at h)
theorem run_getObj_map {b : Nat} {es : Array MapEntry} {clock : Nat} (h : w.heap[b]? = some (.map es clock)) : (getObj b).run P w = .ok (.map es clock) w := by
  simp [getObj, Sem.run, h]
theorem lenE_ok (h : RA c K σ O w) {t ty : TypeId} {ts : Array TypeId} {vs : Array Value} {v : Value} {x : AV} (ht : ts[0]? = some t) (hvs : vs[0]? = some v) (hv : Rep K σ O v x) :
    Reads P (Builtin.len_ ts ty vs) K σ O w (lenE P O t x) := by
  unfold lenE
  split
  · rename_i s hk
    obtain ⟨rfl, _⟩ := hv.strv
    have hs : (⟨s.toArray⟩ : ByteArray).size = s.length := by simp [ByteArray.size]
    exact .of_lit (by simp [Builtin.len_, ht, hvs, run_underlying (str_of hk), goInt, hs])
  · rename_i x e hk
    intro Q hq
    rw [Ev.holds_bind] at hq
    obtain ⟨xs, hQ, hlim, a, cap, sz, rfl, _⟩ := rowE_ok h hv hq
    exact ⟨_, _, hQ, by simp [Builtin.len_, ht, hvs, run_underlying (slice_of hk), goInt], .lit _⟩
  · rename_i x n e hk
    exact .of_lit (by simp [Builtin.len_, ht, hvs, run_underlying (arr_of hk), goInt])
  · rename_i es hk
    cases hv with
    | mapv _ b ents clock h1 h2 h3 h4 =>
      exact .of_lit (by simp [Builtin.len_, ht, hvs, run_underlying (map_of hk), goInt, run_getObj_map (h.cons _ _ h1), h2.1])
  · rename_i hk
    obtain rfl := hv.litv
    exact .of_lit (by simp [Builtin.len_, ht, hvs, run_underlying (map_of hk), goInt])
  · rename_i id hk
    split
    · rename_i es ho
      have h0 := h.objs id
      rw [ho] at h0
      obtain ⟨_, ents, clock, h1, h2, _⟩ := h0
      cases hv with
      | omap _ _ g1 g2 g3 =>
        obtain rfl := g3 _ ho
        exact .of_lit (by simp [Builtin.len_, ht, hvs, run_underlying (map_of hk), goInt, run_getObj_map h1, h2.1])
    · exact .bad
  · exact .bad

def pickE (b x y : AV) : Ev AV :=
  match b, x, y with
  | .lit (.bool true), x, _ => .ret x
  | .lit (.bool false), _, y => .ret y
  | _, _, _ => .bad
theorem pickE_ok {b x y : AV} {vb vx vy : Value} (hb : Rep K σ O vb b) (hx : Rep K σ O vx x) (hy : Rep K σ O vy y) :
    Reads P (do pure (if ← asBool vb then vx else vy)) K σ O w (pickE b x y) := by
  unfold pickE
  split
  · obtain rfl := hb.toBool; exact .ret (by simp [asBool]) hx
  · obtain rfl := hb.toBool; exact .ret (by simp [asBool]) hy
  · exact .bad

def nilCheckE (O : List AObj) (x : AV) : Ev AV :=
  match x with
  | .ref xs off => .ret (.ref xs off)
  | .ptr id off => match O[id]? with | some (.box _) => .ret (.ptr id off) | _ => .bad
  | .clo f cs => .ret (.clo f cs)
  | _ => .bad

/-- Parts put into their places. -/
def fillA (place : Nat → Option (Nat × Nat)) (cells : List AV) : List (Nat × AV) → Option (List AV)
  | [] => some cells
  | (i, x) :: rest => match place i, cellsA x with
    | some (off, size), some ys => if ys.length = size ∧ off + size ≤ cells.length then fillA place (splice cells off ys) rest else none
    | _, _ => none
theorem foldl_splice : ∀ (vs : List Value) (cs : Array Value) (off k : Nat), (vs.zipIdx k).foldl (fun cs (c, j) => cs.setIfInBounds (off + j) c) cs = (splice cs.toList (off + k) vs).toArray
  | [], cs, off, k => by simp [splice]
  | v :: vs, cs, off, k => by
    simp only [List.zipIdx_cons, List.foldl_cons, splice]
    rw [foldl_splice vs _ off (k + 1)]
    simp [Nat.add_assoc]
theorem fillA_ok {place : Nat → Option (Nat × Nat)} {ev : Operand → Value} {ea : Operand → AV} (hev : ∀ o, Rep K σ O (ev o) (ea o)) :
    ∀ (ps : List (Nat × Operand)) (cells : List AV) (cs : Array Value) (out : List AV),
    cs.size = cells.length → (∀ i (h : i < cells.length), Rep K σ O (cs.getD i undef) cells[i]) → fillA place cells (ps.map fun p => (p.1, ea p.2)) = some out →
    ∃ cs', Instr.fill place cs (ps.map fun p => (p.1, ev p.2)) = some cs' ∧ cs'.size = out.length ∧ ∀ i (h : i < out.length), Rep K σ O (cs'.getD i undef) out[i]
  | [], cells, cs, out, hs, hr, ho => by
    cases ho
    exact ⟨cs, rfl, hs, hr⟩
  | (i, x) :: ps, cells, cs, out, hs, hr, ho => by
      have hv := hev x
      simp only [List.map_cons] at ho ⊢
      unfold fillA at ho
      split at ho
      · rename_i off size ys hpl hys
        split at ho
        · rename_i hc
          obtain ⟨hc1, hc2⟩ := hc
          obtain ⟨g1, g2, _⟩ := hv.cells hys
          have hsz : (ev x).cells.size = size := by omega
          have hfold : (ev x).cells.zipIdx.foldl (fun cs (c, j) => cs.setIfInBounds (off + j) c) cs = (splice cs.toList off (ev x).cells.toList).toArray := by
            rw [← Array.foldl_toList, Array.toList_zipIdx]
            have := foldl_splice (ev x).cells.toList cs off 0
            simpa using this
          refine (fillA_ok hev ps (splice cells off ys) (splice cs.toList off (ev x).cells.toList).toArray out ?_ ?_ ho).imp fun cs' h => ⟨?_, h.2⟩
          · simp [splice_length, hs]
          · intro k hk
            have hk' : k < cells.length := by simpa [splice_length] using hk
            have e1 : (splice cs.toList off (ev x).cells.toList).toArray.getD k undef = ((splice cs.toList off (ev x).cells.toList)[k]?).getD undef := by simp
            have e2 : (splice cells off ys)[k] = ((splice cells off ys)[k]?).getD .any := by simp [hk]
            rw [e1, e2, splice_get _ _ _ _ (by simp; omega), splice_get _ _ _ _ (by omega)]
            simp only [Array.length_toList, g1]
            split
            · rename_i hin
              have hko : k - off < ys.length := by omega
              have := g2 (k - off) hko
              simpa [hko, g1] using this
            · have := hr k hk'
              simpa [hk', hs] using this
          · unfold Instr.fill
            have hcs : ¬ ((ev x).cells.size ≠ size || off + (ev x).cells.size > cs.size) = true := by
              have : ¬ (off + size > cs.size) := by omega
              simp [hsz, this]
            simp only [hpl]
            rw [if_neg hcs, hfold]; exact h.1
        · cases ho
      · cases ho

/-- A struct or an array put together. -/
def buildE (P : Program) (t : TypeId) (xs : List (Nat × AV)) : Ev AV :=
  match zeT P t, tk P t with
  | some zs, some (.struct fs) => match fillA (fun i => (fs[i]?).map fun f => (f.1, f.2.1)) zs xs with
    | some out => .ret (.agg out)
    | none => .bad
  | some zs, some (.arr _ e) => match szT P e with
    | some sz => match fillA (fun i => some (i * sz, sz)) zs xs with
      | some out => .ret (.agg out)
      | none => .bad
    | none => .bad
  | _, _ => .bad
def sizesOk (P : Program) (s : TypeId) : Prop := ∀ fields, P.underlying s = some (.struct fields) → ∀ f ∈ fields.toList, (P.info? f.type).isSome = true
theorem run_places : ∀ (fs : List Field), (∀ f ∈ fs, (P.info? f.type).isSome = true) →
    (fs.mapM fun f => (do pure (f.offset, ← sizeOf f.type) : Sem (Nat × Nat))).run P w = .ok (fs.map fun f => (f.offset, P.cellsOf f.type)) w
  | [], _ => by simp
  | f :: fs, h => by
    have h1 : (sizeOf f.type).run P w = .ok (P.cellsOf f.type) w := by
      have := h f (by simp)
      unfold Program.cellsOf
      cases hi : P.info? f.type with
      | none => rw [hi] at this; cases this
      | some i => simp [sizeOf, typeInfo, hi]
    simp only [List.mapM_cons, Sem.run_bind, h1, Result.andThen_ok, Sem.run_pure, run_places fs (fun f hf => h f (by simp [hf])), List.map_cons]
theorem buildE_ok {t : TypeId} {ev : Operand → Value} {ea : Operand → AV} (hev : ∀ o, Rep K σ O (ev o) (ea o)) (ps : Array (Nat × Operand)) :
    Reads P (Instr.build t (ps.map fun p => (p.1, ev p.2))) K σ O w (buildE P t (ps.toList.map fun p => (p.1, ea p.2))) := by
  unfold buildE
  split
  · rename_i zs fs hz hk
    obtain ⟨z, hzr, hzs, hzc⟩ := run_zeroValue (w := w) hz
    obtain ⟨fields, hu, rfl, hok⟩ := struct_of hk
    split
    · rename_i out ho
      obtain ⟨cs', h1, h2, h3⟩ := fillA_ok hev ps.toList zs z.cells out hzs (fun i hi => hzc K σ O i hi) ho
      refine .ret (v := .agg cs') ?_ (.agg _ _ h2 h3)
      have hpl : (fields.mapM fun f => (do pure (f.offset, ← sizeOf f.type) : Sem (Nat × Nat))).run P w = .ok (fields.map fun f => (f.offset, P.cellsOf f.type)) w := by
        rw [Array.mapM_eq_mapM_toList]
        simp only [Sem.run_map, run_places fields.toList (fun f hf => by have := List.all_eq_true.1 hok f hf; simp at this; exact this.1), Result.andThen_ok]
        congr 1; apply Array.ext'; simp
      have hfun : (fun (i : Nat) => (fields.map fun f => (f.offset, P.cellsOf f.type))[i]?) = fun i => ((fields.toList.map fun f => (f.offset, P.cellsOf f.type, aggB P f.type))[i]?).map fun (f : Nat × Nat × Bool) => (f.1, f.2.1) := by
        funext i; simp [Option.map_map, Function.comp_def]
      simp only [Instr.build, Sem.run_bind, hzr, Result.andThen_ok, run_underlying hu, hpl]
      have : Instr.fill (fun (i : Nat) => (fields.map fun f => (f.offset, P.cellsOf f.type))[i]?) z.cells (ps.map fun p => (p.1, ev p.2)).toList = some cs' := by
        rw [hfun, Array.toList_map]; exact h1
      rw [this]; rfl
    · exact .bad
  · rename_i zs n e hz hk
    obtain ⟨z, hzr, hzs, hzc⟩ := run_zeroValue (w := w) hz
    split
    · rename_i sz hsz
      split
      · rename_i out ho
        obtain ⟨cs', h1, h2, h3⟩ := fillA_ok hev ps.toList zs z.cells out hzs (fun i hi => hzc K σ O i hi) ho
        refine .ret (v := .agg cs') ?_ (.agg _ _ h2 h3)
        have : Instr.fill (fun i => some (i * sz, sz)) z.cells (ps.map fun p => (p.1, ev p.2)).toList = some cs' := by
          rw [Array.toList_map]; exact h1
        simp only [Instr.build, Sem.run_bind, hzr, Result.andThen_ok, run_underlying (arr_of hk), run_sizeOf hsz]
        rw [this]; rfl
      · exact .bad
    · exact .bad
  · exact .bad
end
end Go.Aw
namespace Go.Aw
section
variable {P : Program} {K : Sto} {σ : Plc} {O : List AObj} {w : World} {c : Ctx}

/-- An operation that turns memory: what it gives, and the objects behind it. -/
def Does {α : Type} (P : Program) (e : Sem α) (K : Sto) (σ : Plc) (O : List AObj) (w : World) (good : Sto → Plc → List AObj → α → AV → Prop) (E : Ev (AV × List AObj)) : Prop :=
  ∀ Q, E.holds Q → ∃ v x K' σ' O' w', Q (x, O') ∧ e.run P w = .ok v w' ∧ (∀ c, RA c K σ O w → RA c K' σ' O' w') ∧ (∀ v x, Rep K σ O v x → Rep K' σ' O' v x) ∧ good K' σ' O' v x
abbrev DoesV (P : Program) (e : Sem Value) (K : Sto) (σ : Plc) (O : List AObj) (w : World) := Does P e K σ O w (fun K' σ' O' v x => Rep K' σ' O' v x)
abbrev DoesU (P : Program) (e : Sem Unit) (K : Sto) (σ : Plc) (O : List AObj) (w : World) := Does P e K σ O w (fun _ _ _ _ x => x = .any)

theorem Does.need {α : Type} {e : Sem α} {good} {p : Prop} {E : Ev (AV × List AObj)} (h : p → Does P e K σ O w good E) : Does P e K σ O w good (.need p E) := fun Q hq => h hq.1 Q hq.2
theorem Does.bad {α : Type} {e : Sem α} {good} : Does P e K σ O w good .bad := fun _ h => h.elim
theorem Reads.does {e : Sem Value} {E : Ev AV} (h : Reads P e K σ O w E) : DoesV P e K σ O w (E.bind fun x => .ret (x, O)) := by
  intro Q hq
  rw [Ev.holds_bind] at hq
  obtain ⟨v, x, hQ, hr, hv⟩ := h _ hq
  exact ⟨v, x, K, σ, O, w, hQ, hr, fun _ h => h, fun _ _ h => h, hv⟩

/-- A variable in new memory. -/
theorem newBox {cs : Array Value} {ys : List AV} (t : TypeId) (h1 : cs.size = ys.length) (h2 : ∀ i (h : i < ys.length), Rep K σ O (cs.getD i undef) ys[i]) {c : Ctx} (h : RA c K σ O w) :
    RA c K (σ.upd O.length (w.heap.size, 0)) (O ++ [.box ys]) { w with heap := w.heap.push (.cells cs t) } := by
  have hp := h.push (.cells cs t)
  refine hp.adopt h.size (fun ⟨id, ha, e⟩ => ?_) ?_
  · have := h.owned_lt ha; omega
  · have sn : σ.upd O.length (w.heap.size, 0) O.length = (w.heap.size, 0) := by unfold Plc.upd; rw [if_pos rfl]
    refine ⟨?_, cs, t, (0, 0), ?_, fun j _ => by omega, h1, fun i hi => (h2 i hi).mono (fun _ _ h => h) (Compat.append _ _ _ _)⟩
    · rw [sn]
      cases hk : K w.heap.size with
      | none => rfl
      | some o => have := h.cons _ _ hk; simp at this
    · rw [sn]; simp
theorem newBuf {cs : Array Value} {sz cap : Nat} {xs : List (List AV)} (t : TypeId) (fr : Nat × Nat) (hfr : freeAll cs fr) (h1 : cs.size = cap * sz) (hcap : xs.length ≤ cap) (hlim : xs.length ≤ LIM) (hsz : ∀ x ∈ xs, x.length = sz)
    (h2 : ∀ i (h : i < xs.length) j (hj : j < xs[i].length), Rep K σ O (cs.getD (i * sz + j) undef) xs[i][j]) {c : Ctx} (h : RA c K σ O w) :
    RA c K (σ.upd O.length (w.heap.size, cap)) (O ++ [.buf sz xs]) { w with heap := w.heap.push (.cells cs t fr) } := by
  have hp := h.push (.cells cs t fr)
  refine hp.adopt h.size (fun ⟨id, ha, e⟩ => ?_) ?_
  · have := h.owned_lt ha; omega
  · have sn : σ.upd O.length (w.heap.size, cap) O.length = (w.heap.size, cap) := by unfold Plc.upd; rw [if_pos rfl]
    refine ⟨?_, cs, t, fr, ?_, hfr, by rw [sn]; exact h1, by rw [sn]; exact hcap, hlim, hsz, fun i hi j hj => (h2 i hi j hj).mono (fun _ _ h => h) (Compat.append _ _ _ _)⟩
    · rw [sn]
      cases hk : K w.heap.size with
      | none => rfl
      | some o => have := h.cons _ _ hk; simp at this
    · rw [sn]; simp

def allocE (P : Program) (O : List AObj) (t : TypeId) : Ev (AV × List AObj) :=
  match zeT P t with
  | some zs => .ret (.ptr O.length 0, O ++ [.box zs])
  | none => .bad
theorem ptr_new (o : Nat) (ys : List AV) {b cap : Nat} : Rep K (σ.upd O.length (b, cap)) (O ++ [.box ys]) (.pointer (some ⟨b, o, none⟩)) (.ptr O.length o) :=
  .ptr _ _ _ rfl (by simp) fun xs _ => by unfold Plc.upd; rw [if_pos rfl]
theorem allocE_ok {t : TypeId} {old : Value} : DoesV P (Instr.alloc t true old) K σ O w (allocE P O t) := by
  unfold allocE
  split
  · rename_i zs hz
    obtain ⟨z, hzr, hzs, hzc⟩ := run_zeroValue (w := w) hz
    intro Q hq
    refine ⟨_, _, K, _, _, _, hq, ?_, fun c h => newBox t hzs (fun i hi => hzc K σ O i hi) h, fun v x h => h.mono (fun _ _ h => h) (Compat.append _ _ _ _), ptr_new 0 zs⟩
    simp [Instr.alloc, hzr, newVar, newRow]
  · exact .bad
def boxE (O : List AObj) (x : AV) : Ev (AV × List AObj) :=
  match cellsA x with
  | some ys => .ret (.ptr O.length 0, O ++ [.box ys])
  | none => .bad
theorem boxE_ok {t : TypeId} {v : Value} {x : AV} (hv : Rep K σ O v x) : DoesV P (Instr.box t v) K σ O w (boxE O x) := by
  unfold boxE
  split
  · rename_i ys hy
    obtain ⟨h1, h2, _⟩ := hv.cells hy
    intro Q hq
    refine ⟨_, _, K, _, _, _, hq, ?_, fun c h => newBox t h1 h2 h, fun v x h => h.mono (fun _ _ h => h) (Compat.append _ _ _ _), ptr_new 0 ys⟩
    simp [Instr.box, newVar, newRow]
  · exact .bad

/-- The object id gets new contents in its own block. -/
theorem setBox {id : Nat} {xs ys : List AV} (ho : O[id]? = some (.box xs)) (hl : ys.length = xs.length) {arr arr' : Array Value} {t : TypeId} {fr : Nat × Nat}
    (hb : w.heap[(σ id).1]? = some (.cells arr t fr)) (hs : arr'.size = arr.size) (hf : freeAll arr fr) (hr : ∀ i (h : i < ys.length), Rep K σ O (arr'.getD i undef) ys[i]) {c : Ctx} (h : RA c K σ O w) :
    RA c K σ (O.set id (.box ys)) (setBlk w (σ id).1 (.cells arr' t fr)) ∧ Compat O σ (O.set id (.box ys)) σ := by
  have hid : σ.upd id (σ id) = σ := by funext j; unfold Plc.upd; split <;> simp_all
  have hc : Compat O σ (O.set id (.box ys)) σ := Compat.set ho (fun _ _ => rfl) (fun zs e => by cases e; exact ⟨⟨xs, rfl, hl⟩, rfl⟩) (fun _ _ e => by cases e) (fun _ e => by cases e)
  refine ⟨?_, hc⟩
  have hlt := lt_of_some hb
  have h0 := h.objs id
  rw [ho] at h0
  obtain ⟨hk, arr0, t0, fr0, hb0, _, hs0, _⟩ := h0
  have := h.set (o' := .box ys) ho trivial (w' := setBlk w (σ id).1 (.cells arr' t fr)) (p := σ id) (.inl rfl) rfl rfl rfl (by simp [setBlk])
    (fun b hlt hne => by simp [setBlk, Ne.symm hne]) (by rw [hid]; exact hc)
    (by
      rw [hid]
      refine ⟨hk, arr', t, fr, by simp [setBlk, hlt], fun j hj => hf j (by omega), ?_, fun i hi => (hr i hi).mono (fun _ _ h => h) hc⟩
      rw [hb] at hb0; cases hb0; omega)
  rw [hid] at this; exact this
theorem setBuf {id sz : Nat} {xs ys : List (List AV)} (ho : O[id]? = some (.buf sz xs)) (hl : ys.length = xs.length ∨ xs.length < ys.length) (hcap : ys.length ≤ (σ id).2) (hlim : ys.length ≤ LIM) (hsz : ∀ x ∈ ys, x.length = sz)
    {arr arr' : Array Value} {t : TypeId} {fr : Nat × Nat}
    (hb : w.heap[(σ id).1]? = some (.cells arr t fr)) (hs : arr'.size = arr.size) (hf : freeAll arr fr)
    (hr : ∀ i (h : i < ys.length) j (hj : j < ys[i].length), Rep K σ O (arr'.getD (i * sz + j) undef) ys[i][j]) {c : Ctx} (h : RA c K σ O w) :
    RA c K σ (O.set id (.buf sz ys)) (setBlk w (σ id).1 (.cells arr' t fr)) ∧ Compat O σ (O.set id (.buf sz ys)) σ := by
  have hid : σ.upd id (σ id) = σ := by funext j; unfold Plc.upd; split <;> simp_all
  have hc : Compat O σ (O.set id (.buf sz ys)) σ := Compat.set ho (fun _ _ => rfl) (fun zs e => by cases e) (fun _ _ e => by cases e; exact ⟨xs, rfl, hl.imp (fun h => ⟨h, rfl⟩) (fun h => h)⟩) (fun _ e => by cases e)
  refine ⟨?_, hc⟩
  have hlt := lt_of_some hb
  have h0 := h.objs id
  rw [ho] at h0
  obtain ⟨hk, arr0, t0, fr0, hb0, _, hs0, _⟩ := h0
  have := h.set (o' := .buf sz ys) ho trivial (w' := setBlk w (σ id).1 (.cells arr' t fr)) (p := σ id) (.inl rfl) rfl rfl rfl (by simp [setBlk])
    (fun b hlt hne => by simp [setBlk, Ne.symm hne]) (by rw [hid]; exact hc)
    (by
      rw [hid]
      refine ⟨hk, arr', t, fr, by simp [setBlk, hlt], fun j hj => hf j (by omega), ?_, hcap, hlim, hsz, fun i hi j hj => (hr i hi j hj).mono (fun _ _ h => h) hc⟩
      rw [hb] at hb0; cases hb0; omega)
  rw [hid] at this; exact this

def storeE (P : Program) (O : List AObj) (t : TypeId) (p x : AV) : Ev (AV × List AObj) :=
  match szT P t, cellsA x, p with
  | some n, some ys, .ptr id off => match O[id]? with
    | some (.box xs) => .need (ys.length = n ∧ off + ys.length ≤ xs.length) (.ret (.any, O.set id (.box (splice xs off ys))))
    | _ => .bad
  | some n, some ys, .pel id len i off => match O[id]? with
    | some (.buf sz xs) => .need (len = xs.length ∧ ys.length = n ∧ off + ys.length ≤ sz) (.ret (.any, O.set id (.buf sz (xs.set i (splice (xs.getD i []) off ys)))))
    | _ => .bad
  | _, _, _ => .bad
theorem getD_splice {arr : Array Value} {o : Nat} {vs : List Value} {j : Nat} (h : o + vs.length ≤ arr.size) :
    (splice arr.toList o vs).toArray.getD j undef = if o ≤ j ∧ j < o + vs.length then vs.getD (j - o) undef else arr.getD j undef := by
  have e1 : (splice arr.toList o vs).toArray.getD j undef = ((splice arr.toList o vs)[j]?).getD undef := by simp
  rw [e1, splice_get _ _ _ _ (by simpa using h)]
  split <;> simp
theorem storeE_ok {c0 : Ctx} (h : RA c0 K σ O w) {t : TypeId} {v u : Value} {p x : AV} (hv : Rep K σ O v p) (hu : Rep K σ O u x) : DoesU P (Instr.storeAt t v u) K σ O w (storeE P O t p x) := by
  unfold storeE
  split
  · rename_i n ys id off hn hy
    obtain ⟨h1, h2, h3⟩ := hu.cells hy
    split
    · rename_i xs ho
      refine .need fun ⟨hl, hle⟩ Q hq => ?_
      have h0 := h.objs id
      rw [ho] at h0
      obtain ⟨hk, arr, t0, fr, hb, hf, hs, hr⟩ := h0
      cases hv with
      | ptr _ _ _ g1 g2 g3 =>
        obtain rfl := g3 _ ho
        have hlen : off + u.cells.toList.length ≤ arr.size := by simp; omega
        have hset : ∀ c, RA c K σ O w → _ := fun c hc => setBox (c := c) (K := K) (σ := σ) (O := O) (w := w) (id := id) (xs := xs) (ys := splice xs off ys) ho (splice_length _ _ _) (arr := arr) (arr' := (splice arr.toList off u.cells.toList).toArray) (t := t0) (fr := fr) hb
          (by simp [splice_length]) hf (fun i hi => by
            have hi' : i < xs.length := by simpa [splice_length] using hi
            rw [getD_splice hlen]
            have e2 : (splice xs off ys)[i] = ((splice xs off ys)[i]?).getD .any := by simp [hi]
            rw [e2, splice_get _ _ _ _ hle]
            simp only [Array.length_toList, h1]
            split
            · rename_i hin
              have hio : i - off < ys.length := by omega
              have := h2 (i - off) hio
              simpa [hio, h1] using this
            · have := hr i hi'
              simpa [hi', hs] using this) hc
        refine ⟨(), .any, K, σ, _, _, hq, ?_, fun c hc => (hset c hc).1, fun v x hx => hx.mono (fun _ _ h => h) (hset c0 h).2, rfl⟩
        have hsz : u.cells.size = n := by omega
        simp only [Instr.storeAt, Instr.sureAddr, Sem.run_bind, Sem.run_pure, Result.andThen_ok, storeVar, run_sizeOf hn, hsz, ne_eq, not_true, if_false]
        rw [run_storeCells P _ t0 fr _ _ arr off 0 hb hf (by simpa using hlen) h3]
        rfl
    · exact .bad
  · rename_i n ys id len i off hn hy
    obtain ⟨h1, h2, h3⟩ := hu.cells hy
    split
    · rename_i sz xs ho
      refine .need fun ⟨hlx, hl, hle⟩ Q hq => ?_
      have h0 := h.objs id
      rw [ho] at h0
      obtain ⟨hk, arr, t0, fr, hb, hf, hs, hcap, hlim, hsz, hr⟩ := h0
      cases hv with
      | pel _ _ _ _ _ g1 g2 hil g3 =>
        obtain rfl := (g3 _ _ ho).2 hlx
        have hi : i < xs.length := by omega
        have hrow : i * sz + sz ≤ arr.size := by
          rw [hs]
          calc i * sz + sz = (i + 1) * sz := by rw [Nat.add_mul]; omega
            _ ≤ (σ id).2 * sz := Nat.mul_le_mul_right _ (by omega)
        have hxl : xs[i].length = sz := hsz _ (List.getElem_mem hi)
        have hlen : i * sz + off + u.cells.toList.length ≤ arr.size := by simp; omega
        have hset : ∀ c, RA c K σ O w → _ := fun c hc => setBuf (c := c) (K := K) (σ := σ) (O := O) (w := w) (id := id) (sz := sz) (xs := xs) (ys := xs.set i (splice (xs.getD i []) off ys)) ho (.inl (by simp)) (by simpa using hcap) (by simpa using hlim)
          (fun x hx => by
            rcases List.mem_or_eq_of_mem_set hx with hx | rfl
            · exact hsz x hx
            · simp [splice_length, hi, hxl])
          (arr := arr) (arr' := (splice arr.toList (i * sz + off) u.cells.toList).toArray) (t := t0) (fr := fr) hb
          (by simp [splice_length]) hf (fun k hkk j hj => by
            have hk' : k < xs.length := by simpa using hkk
            rw [getD_splice hlen]
            simp only [Array.length_toList, h1]
            by_cases hik : i = k
            · subst hik
              have hj' : j < sz := by simpa [splice_length, hi, hxl] using hj
              have e2 : (xs.set i (splice (xs.getD i []) off ys))[i][j] = ((splice xs[i] off ys)[j]?).getD .any := by
                have : j < (splice xs[i] off ys).length := by rw [splice_length]; omega
                simp [hi, this]
              rw [e2, splice_get _ _ _ _ (by omega)]
              by_cases hin : off ≤ j ∧ j < off + ys.length
              · rw [if_pos hin, if_pos (by omega)]
                have hio : j - off < ys.length := by omega
                have := h2 (j - off) hio
                have e3 : i * sz + j - (i * sz + off) = j - off := by omega
                rw [e3]
                simpa [hio, h1] using this
              · rw [if_neg hin, if_neg (by omega)]
                have := hr i hi j (by omega)
                have hjx : j < xs[i].length := by omega
                simpa [hjx] using this
            · have e2 : (xs.set i (splice (xs.getD i []) off ys))[k] = xs[k] := by simp [hik]
              have hj' : j < xs[k].length := by rw [← e2]; exact hj
              have hj2 : j < sz := by rw [← hsz _ (List.getElem_mem hk')]; exact hj'
              rw [if_neg ?_]
              · have := hr k hk' j hj'
                simpa [hik] using this
              · intro hin
                rcases Nat.lt_or_ge i k with hlt | hge
                · have : (i + 1) * sz ≤ k * sz := Nat.mul_le_mul_right _ (by omega)
                  rw [Nat.add_mul] at this; omega
                · have : (k + 1) * sz ≤ i * sz := Nat.mul_le_mul_right _ (by omega)
                  rw [Nat.add_mul] at this; omega) hc
        refine ⟨(), .any, K, σ, _, _, hq, ?_, fun c hc => (hset c hc).1, fun v x hx => hx.mono (fun _ _ h => h) (hset c0 h).2, rfl⟩
        have hszu : u.cells.size = n := by omega
        simp only [Instr.storeAt, Instr.sureAddr, Sem.run_bind, Sem.run_pure, Result.andThen_ok, storeVar, run_sizeOf hn, hszu, ne_eq, not_true, if_false]
        rw [run_storeCells P _ t0 fr _ _ arr (i * sz + off) 0 hb hf (by simpa using hlen) h3]
        rfl
    · exact .bad
  · exact .bad
end
end Go.Aw
