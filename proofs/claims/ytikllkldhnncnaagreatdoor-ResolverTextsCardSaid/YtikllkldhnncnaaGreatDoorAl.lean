/- The careful evaluators, second part. -/
import Derived.Test.YtikllkldhnncnaaGreatDoorAk
set_option linter.all false
namespace Go.Aw
namespace S
variable (T : Tab)
def rowE (O : List AObj) (x : AV) : Ev (List (List AV)) :=
  match x with
  | .seq xs => .ret xs
  | .full xs => .ret xs
  | .lit (.slice none 0 _) => .ret []
  | .own id l => match O[id]? with
    | some (.buf _ xs) => .need (eqN l (len xs) = true) (.ret xs)
    | _ => .bad
  | .sub id off n => match O[id]? with
    | some (.box xs) => .need (leN n LIM = true) (.ret (pick (g2 (gN n) (gN off)) fun _ => ySubR xs off n))
    | _ => .bad
  | _ => .bad
theorem rowE_eq (O : List AObj) (x : AV) : rowE O x = Aw.rowE O x := by
  unfold rowE Aw.rowE; simp only [eqN_eq, len_eq, leN_eq, pick_eq, plain]; try rfl
def strRow (xs : List (List AV)) : Ev AV := .need (pick (gP xs) (fun _ => xs.all isByteA) = true) (.ret (.str (pick (gP xs) fun _ => xs.map byteS)))
theorem strRow_eq (xs : List (List AV)) : strRow xs = Aw.strRow xs := by
  unfold strRow Aw.strRow; simp only [pick_eq, byteS_fun]
def wrp (k : IntKind) (n : Int) : Int := pick (gI n) fun _ => k.wrap n
def convE (O : List AObj) (src dst : TypeId) (x : AV) : Ev AV :=
  match T.tk src, T.tk dst, x with
  | some (.int _), some (.int k), .lit (.int _ n) => .ret (.lit (.int k (wrp k n)))
  | some .str, some .str, .str s => .ret (.str s)
  | some (.slice e), some .str, x => match T.tk e with
    | some (.int .u8) => (rowE O x).bind strRow
    | _ => .bad
  | _, _, _ => .bad
theorem convE_le {P : Program} {T : Tab} (h : TabOk P T) (O : List AObj) (s d : TypeId) (x : AV) : Le (convE T O s d x) (Aw.convE P O s d x) := by
  unfold convE
  split
  · rename_i k' k kk n h1 h2
    refine Le.eq ?_
    unfold Aw.convE
    simp only [h.tk h1, h.tk h2, wrp, pick_eq, plain]
  · rename_i s' h1 h2
    refine Le.eq ?_
    unfold Aw.convE
    simp only [h.tk h1, h.tk h2]
  · rename_i e x' h1 h2
    split
    · rename_i h3
      refine Le.eq ?_
      unfold Aw.convE
      simp only [h.tk h1, h.tk h2, h.tk h3, rowE_eq]
      congr 1
      funext xs; exact strRow_eq xs
    · exact Le.bad _
  · exact Le.bad _
def bdE (x : Option AV) (d : Nat) (hi : Nat) : Ev Nat :=
  match x with
  | none => .ret d
  | some (.lit (.int _ i)) => .need (pick (g2 (gI i) (gN hi)) (fun _ => yBd i hi) = true) (.ret (natI i))
  | _ => .bad
theorem bdE_eq (x : Option AV) (d hi : Nat) : bdE x d hi = Aw.bdE x d hi := by
  unfold bdE Aw.bdE; simp only [pick_eq, plain, decide_eq_true_eq, natI_eq]; try rfl
def ct {α : Type} (xs : List α) (l h : Nat) : List α := pick (g2 (g2 (gN l) (gN h)) (gP xs)) fun _ => cut xs l h
@[simp] theorem ct_eq {α : Type} (xs : List α) (l h : Nat) : ct xs l h = cut xs l h := by simp [ct]
def rowOk (xs : List (List AV)) (sz : Nat) : Bool := pick (gP xs) fun _ => yRowOk xs sz
theorem rowOk_eq (xs : List (List AV)) (sz : Nat) : (rowOk xs sz = true) = ∀ x ∈ xs, x.length = sz := by simp [rowOk, plain]
def sliceR (xs : List (List AV)) (sz : Nat) (lo hi mx : Option AV) : Ev AV :=
  (bdE mx (len xs) (len xs)).bind fun m => (bdE hi (len xs) m).bind fun h => (bdE lo 0 h).bind fun l =>
    .need ((!mx.isSome || hi.isSome) = true) (.need (leN h m = true ∧ rowOk xs sz = true) (.ret (.seq (ct xs l h))))
def sliceE (O : List AObj) (t : TypeId) (x : AV) (lo hi mx : Option AV) : Ev AV :=
  match T.tk t, x with
  | some .str, .str s => match mx with
    | none => (bdE hi (len s) (len s)).bind fun h => (bdE lo 0 h).bind fun l => .ret (.str (ct s l h))
    | some _ => .bad
  | some (.slice e), .seq xs => match T.sz e with
    | some sz => sliceR xs sz lo hi mx
    | none => .bad
  | some (.slice e), .full xs => match T.sz e with
    | some sz => sliceR xs sz lo hi mx
    | none => .bad
  | some (.arr n e), .ptr id off => match T.sz e, O[id]?, lo, hi, mx with
    | some 1, some (.box xs), none, none, none => .need (leN (addN off n) (len xs) = true) (.ret (.sub id off n))
    | _, _, _, _, _ => .bad
  | _, _ => .bad
theorem isSome_eq (a b : Option AV) : ((!a.isSome || b.isSome) = true) = (a.isSome = true → b.isSome = true) := by cases a <;> cases b <;> simp
theorem sliceE_le {P : Program} {T : Tab} (h : TabOk P T) (O : List AObj) (t : TypeId) (x : AV) (lo hi mx : Option AV) : Le (sliceE T O t x lo hi mx) (Aw.sliceE P O t x lo hi mx) := by
  unfold sliceE
  split
  · rename_i s h1
    refine Le.eq ?_
    unfold Aw.sliceE
    simp only [h.tk h1, bdE_eq, len_eq, ct_eq]; try rfl
  · rename_i e xs h1
    split
    · rename_i sz h2
      refine Le.eq ?_
      unfold Aw.sliceE sliceR
      simp only [h.tk h1, h.sz h2, bdE_eq, len_eq, ct_eq, isSome_eq, leN_eq, rowOk_eq]
    · exact Le.bad _
  · rename_i e xs h1
    split
    · rename_i sz h2
      refine Le.eq ?_
      unfold Aw.sliceE sliceR
      simp only [h.tk h1, h.sz h2, bdE_eq, len_eq, ct_eq, isSome_eq, leN_eq, rowOk_eq]
    · exact Le.bad _
  · rename_i n e id off h1
    split
    · rename_i xs h2 h3
      refine Le.eq ?_
      unfold Aw.sliceE
      simp only [h.tk h1, h.sz h2, h3, leN_eq, addN_eq, len_eq]
    · exact Le.bad _
  · exact Le.bad _
def lenE (O : List AObj) (t : TypeId) (x : AV) : Ev AV :=
  match T.tk t, x with
  | some .str, .str s => .ret (.lit (.int .i64 (natZ (len s))))
  | some (.slice _), x => (rowE O x).bind fun xs => .ret (.lit (.int .i64 (natZ (len xs))))
  | some (.arr n _), _ => .ret (.lit (.int .i64 (natZ n)))
  | some (.map _ _), .mapv es => .ret (.lit (.int .i64 (natZ (len es))))
  | some (.map _ _), .lit (.map none) => .ret (.lit (.int .i64 0))
  | some (.map _ _), .omap id => match O[id]? with
    | some (.omap es) => .ret (.lit (.int .i64 (natZ (len es))))
    | _ => .bad
  | _, _ => .bad
theorem lenE_le {P : Program} {T : Tab} (h : TabOk P T) (O : List AObj) (t : TypeId) (x : AV) : Le (lenE T O t x) (Aw.lenE P O t x) := by
  unfold lenE
  split
  all_goals first | exact Le.bad _ | skip
  all_goals (rename_i h1; first | (have h2 := h.tk h1) | skip)
  all_goals (refine Le.eq ?_; unfold Aw.lenE)
  all_goals first | (simp only [h2, natZ_eq, len_eq, rowE_eq]; done) | (simp only [h2, natZ_eq, len_eq, rowE_eq]; rfl) | skip
def pickE (b x y : AV) : Ev AV :=
  match b with
  | .lit (.bool b) => .fork b (.ret x) (.ret y)
  | _ => .bad
theorem pickE_le (b x y : AV) : Le (pickE b x y) (Aw.pickE b x y) := by
  unfold pickE
  split
  · rename_i b
    intro Q hQ
    cases b
    · exact hQ.2 rfl
    · exact hQ.1 rfl
  · exact Le.bad _
def buildE (t : TypeId) (xs : List (Nat × AV)) : Ev AV :=
  match T.ze t, T.tk t with
  | some zs, some (.struct fs) => match Aw.fillA (fun i => (fs[i]?).map fun f => (f.1, f.2.1)) zs xs with
    | some out => .ret (.agg out)
    | none => .bad
  | some zs, some (.arr _ e) => match T.sz e with
    | some sz => match Aw.fillA (fun i => some (i * sz, sz)) zs xs with
      | some out => .ret (.agg out)
      | none => .bad
    | none => .bad
  | _, _ => .bad
theorem buildE_le {P : Program} {T : Tab} (h : TabOk P T) (t : TypeId) (xs : List (Nat × AV)) : Le (buildE T t xs) (Aw.buildE P t xs) := by
  unfold buildE
  split
  · rename_i zs fs h1 h2
    refine Le.eq ?_
    unfold Aw.buildE
    simp only [h.ze h1, h.tk h2]; try rfl
  · rename_i zs n e h1 h2
    split
    · rename_i sz h3
      refine Le.eq ?_
      unfold Aw.buildE
      simp only [h.ze h1, h.tk h2, h.sz h3]; try rfl
    · exact Le.bad _
  · exact Le.bad _
def allocE (O : List AObj) (t : TypeId) : Ev (AV × List AObj) :=
  match T.ze t with
  | some zs => .ret (.ptr O.length 0, O ++ [.box zs])
  | none => .bad
theorem allocE_le {P : Program} {T : Tab} (h : TabOk P T) (O : List AObj) (t : TypeId) : Le (allocE T O t) (Aw.allocE P O t) := by
  unfold allocE
  split
  · rename_i zs h1
    refine Le.eq ?_
    unfold Aw.allocE
    rw [h.ze h1]
  · exact Le.bad _
def cellsE (x : AV) : Ev (List AV) :=
  match x with
  | .agg ys => .need (pick (gP ys) (fun _ => ys.all AV.one) = true) (.ret ys)
  | x => match x.one with
    | true => .ret [x]
    | false => .bad
theorem cellsE_ok {x : AV} {Q : List AV → Prop} (h : (cellsE x).holds Q) : ∃ ys, cellsA x = some ys ∧ Q ys := by
  unfold cellsE at h
  unfold cellsA
  split at h
  · rename_i ys
    simp only [pick_eq, Ev.holds] at h
    exact ⟨ys, by simp only [h.1, if_true], h.2⟩
  · rename_i hx
    split at h
    · rename_i h1
      refine ⟨[x], ?_, h⟩
      split
      · exact (hx _ rfl).elim
      · simp only [h1, if_true]
    · exact h.elim
def boxE (O : List AObj) (x : AV) : Ev (AV × List AObj) := (cellsE x).bind fun ys => .ret (.ptr O.length 0, O ++ [.box ys])
theorem boxE_le (O : List AObj) (x : AV) : Le (boxE O x) (Aw.boxE O x) := by
  intro Q h
  unfold boxE at h
  rw [Ev.holds_bind] at h
  obtain ⟨ys, h1, h2⟩ := cellsE_ok h
  unfold Aw.boxE
  rw [h1]; exact h2
def storeB (O : List AObj) (n : Nat) (ys : List AV) (p : AV) : Ev (AV × List AObj) :=
  match p with
  | .ptr id off => match O[id]? with
    | some (.box xs) => .need (eqN (len ys) n = true ∧ leN (addN off (len ys)) (len xs) = true) (.ret (.any, O.set id (.box (spl xs off ys))))
    | _ => .bad
  | .pel id l i off => match O[id]? with
    | some (.buf sz xs) => .need (eqN l (len xs) = true ∧ eqN (len ys) n = true ∧ leN (addN off (len ys)) sz = true) (.ret (.any, O.set id (.buf sz (pick (g2 (gN i) (g2 (gP ys) (gP xs))) fun _ => xs.set i (splice (xs.getD i []) off ys)))))
    | _ => .bad
  | _ => .bad
def storeE (O : List AObj) (t : TypeId) (p x : AV) : Ev (AV × List AObj) :=
  match T.sz t with
  | some n => (cellsE x).bind fun ys => storeB O n ys p
  | none => .bad
theorem storeE_le {P : Program} {T : Tab} (h : TabOk P T) (O : List AObj) (t : TypeId) (p x : AV) : Le (storeE T O t p x) (Aw.storeE P O t p x) := by
  unfold storeE
  split
  · rename_i n h1
    intro Q hq
    rw [Ev.holds_bind] at hq
    obtain ⟨ys, h2, hq⟩ := cellsE_ok hq
    unfold Aw.storeE
    simp only [h.sz h1, h2]
    revert hq
    unfold storeB
    simp only [eqN_eq, len_eq, leN_eq, addN_eq, spl_eq, pick_eq]
    cases p with
    | ptr id off =>
      dsimp only
      cases O[id]? with
      | none => exact fun h => h
      | some o => cases o <;> exact fun h => h
    | pel id l i off =>
      dsimp only
      cases O[id]? with
      | none => exact fun h => h
      | some o => cases o <;> exact fun h => h
    | _ => exact fun h => h
  · exact Le.bad _
def buildSliceE (O : List AObj) (t : TypeId) (l : Nat) (xs : List (Nat × AV)) : Ev (AV × List AObj) :=
  match T.tk t with
  | some (.slice e) => match T.sz e, T.ze e with
    | some sz, some zs => match Aw.fillA (fun i => some (i * sz, sz)) (List.replicate (l * sz) .any) xs with
      | some out => .need ((leN (l * sz) 16777216 = true ∧ leN l LIM = true) ∧ eqN (len zs) sz = true ∧ out.all closed1 = true) (.ret (.full (chunk sz l out), O))
      | none => .bad
    | _, _ => .bad
  | _ => .bad
theorem buildSliceE_le {P : Program} {T : Tab} (h : TabOk P T) (O : List AObj) (t : TypeId) (l : Nat) (xs : List (Nat × AV)) : Le (buildSliceE T O t l xs) (Aw.buildSliceE P O t l xs) := by
  unfold buildSliceE
  split
  · rename_i e h1
    split
    · rename_i sz zs h2 h3
      unfold Aw.buildSliceE
      simp only [h.tk h1, h.sz h2, h.ze h3, leN_eq, eqN_eq, len_eq]
      split
      · rename_i out ho
        simp only [ho]
        exact Le.need (fun h => ⟨h.1.1, h.1.2, h.2.1, h.2.2⟩) (Le.refl _)
      · exact Le.bad _
    · exact Le.bad _
  · exact Le.bad _
def srcE (O : List AObj) (x : AV) : Ev (List (List AV)) :=
  match x with
  | .str s => .ret (encs s)
  | x => rowE O x
theorem srcE_eq (O : List AObj) (x : AV) : srcE O x = Aw.srcE O x := by
  unfold srcE Aw.srcE; simp only [encs_eq, rowE_eq]; try rfl
def okR (sz : Nat) (ys : List (List AV)) : Bool := pick (gP ys) fun _ => yOkR ys sz
theorem okR_eq (sz : Nat) (ys : List (List AV)) : (okR sz ys = true) = okRow sz ys := by
  simp [okR, okRow, plain]
def nonE {α : Type} : List α → Bool
  | [] => false
  | _ :: _ => true
theorem nonE_eq {α : Type} (xs : List α) : (nonE xs = true) = (xs ≠ []) := by cases xs <;> simp [nonE]
def app {α : Type} (xs ys : List α) : List α := pick (gP xs) fun _ => yCat xs ys
def appS (O : List AObj) (sz b : Nat) (s : AV) (ys : List (List AV)) : Ev (AV × List AObj) :=
  match s with
  | .own id l => match O[id]? with
    | some (.buf sz' xs) => .need (eqN l (len xs) = true ∧ eqN sz' sz = true ∧ leN (addN (len xs) (len ys)) LIM = true ∧ leN (mulN (addN (len xs) (len ys)) b) LIM = true)
        (.ret (.own id (addN (len xs) (len ys)), O.set id (.buf sz (app xs ys))))
    | _ => .bad
  | .lit (.slice none 0 0) => .need (nonE ys = true ∧ leN (len ys) LIM = true ∧ leN (mulN (len ys) b) LIM = true) (.ret (.own O.length (len ys), O ++ [.buf sz ys]))
  | .full xs => .need (nonE ys = true ∧ leN (addN (len xs) (len ys)) LIM = true ∧ leN (mulN (addN (len xs) (len ys)) b) LIM = true ∧ okR sz xs = true) (.ret (.own O.length (addN (len xs) (len ys)), O ++ [.buf sz (app xs ys)]))
  | _ => .bad
def appE (O : List AObj) (t t2 : TypeId) (s x : AV) : Ev (AV × List AObj) :=
  match T.tk t with
  | some (.slice e) => match T.sz e, T.by_ e, T.ze e, T.tk t2 with
    | some sz, some b, some zs, some k2 => (srcE O x).bind fun ys =>
      .need (eqN (len zs) sz = true ∧ okR sz ys = true ∧ isSrcK k2 = true ∧ eqN b 0 = false) (appS O sz b s ys)
    | _, _, _, _ => .bad
  | _ => .bad
theorem appE_le {P : Program} {T : Tab} (h : TabOk P T) (O : List AObj) (t t2 : TypeId) (s x : AV) : Le (appE T O t t2 s x) (Aw.appE P O t t2 s x) := by
  unfold appE
  split
  · rename_i e h1
    split
    · rename_i sz b zs k2 h2 h3 h4 h5
      refine Le.eq ?_
      unfold Aw.appE
      simp only [h.tk h1, h.sz h2, h.by_ h3, h.ze h4, h.tk h5, srcE_eq]
      congr 1
      funext ys
      unfold appS app
      simp only [eqN_eq, len_eq, okR_eq, eqN_ne, leN_eq, addN_eq, mulN_eq, pick_eq, plain, nonE_eq]
      try rfl
    · exact Le.bad _
  · exact Le.bad _
def makeSliceE (O : List AObj) (t : TypeId) (l cp : AV) : Ev (AV × List AObj) :=
  match T.tk t, l, cp with
  | some (.slice e), .lit (.int _ l), .lit (.int _ cp) => match T.sz e, T.by_ e, T.ze e with
    | some sz, some b, some zs => .need (pick (g2 (gI l) (gI cp)) (fun _ => yMk l cp b) = true ∧ eqN b 0 = false ∧ eqN (len zs) sz = true)
        (.ret (.own O.length (natI l), O ++ [.buf sz (pick (gI l) fun _ => List.replicate l.toNat zs)]))
    | _, _, _ => .bad
  | _, _, _ => .bad
theorem makeSliceE_le {P : Program} {T : Tab} (h : TabOk P T) (O : List AObj) (t : TypeId) (l cp : AV) : Le (makeSliceE T O t l cp) (Aw.makeSliceE P O t l cp) := by
  unfold makeSliceE
  split
  · rename_i e k1 l k2 cp h1
    split
    · rename_i sz b zs h2 h3 h4
      unfold Aw.makeSliceE
      simp only [h.tk h1, h.sz h2, h.by_ h3, h.ze h4, pick_eq, plain, decide_eq_true_eq, eqN_ne, eqN_eq, len_eq, natI_eq]
      exact Le.need (fun h => ⟨h.1.1, h.1.2.1, h.1.2.2.1, h.2.1, h.2.2, h.1.2.2.2⟩) (Le.refl _)
    · exact Le.bad _
  · exact Le.bad _
def strBytesE (O : List AObj) (src dst : TypeId) (x : AV) : Ev (AV × List AObj) :=
  match T.tk src, T.tk dst, x with
  | some .str, some (.slice e), .str s => match T.tk e with
    | some (.int .u8) => .ret (.own O.length (len s), O ++ [.buf 1 (encs s)])
    | _ => .bad
  | _, _, _ => .bad
theorem strBytesE_le {P : Program} {T : Tab} (h : TabOk P T) (O : List AObj) (s d : TypeId) (x : AV) : Le (strBytesE T O s d x) (Aw.strBytesE P O s d x) := by
  unfold strBytesE
  split
  · rename_i e s' h1 h2
    split
    · rename_i h3
      refine Le.eq ?_
      unfold Aw.strBytesE
      simp only [h.tk h1, h.tk h2, h.tk h3, len_eq, encs_eq]
    · exact Le.bad _
  · exact Le.bad _
def keyEq : AV → AV → Option Bool
  | .lit (.int k a), .lit (.int k' b) => if k = k' then some (pick (g2 (gI a) (gI b)) fun _ => yEqZ a b) else none
  | .str a, .str b => some (pick (g2 (gS a) (gS b)) fun _ => yEqS a b)
  | _, _ => none
theorem keyEq_eq (x y : AV) : keyEq x y = Aw.keyEq x y := by
  unfold keyEq Aw.keyEq; simp only [pick_eq, plain]; try rfl
def findA : List (AV × AV) → AV → Ev (Option AV)
  | [], _ => .ret none
  | (k', v) :: es, k => match keyEq k k' with
    | some b => .fork b (.ret (some v)) (findA es k)
    | none => .bad
theorem findA_eq : ∀ (es : List (AV × AV)) (k : AV), findA es k = Aw.findA es k
  | [], _ => rfl
  | (k', v) :: es, k => by rw [findA, Aw.findA, keyEq_eq, findA_eq es k]; rfl
def lookupE (O : List AObj) (t : TypeId) (m k : AV) (ok : Bool) : Ev AV :=
  match T.tk t with
  | some (.map kt vt) => match T.tk kt, T.zv vt with
    | some kk, some z => .need (keyK kk k = true) ((entsE O m).bind fun es => (findA es k).bind fun r => .ret (match r with
      | some y => if ok then .tup [y, .lit (.bool true)] else y
      | none => if ok then .tup [z, .lit (.bool false)] else z))
    | _, _ => .bad
  | _ => .bad
theorem lookupE_le {P : Program} {T : Tab} (h : TabOk P T) (O : List AObj) (t : TypeId) (m k : AV) (ok : Bool) : Le (lookupE T O t m k ok) (Aw.lookupE P O t m k ok) := by
  unfold lookupE
  split
  · rename_i kt vt h1
    split
    · rename_i kk z h2 h3
      refine Le.eq ?_
      unfold Aw.lookupE
      simp only [h.tk h1, h.tk h2, h.zv h3, findA_eq]; try rfl
    · exact Le.bad _
  · exact Le.bad _
def insA : List (AV × AV) → AV → AV → Ev (List (AV × AV))
  | [], k, x => .ret [(k, x)]
  | (k', v) :: es, k, x => match keyEq k k' with
    | some b => .fork b (.ret ((k, x) :: es)) ((insA es k x).bind fun r => .ret ((k', v) :: r))
    | none => .bad
theorem insA_eq : ∀ (es : List (AV × AV)) (k x : AV), insA es k x = Aw.insA es k x
  | [], _, _ => rfl
  | (k', v) :: es, k, x => by rw [insA, Aw.insA, keyEq_eq, insA_eq es k x]; rfl
def updE (O : List AObj) (t : TypeId) (m k x : AV) : Ev (AV × List AObj) :=
  match T.tk t, m with
  | some (.map kt _), .omap id => match O[id]?, T.tk kt with
    | some (.omap es), some kk => .need (keyK kk k = true) ((insA es k x).bind fun es' => .ret (.any, O.set id (.omap es')))
    | _, _ => .bad
  | _, _ => .bad
theorem updE_le {P : Program} {T : Tab} (h : TabOk P T) (O : List AObj) (t : TypeId) (m k x : AV) : Le (updE T O t m k x) (Aw.updE P O t m k x) := by
  unfold updE
  split
  · rename_i kt vt id h1
    split
    · rename_i es kk h2 h3
      refine Le.eq ?_
      unfold Aw.updE
      simp only [h.tk h1, h2, h.tk h3, insA_eq]
    · exact Le.bad _
  · exact Le.bad _
def rangeE (O : List AObj) (t : TypeId) (x : AV) : Ev (AV × List AObj) :=
  match T.tk t, x with
  | some (.map _ _), .mapv es => .ret (.it O.length, O ++ [.iter es []])
  | _, _ => .bad
theorem rangeE_le {P : Program} {T : Tab} (h : TabOk P T) (O : List AObj) (t : TypeId) (x : AV) : Le (rangeE T O t x) (Aw.rangeE P O t x) := by
  unfold rangeE
  split
  · rename_i h1
    refine Le.eq ?_
    unfold Aw.rangeE
    simp only [h.tk h1]
  · exact Le.bad _
def entryE (O : List AObj) (x : AV) : Ev AV :=
  match x with
  | .it id => match O[id]? with
    | some (.iter es seen) => match pick (gP seen) fun _ => seen.getLast? with
      | some i => match es[i]? with
        | some e => .ret (.tup [e.1, e.2])
        | none => .bad
      | none => .bad
    | _ => .bad
  | _ => .bad
theorem entryE_eq (O : List AObj) (x : AV) : entryE O x = Aw.entryE O x := by
  unfold entryE Aw.entryE; simp only [pick_eq]; try rfl
def nonNilE (O : List AObj) (op : BinOp) (t : TypeId) (o1 o2 : Operand) (x y : AV) : Ev AV :=
  match scal x && scal y with
  | true => binE T op t x y
  | false => nilE T O op t o1 o2 x y
theorem nonNilE_le {P : Program} {T : Tab} (h : TabOk P T) (O : List AObj) (op : BinOp) (t : TypeId) (o1 o2 : Operand) (x y : AV) : Le (nonNilE T O op t o1 o2 x y) (Aw.nonNilE P O op t o1 o2 x y) := by
  unfold nonNilE Aw.nonNilE
  cases hs : scal x && scal y
  · simpa using nilE_le h O op t o1 o2 x y
  · simpa using binE_le h op t x y
def convX (O : List AObj) (s d : TypeId) (x : AV) : Ev (AV × List AObj) :=
  match T.tk s, T.tk d with
  | some .str, some (.slice _) => strBytesE T O s d x
  | some _, some _ => (convE T O s d x).bind fun x => .ret (x, O)
  | _, _ => .bad
theorem convX_le {P : Program} {T : Tab} (h : TabOk P T) (O : List AObj) (s d : TypeId) (x : AV) : Le (convX T O s d x) (Aw.convX P O s d x) := by
  unfold convX
  split
  · rename_i e h1 h2
    unfold Aw.convX
    simp only [h.tk h1, h.tk h2]
    exact strBytesE_le h O s d x
  · rename_i a b h3 h1 h2
    unfold Aw.convX
    simp only [h.tk h1, h.tk h2]
    split
    · rename_i e1 e2; cases e1; cases e2; exact (h3 _ rfl rfl).elim
    · exact Le.bind (convE_le h O s d x) fun _ => Le.refl _
  · exact Le.bad _
def ifaceE (t : TypeId) (x : AV) : Ev AV :=
  match T.tk t with
  | some .iface => .bad
  | some _ => .ret (.iface t x)
  | none => .bad
theorem ifaceE_le {P : Program} {T : Tab} (h : TabOk P T) (t : TypeId) (x : AV) : Le (ifaceE T t x) (Aw.ifaceE P t x) := by
  unfold ifaceE
  split
  · exact Le.bad _
  · rename_i k h2 h1
    refine Le.eq ?_
    unfold Aw.ifaceE
    rw [h.tk h1]
    split
    · rename_i e; cases e; exact (h2 rfl).elim
    · rfl
    · rename_i e; cases e
  · exact Le.bad _
def minE (mx : Bool) (x y : AV) : Ev AV :=
  match x, y with
  | .lit (.int k a), .lit (.int k' b) => if k = k' then .ret (.lit (.int k (pick (g2 (gI a) (gI b)) fun _ => yMin mx a b))) else .bad
  | _, _ => .bad
theorem minE_eq (mx : Bool) (x y : AV) : minE mx x y = Aw.minE mx x y := by
  unfold minE Aw.minE; simp only [pick_eq, plain]; try rfl
def builtE (O : List AObj) (b : Builtin) (ts : List TypeId) (xs : List AV) : Ev (AV × List AObj) :=
  match b, ts, xs with
  | .len, t :: _, x :: _ => (lenE T O t x).bind fun x => .ret (x, O)
  | .append, [t, t2], [s, x] => appE T O t t2 s x
  | .min, _, [x, y] => (minE false x y).bind fun x => .ret (x, O)
  | .max, _, [x, y] => (minE true x y).bind fun x => .ret (x, O)
  | _, _, _ => .bad
theorem builtE_le {P : Program} {T : Tab} (h : TabOk P T) (O : List AObj) (b : Builtin) (ts : List TypeId) (xs : List AV) : Le (builtE T O b ts xs) (Aw.builtE P O b ts xs) := by
  unfold builtE
  split
  · exact Le.bind (lenE_le h O _ _) fun _ => Le.refl _
  · exact appE_le h O _ _ _ _
  · unfold Aw.builtE; exact Le.bind (Le.eq (minE_eq _ _ _)) fun _ => Le.refl _
  · unfold Aw.builtE; exact Le.bind (Le.eq (minE_eq _ _ _)) fun _ => Le.refl _
  · exact Le.bad _
def opE (env : List (Nat × AV)) (O : List AObj) (o : Op) : Ev (AV × List AObj) :=
  match o with
  | .move x | .assign x => .ret (evalA env x, O)
  | .pick b x y => (pickE (evalA env b) (evalA env x) (evalA env y)).bind fun x => .ret (x, O)
  | .alloc t => allocE T O t
  | .box _ x => boxE O (evalA env x)
  | .build t ps => (buildE T t (ps.toList.map fun p => (p.1, evalA env p.2))).bind fun x => .ret (x, O)
  | .buildSlice t n ps => buildSliceE T O t n (ps.toList.map fun p => (p.1, evalA env p.2))
  | .load t a => (loadE T O t (evalA env a)).bind fun x => .ret (x, O)
  | .store t a x => storeE T O t (evalA env a) (evalA env x)
  | .nilCheck x => (nilCheckE O (evalA env x)).bind fun x => .ret (x, O)
  | .binOp op t x y _ => (nonNilE T O op t x y (evalA env x) (evalA env y)).bind fun x => .ret (x, O)
  | .unOp op _ x => (unE op (evalA env x)).bind fun x => .ret (x, O)
  | .convert s d x => convX T O s d (evalA env x)
  | .makeInterface t x => (ifaceE T t (evalA env x)).bind fun x => .ret (x, O)
  | .makeFunc fn fi ca => (cloE fn (fi.toList.map (evalA env)) (ca.toList.map (evalA env))).bind fun x => .ret (x, O)
  | .makeMap _ r => makeMapE O (r.map (evalA env))
  | .makeSlice t l c => makeSliceE T O t (evalA env l) (evalA env c)
  | .slice t x lo hi mx => (sliceE T O t (evalA env x) (lo.map (evalA env)) (hi.map (evalA env)) (mx.map (evalA env))).bind fun x => .ret (x, O)
  | .fieldAddr s x i => (fieldAddrE T O s (evalA env x) i).bind fun x => .ret (x, O)
  | .field s x i => (fieldE T s (evalA env x) i).bind fun x => .ret (x, O)
  | .indexAddr t x i => (indexAddrE T O t (evalA env x) (evalA env i)).bind fun x => .ret (x, O)
  | .index t x i => (indexE T t (evalA env x) (evalA env i)).bind fun x => .ret (x, O)
  | .lookup t m k ok => (lookupE T O t (evalA env m) (evalA env k) ok).bind fun x => .ret (x, O)
  | .mapUpdate t m k x | .insert t m k x => updE T O t (evalA env m) (evalA env k) (evalA env x)
  | .extract x i => (extractE (evalA env x) i).bind fun x => .ret (x, O)
  | .range t x => rangeE T O t (evalA env x)
  | .entry x => (entryE O (evalA env x)).bind fun x => .ret (x, O)
  | .call { callee := .builtin b, args, argTypes } => builtE T O b argTypes.toList (args.toList.map (evalA env))
  | _ => .bad
theorem opE_le {P : Program} {T : Tab} (h : TabOk P T) (env : List (Nat × AV)) (O : List AObj) (o : Op) : Le (opE T env O o) (Aw.opE P env O o) := by
  have R : ∀ (a : AV), Le (Ev.ret (a, O)) (Ev.ret (a, O)) := fun a => Le.refl _
  unfold opE
  split
  · exact Le.refl _
  · exact Le.refl _
  · exact Le.bind (pickE_le _ _ _) R
  · exact allocE_le h O _
  · exact boxE_le O _
  · exact Le.bind (buildE_le h _ _) R
  · exact buildSliceE_le h O _ _ _
  · exact Le.bind (loadE_le h O _ _) R
  · exact storeE_le h O _ _ _
  · exact Le.refl _
  · exact Le.bind (nonNilE_le h O _ _ _ _ _ _) R
  · unfold Aw.opE; exact Le.bind (Le.eq (unE_eq _ _)) R
  · exact convX_le h O _ _ _
  · exact Le.bind (ifaceE_le h _ _) R
  · exact Le.refl _
  · exact Le.refl _
  · exact makeSliceE_le h O _ _ _
  · exact Le.bind (sliceE_le h O _ _ _ _ _) R
  · exact Le.bind (fieldAddrE_le h O _ _ _) R
  · exact Le.bind (fieldE_le h _ _ _) R
  · exact Le.bind (indexAddrE_le h O _ _ _) R
  · exact Le.bind (indexE_le h _ _ _) R
  · exact Le.bind (lookupE_le h O _ _ _ _) R
  · exact updE_le h O _ _ _ _
  · exact updE_le h O _ _ _ _
  · unfold Aw.opE; exact Le.bind (Le.eq (extractE_eq _ _)) R
  · exact rangeE_le h O _ _
  · unfold Aw.opE; exact Le.bind (Le.eq (entryE_eq _ _)) R
  · exact builtE_le h O _ _ _
  · exact Le.bad _
end S
end Go.Aw
