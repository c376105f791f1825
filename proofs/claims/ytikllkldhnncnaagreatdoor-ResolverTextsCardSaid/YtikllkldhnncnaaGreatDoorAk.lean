/- Evaluators that leave the arithmetic of unknown values alone: they answer as the plain ones do, and a partial table stands for the program's types. -/
import Derived.Test.YtikllkldhnncnaaGreatDoorAg
import Derived.Test.YtikllkldhnncnaaGreatDoorAh
import Derived.Test.YtikllkldhnncnaaGreatDoorAj
set_option linter.all false
namespace Go.Aw

/-- A value that is reckoned only where the gate is known. -/
def pick {α : Type} (g : Bool) (f : Unit → α) : α := match g with | true => f () | false => f ()
@[simp] theorem pick_eq {α : Type} (g : Bool) (f : Unit → α) : pick g f = f () := by cases g <;> rfl
/-- What a closed gate leaves is folded back. -/
theorem fold {α : Type} (g : Bool) (f : Unit → α) : pick.match_1 (fun _ => α) g f f = f () := by cases g <;> rfl
@[reducible] def bqN : BEq Nat := ⟨Nat.beq⟩
instance (i : Int) (n : Nat) : Decidable (inB i n) := inferInstanceAs (Decidable (_ ∧ _))
def yEqN (a b : Nat) : Bool := decide (a = b)
def yLeN (a b : Nat) : Bool := decide (a ≤ b)
def yLtN (a b : Nat) : Bool := decide (a < b)
def yAddN (a b : Nat) : Nat := a + b
def yMulN (a b : Nat) : Nat := a * b
def ySubN (a b : Nat) : Nat := a - b
def yInB (i : Int) (n : Nat) : Bool := decide (inB i n)
def yNatZ (n : Nat) : Int := Int.ofNat n
def yByteZ (b : UInt8) : Int := Int.ofNat b.toNat
def yIx (s : List UInt8) (i : Int) : Int := Int.ofNat (s.getD i.toNat 0).toNat
def yEqZ (a b : Int) : Bool := a == b
def yNeZ (a b : Int) : Bool := !(a == b)
def yLtZ (a b : Int) : Bool := decide (a < b)
def yLeZ (a b : Int) : Bool := decide (a ≤ b)
def yGtZ (a b : Int) : Bool := decide (b < a)
def yGeZ (a b : Int) : Bool := decide (b ≤ a)
def yAnd (k : IntKind) (a b : Int) : Int := k.wrap (Int.ofNat (BitVec.ofInt k.bits a &&& BitVec.ofInt k.bits b).toNat)
def yOr (k : IntKind) (a b : Int) : Int := k.wrap (Int.ofNat (BitVec.ofInt k.bits a ||| BitVec.ofInt k.bits b).toNat)
def yXor (k : IntKind) (a b : Int) : Int := k.wrap (Int.ofNat (BitVec.ofInt k.bits a ^^^ BitVec.ofInt k.bits b).toNat)
def yAndNot (k : IntKind) (a b : Int) : Int := k.wrap (Int.ofNat (BitVec.ofInt k.bits a &&& ~~~(BitVec.ofInt k.bits b)).toNat)
def yNe0 (b : Int) : Bool := !decide (b = 0)
def yGe0 (b : Int) : Bool := decide (0 ≤ b)
def yAdd (k : IntKind) (a b : Int) : Int := k.wrap (a + b)
def ySub (k : IntKind) (a b : Int) : Int := k.wrap (a - b)
def yMul (k : IntKind) (a b : Int) : Int := k.wrap (a * b)
def yQuo (k : IntKind) (a b : Int) : Int := k.wrap (a.tdiv b)
def yShl (k : IntKind) (a b : Int) : Int := k.wrap (a * 2 ^ (min b.toNat k.bits))
def yShr (k : IntKind) (a b : Int) : Int := a.fdiv (2 ^ (min b.toNat k.bits))
def yCat {α : Type} (a b : List α) : List α := a ++ b
def yEqS (a b : List UInt8) : Bool := a == b
def yNeS (a b : List UInt8) : Bool := !(a == b)
def yLeS (a b : List UInt8) : Bool := Op.bytesLess a b || a == b
def yGtS (a b : List UInt8) : Bool := !(Op.bytesLess a b || a == b)
def yGeS (a b : List UInt8) : Bool := !Op.bytesLess a b
def yEqB (a b : Bool) : Bool := a == b
def yNeB (a b : Bool) : Bool := !(a == b)
def yNot (b : Bool) : Bool := !b
def yNeg (k : IntKind) (n : Int) : Int := k.wrap (0 - n)
def yNx (k : IntKind) (n : Int) : Int := k.wrap (Int.ofNat (BitVec.ofInt k.bits (if k.signed then -1 else k.max) ^^^ BitVec.ofInt k.bits n).toNat)
def yBd (i : Int) (hi : Nat) : Bool := decide (0 ≤ i ∧ i.toNat ≤ hi)
def yRowOk (xs : List (List AV)) (sz : Nat) : Bool := xs.all fun x => x.length == sz
def yOkR (ys : List (List AV)) (sz : Nat) : Bool := ys.all fun y => y.length == sz && y.all AV.one
def yMk (l cp : Int) (b : Nat) : Bool := decide (0 ≤ l ∧ l ≤ cp ∧ cp * Int.ofNat b ≤ Int.ofNat LIM ∧ cp ≤ Int.ofNat LIM)
def yMin (mx : Bool) (a b : Int) : Int := if mx then max a b else min a b
def ySubR (xs : List AV) (off n : Nat) : List (List AV) := (List.range n).map fun i => [xs.getD (off + i) .any]
/-- What the plain operations are. -/
theorem plain :
    (∀ (a b : Nat), yEqN a b = (decide (a = b))) ∧
    (∀ (a b : Nat), yLeN a b = (decide (a ≤ b))) ∧
    (∀ (a b : Nat), yLtN a b = (decide (a < b))) ∧
    (∀ (a b : Nat), yAddN a b = (a + b)) ∧
    (∀ (a b : Nat), yMulN a b = (a * b)) ∧
    (∀ (a b : Nat), ySubN a b = (a - b)) ∧
    (∀ (i : Int) (n : Nat), yInB i n = (decide (inB i n))) ∧
    (∀ (n : Nat), yNatZ n = (Int.ofNat n)) ∧
    (∀ (b : UInt8), yByteZ b = (Int.ofNat b.toNat)) ∧
    (∀ (s : List UInt8) (i : Int), yIx s i = (Int.ofNat (s.getD i.toNat 0).toNat)) ∧
    (∀ (a b : Int), yEqZ a b = (a == b)) ∧
    (∀ (a b : Int), yNeZ a b = (!(a == b))) ∧
    (∀ (a b : Int), yLtZ a b = (decide (a < b))) ∧
    (∀ (a b : Int), yLeZ a b = (decide (a ≤ b))) ∧
    (∀ (a b : Int), yGtZ a b = (decide (b < a))) ∧
    (∀ (a b : Int), yGeZ a b = (decide (b ≤ a))) ∧
    (∀ (k : IntKind) (a b : Int), yAnd k a b = (k.wrap (Int.ofNat (BitVec.ofInt k.bits a &&& BitVec.ofInt k.bits b).toNat))) ∧
    (∀ (k : IntKind) (a b : Int), yOr k a b = (k.wrap (Int.ofNat (BitVec.ofInt k.bits a ||| BitVec.ofInt k.bits b).toNat))) ∧
    (∀ (k : IntKind) (a b : Int), yXor k a b = (k.wrap (Int.ofNat (BitVec.ofInt k.bits a ^^^ BitVec.ofInt k.bits b).toNat))) ∧
    (∀ (k : IntKind) (a b : Int), yAndNot k a b = (k.wrap (Int.ofNat (BitVec.ofInt k.bits a &&& ~~~(BitVec.ofInt k.bits b)).toNat))) ∧
    (∀ (b : Int), yNe0 b = (!decide (b = 0))) ∧
    (∀ (b : Int), yGe0 b = (decide (0 ≤ b))) ∧
    (∀ (k : IntKind) (a b : Int), yAdd k a b = (k.wrap (a + b))) ∧
    (∀ (k : IntKind) (a b : Int), ySub k a b = (k.wrap (a - b))) ∧
    (∀ (k : IntKind) (a b : Int), yMul k a b = (k.wrap (a * b))) ∧
    (∀ (k : IntKind) (a b : Int), yQuo k a b = (k.wrap (a.tdiv b))) ∧
    (∀ (k : IntKind) (a b : Int), yShl k a b = (k.wrap (a * 2 ^ (min b.toNat k.bits)))) ∧
    (∀ (k : IntKind) (a b : Int), yShr k a b = (a.fdiv (2 ^ (min b.toNat k.bits)))) ∧
    (∀ (a b : List UInt8), yCat a b = (a ++ b)) ∧
    (∀ (a b : List UInt8), yEqS a b = (a == b)) ∧
    (∀ (a b : List UInt8), yNeS a b = (!(a == b))) ∧
    (∀ (a b : List UInt8), yLeS a b = (Op.bytesLess a b || a == b)) ∧
    (∀ (a b : List UInt8), yGtS a b = (!(Op.bytesLess a b || a == b))) ∧
    (∀ (a b : List UInt8), yGeS a b = (!Op.bytesLess a b)) ∧
    (∀ (a b : Bool), yEqB a b = (a == b)) ∧
    (∀ (a b : Bool), yNeB a b = (!(a == b))) ∧
    (∀ (b : Bool), yNot b = (!b)) ∧
    (∀ (k : IntKind) (n : Int), yNeg k n = (k.wrap (0 - n))) ∧
    (∀ (k : IntKind) (n : Int), yNx k n = (k.wrap (Int.ofNat (BitVec.ofInt k.bits (if k.signed then -1 else k.max) ^^^ BitVec.ofInt k.bits n).toNat))) ∧
    (∀ (i : Int) (hi : Nat), yBd i hi = (decide (0 ≤ i ∧ i.toNat ≤ hi))) ∧
    (∀ (xs : List (List AV)) (sz : Nat), yRowOk xs sz = (xs.all fun x => x.length == sz)) ∧
    (∀ (ys : List (List AV)) (sz : Nat), yOkR ys sz = (ys.all fun y => y.length == sz && y.all AV.one)) ∧
    (∀ (l cp : Int) (b : Nat), yMk l cp b = (decide (0 ≤ l ∧ l ≤ cp ∧ cp * Int.ofNat b ≤ Int.ofNat LIM ∧ cp ≤ Int.ofNat LIM))) ∧
    (∀ (mx : Bool) (a b : Int), yMin mx a b = (if mx then max a b else min a b)) ∧
    (∀ (xs : List AV) (off n : Nat), ySubR xs off n = ((List.range n).map fun i => [xs.getD (off + i) .any])) ∧
    (∀ (a b : List (List AV)), yCat a b = a ++ b) := by
  (repeat' apply And.intro) <;> intros <;> rfl
def gN (n : Nat) : Bool := @BEq.beq Nat bqN n n
def gI (x : Int) : Bool := match x with | .ofNat n => gN n | .negSucc n => gN n
@[reducible] def bqU : BEq UInt8 := ⟨fun a b => Nat.beq a.toNat b.toNat⟩
def gU (c : UInt8) : Bool := @BEq.beq UInt8 bqU c c
def g2 (a b : Bool) : Bool := match a with | true => b | false => b
def gP {α : Type} : List α → Bool
  | [] => true
  | _ :: t => gP t
def gS : List UInt8 → Bool
  | [] => true
  | c :: t => g2 (gU c) (gS t)

def gHd {α : Type} : List α → Bool
  | [] => true
  | _ :: _ => true
def gE (a b : List UInt8) : Bool := match b with
  | [] => gHd a
  | _ :: _ => g2 (gS a) (gS b)

def len {α : Type} (xs : List α) : Nat := pick (gP xs) fun _ => xs.length
def nthC {α : Type} : List α → Nat → α → α
  | [], _, d => d
  | x :: _, 0, _ => x
  | _ :: xs, n + 1, d => nthC xs n d
theorem nthC_eq {α : Type} : ∀ (xs : List α) (n : Nat) (d : α), nthC xs n d = xs.getD n d
  | [], _, _ => rfl
  | _ :: _, 0, _ => rfl
  | _ :: xs, n + 1, d => by rw [nthC, nthC_eq xs n d]; simp
def nth {α : Type} (xs : List α) (n : Nat) (d : α) : α := pick (g2 (gN n) (gP xs)) fun _ => nthC xs n d
def eqN (a b : Nat) : Bool := pick (g2 (gN a) (gN b)) fun _ => yEqN a b
def leN (a b : Nat) : Bool := pick (g2 (gN a) (gN b)) fun _ => yLeN a b
def ltN (a b : Nat) : Bool := pick (g2 (gN a) (gN b)) fun _ => yLtN a b
def addN (a b : Nat) : Nat := pick (g2 (gN a) (gN b)) fun _ => yAddN a b
def mulN (a b : Nat) : Nat := pick (g2 (gN a) (gN b)) fun _ => yMulN a b
def subN (a b : Nat) : Nat := pick (g2 (gN a) (gN b)) fun _ => ySubN a b
def natI (i : Int) : Nat := pick (gI i) fun _ => i.toNat
def drp {α : Type} (xs : List α) (n : Nat) : List α := pick (g2 (gN n) (gP xs)) fun _ => xs.drop n
def tak {α : Type} (xs : List α) (n : Nat) : List α := pick (g2 (gN n) (gP xs)) fun _ => xs.take n
def spl {α : Type} (xs : List α) (o : Nat) (ys : List α) : List α := pick (g2 (gN o) (g2 (gP ys) (gP xs))) fun _ => splice xs o ys
def inBb (i : Int) (n : Nat) : Bool := pick (g2 (gI i) (gN n)) fun _ => yInB i n
def natZ (n : Nat) : Int := pick (gN n) fun _ => yNatZ n
def encS (b : UInt8) : List AV := [.lit (.int .u8 (pick (gU b) fun _ => yByteZ b))]
def encs (s : List UInt8) : List (List AV) := pick (gP s) fun _ => s.map encS

theorem g2_eq (a b : Bool) : g2 a b = b := by cases a <;> rfl
@[simp] theorem len_eq {α : Type} (xs : List α) : len xs = xs.length := by simp [len, plain]
@[simp] theorem nth_eq {α : Type} (xs : List α) (n : Nat) (d : α) : nth xs n d = xs.getD n d := by rw [nth, pick_eq, nthC_eq]
@[simp] theorem eqN_eq (a b : Nat) : (eqN a b = true) = (a = b) := by simp [eqN, plain]
@[simp] theorem leN_eq (a b : Nat) : (leN a b = true) = (a ≤ b) := by simp [leN, plain]
@[simp] theorem ltN_eq (a b : Nat) : (ltN a b = true) = (a < b) := by simp [ltN, plain]
@[simp] theorem addN_eq (a b : Nat) : addN a b = a + b := by simp [addN, plain]
@[simp] theorem mulN_eq (a b : Nat) : mulN a b = a * b := by simp [mulN, plain]
@[simp] theorem subN_eq (a b : Nat) : subN a b = a - b := by simp [subN, plain]
@[simp] theorem natI_eq (i : Int) : natI i = i.toNat := by simp [natI, plain]
@[simp] theorem drp_eq {α : Type} (xs : List α) (n : Nat) : drp xs n = xs.drop n := by simp [drp, plain]
@[simp] theorem tak_eq {α : Type} (xs : List α) (n : Nat) : tak xs n = xs.take n := by simp [tak, plain]
@[simp] theorem spl_eq {α : Type} (xs : List α) (o : Nat) (ys : List α) : spl xs o ys = splice xs o ys := by simp [spl, plain]
@[simp] theorem inBb_eq (i : Int) (n : Nat) : (inBb i n = true) = inB i n := by simp [inBb, plain]
@[simp] theorem natZ_eq (n : Nat) : natZ n = (n : Int) := by simp [natZ, plain]
@[simp] theorem encS_eq (b : UInt8) : encS b = encB b := by simp [encS, encB, plain]
@[simp] theorem encs_eq (s : List UInt8) : encs s = s.map encB := by simp only [encs, pick_eq, plain]; exact List.map_congr_left fun b _ => encS_eq b

/-- `e` promises no more than `E` does. -/
def Le {α : Type} (e E : Ev α) : Prop := ∀ Q, e.holds Q → E.holds Q
theorem Le.refl {α : Type} (e : Ev α) : Le e e := fun _ h => h
theorem Le.bad {α : Type} (e : Ev α) : Le .bad e := fun _ h => h.elim
theorem Le.eq {α : Type} {e E : Ev α} (h : e = E) : Le e E := h ▸ Le.refl e
theorem Le.need {α : Type} {p p' : Prop} {e E : Ev α} (hp : p → p') (h : Le e E) : Le (.need p e) (.need p' E) := fun Q h2 => ⟨hp h2.1, h Q h2.2⟩
theorem Le.bind {α β : Type} {e E : Ev α} {f F : α → Ev β} (h : Le e E) (h2 : ∀ a, Le (f a) (F a)) : Le (e.bind f) (E.bind F) := fun Q h3 => by
  rw [Ev.holds_bind] at h3 ⊢
  exact (h _ h3).mono fun a ha => h2 a Q ha

/-- What a cell of a known type holds. -/
def gA : AV → Bool
  | .lit _ => true
  | _ => true
def isI (k : IntKind) : AV → Bool
  | .lit (.int k' _) => decide (k = k')
  | _ => false
def intOf : AV → Int
  | .lit (.int _ n) => n
  | _ => 0
def isB : AV → Bool
  | .lit (.bool _) => true
  | _ => false
def boolOf : AV → Bool
  | .lit (.bool b) => b
  | _ => false
def isS : AV → Bool
  | .str _ => true
  | _ => false
def strOf : AV → List UInt8
  | .str s => s
  | _ => []
theorem isI_eq {k : IntKind} {v : AV} (h : isI k v = true) : v = .lit (.int k (intOf v)) := by
  unfold isI at h
  split at h
  · simp at h; subst h; rfl
  · cases h
theorem isB_eq {v : AV} (h : isB v = true) : v = .lit (.bool (boolOf v)) := by
  unfold isB at h
  split at h
  · rfl
  · cases h
theorem isS_eq {v : AV} (h : isS v = true) : v = .str (strOf v) := by
  unfold isS at h
  split at h
  · rfl
  · cases h
def castK (k : TK) (v : AV) : Ev AV :=
  match k with
  | .int k => .need ((pick (gA v) fun _ => isI k v) = true) (.ret (.lit (.int k (pick (gA v) fun _ => intOf v))))
  | .bool => .need ((pick (gA v) fun _ => isB v) = true) (.ret (.lit (.bool (pick (gA v) fun _ => boolOf v))))
  | .str => .need ((pick (gA v) fun _ => isS v) = true) (.ret (.str (pick (gA v) fun _ => strOf v)))
  | _ => .ret v
theorem castK_le (k : TK) (v : AV) : Le (castK k v) (.ret v) := by
  cases k with
  | int k => intro Q h; simp only [castK, pick_eq, plain, Ev.holds] at h ⊢; rw [isI_eq h.1]; exact h.2
  | bool => intro Q h; simp only [castK, pick_eq, plain, Ev.holds] at h ⊢; rw [isB_eq h.1]; exact h.2
  | str => intro Q h; simp only [castK, pick_eq, plain, Ev.holds] at h ⊢; rw [isS_eq h.1]; exact h.2
  | _ => exact Le.refl _
theorem isI_encB (s : List UInt8) (i : Nat) (h : i < s.length) : isI .u8 (((s.map encB).getD i []).getD 0 .any) = true := by
  simp [List.getD_eq_getElem?_getD, h, encB, isI]
theorem intOf_encB (s : List UInt8) (i : Nat) (h : i < s.length) : intOf (((s.map encB).getD i []).getD 0 .any) = ((s.getD i 0).toNat : Int) := by
  simp [List.getD_eq_getElem?_getD, h, encB, intOf]

def byteS : List AV → UInt8
  | [.lit (.int .u8 n)] => pick (gI n) fun _ => UInt8.ofNat n.toNat
  | _ => 0
theorem byteS_fun : byteS = byteA := by
  funext x
  unfold byteS byteA
  simp only [pick_eq]
  rfl
def closedS : AV → Bool
  | .agg xs => pick (gP xs) fun _ => xs.all closed1
  | x => closed1 x
theorem closedS_fun : closedS = closedA := by
  funext x
  unfold closedS closedA
  simp only [pick_eq]
  rfl
def normS : AV → AV
  | .agg xs => .agg (pick (gP xs) fun _ => xs.map norm1)
  | x => norm1 x
theorem normS_fun : normS = normA := by
  funext x
  unfold normS normA
  simp only [pick_eq]
  rfl
theorem encS_fun : encS = encB := funext encS_eq
/-- Rows of bytes. -/
theorem rows : (encS = encB) ∧ (byteS = byteA) ∧ (∀ s : List UInt8, (s.map encB).length = s.length) ∧ (∀ s : List UInt8, (s.map encB).all isByteA = true) ∧ (∀ s : List UInt8, (s.map encB).map byteA = s) ∧
    (∀ {α : Type} (xs : List α) (n : Nat) (d : α), nthC xs n d = xs.getD n d) ∧ (∀ (s : List UInt8) (a b : Nat), cut (s.map encB) a b = (cut s a b).map encB) ∧
    (∀ s : List UInt8, ((s.map encB).all fun x => x.length == 1) = true) := by
  refine ⟨encS_fun, byteS_fun, fun s => List.length_map .., fun s => ?_, fun s => ?_, fun xs n d => nthC_eq xs n d, fun s a b => ?_, fun s => ?_⟩
  · simp [isByteA, encB]
  · rw [List.map_map]
    conv => rhs; rw [← List.map_id s]
    refine List.map_congr_left fun b _ => ?_
    simp [byteA, encB]
  · simp only [cut, List.map_take, List.map_drop]
  · simp [encB]

namespace S
variable (T : Tab)
def loadC (k : TK) (n : Nat) (xs : List AV) (m off : Nat) : Ev AV :=
  match agT k with
  | true => .need (leN (addN off n) m = true) (.ret (.agg (tak (drp xs off) n)))
  | false => .need (ltN off m = true) (castK k (nth xs off .any))
theorem loadC_le (k : TK) (n : Nat) (xs : List AV) (m off : Nat) : Le (loadC k n xs m off) (Aw.loadC k n xs m off) := by
  unfold loadC Aw.loadC
  cases h : agT k
  · simp only [ltN_eq, nth_eq, Bool.false_eq_true, if_false]
    exact Le.need id (castK_le _ _)
  · refine Le.eq ?_; simp
def loadB (O : List AObj) (n : Nat) (k : TK) (p : AV) : Ev AV :=
  match p with
  | .ptr id off => match O[id]? with
    | some (.box xs) => loadC k n xs (len xs) off
    | _ => .bad
  | .ref xs off => loadC k n xs (len xs) off
  | .pel id l i off => match O[id]? with
    | some (.buf sz xs) => .need (eqN l (len xs) = true) (loadC k n (nth xs i []) sz off)
    | _ => .bad
  | _ => .bad
def loadE (O : List AObj) (t : TypeId) (p : AV) : Ev AV :=
  match T.sz t, T.tk t with
  | some n, some k => loadB O n k p
  | _, _ => .bad
theorem loadE_le {P : Program} {T : Tab} (h : TabOk P T) (O : List AObj) (t : TypeId) (p : AV) : Le (loadE T O t p) (Aw.loadE P O t p) := by
  unfold loadE
  split
  · rename_i n k h1 h2
    unfold Aw.loadE
    rw [h.sz h1, h.tk h2]
    cases p with
    | ptr id off =>
      simp only [loadB]
      cases O[id]? with
      | none => exact Le.bad _
      | some o =>
        cases o with
        | box xs => simp only [len_eq]; exact loadC_le _ _ _ _ _
        | _ => exact Le.bad _
    | ref xs off => simp only [loadB, len_eq]; exact loadC_le _ _ _ _ _
    | pel id l i off =>
      simp only [loadB]
      cases O[id]? with
      | none => exact Le.bad _
      | some o =>
        cases o with
        | buf sz xs => simp only [len_eq, nth_eq, eqN_eq]; exact Le.need (fun h => h) (loadC_le _ _ _ _ _)
        | _ => exact Le.bad _
    | _ => exact Le.bad _
  · exact Le.bad _
def offE (O : List AObj) (p : AV) (n : Nat) : Ev AV :=
  match p with
  | .ptr id off => match O[id]? with
    | some (.box _) => .ret (.ptr id (addN off n))
    | _ => .bad
  | .ref xs off => .ret (.ref xs (addN off n))
  | .pel id l i off => match O[id]? with
    | some (.buf _ xs) => .need (eqN l (len xs) = true) (.ret (.pel id l i (addN off n)))
    | _ => .bad
  | _ => .bad
theorem offE_eq (O : List AObj) (p : AV) (n : Nat) : offE O p n = Aw.offE O p n := by
  unfold offE Aw.offE
  simp only [len_eq, eqN_eq, addN_eq]
  try rfl
def fieldAddrE (O : List AObj) (s : TypeId) (p : AV) (i : Nat) : Ev AV :=
  match T.tk s with
  | some (.struct fs) => match fs[i]? with
    | some (fo, fsz, _) => .need (eqN fsz 0 = false) (offE O p fo)
    | none => .bad
  | _ => .bad
theorem eqN_ne (a b : Nat) : (eqN a b = false) = (a ≠ b) := by simp [eqN, plain]
theorem fieldAddrE_le {P : Program} {T : Tab} (h : TabOk P T) (O : List AObj) (s : TypeId) (p : AV) (i : Nat) : Le (fieldAddrE T O s p i) (Aw.fieldAddrE P O s p i) := by
  unfold fieldAddrE
  split
  · rename_i fs h1
    refine Le.eq ?_
    unfold Aw.fieldAddrE
    rw [h.tk h1]
    simp only [offE_eq, eqN_ne]
    try rfl
  · exact Le.bad _
def indexAddrS (O : List AObj) (i : Int) (sz : Nat) (x : AV) : Ev AV :=
  match x with
  | .seq xs => .need (inBb i (len xs) = true) (.need (eqN (len (nth xs (natI i) [])) sz = true) (.ret (.ref (nth xs (natI i) []) 0)))
  | .full xs => .need (inBb i (len xs) = true) (.need (eqN (len (nth xs (natI i) [])) sz = true) (.ret (.ref (nth xs (natI i) []) 0)))
  | .own id l => match O[id]? with
    | some (.buf sz' xs) => .need (eqN l (len xs) = true ∧ eqN sz' sz = true) (.need (inBb i l = true) (.ret (.pel id l (natI i) 0)))
    | _ => .bad
  | _ => .bad
def indexAddrE (O : List AObj) (t : TypeId) (x ix : AV) : Ev AV :=
  match ix with
  | .lit (.int _ i) => match T.tk t with
    | some (.slice e) => match T.sz e with
      | some sz => indexAddrS O i sz x
      | none => .bad
    | some (.arr n e) => match T.sz e with
      | some sz => .need (inBb i n = true) (offE O x (mulN (natI i) sz))
      | none => .bad
    | _ => .bad
  | _ => .bad
theorem indexAddrE_le {P : Program} {T : Tab} (h : TabOk P T) (O : List AObj) (t : TypeId) (x ix : AV) : Le (indexAddrE T O t x ix) (Aw.indexAddrE P O t x ix) := by
  unfold indexAddrE
  split
  · rename_i kk i
    split
    · rename_i e h1
      split
      · rename_i sz h2
        refine Le.eq ?_
        unfold Aw.indexAddrE
        simp only [h.tk h1, h.sz h2, indexAddrS, len_eq, eqN_eq, nth_eq, natI_eq, inBb_eq]
        try rfl
      · exact Le.bad _
    · rename_i n e h1
      split
      · rename_i sz h2
        refine Le.eq ?_
        unfold Aw.indexAddrE
        simp only [h.tk h1, h.sz h2, offE_eq, inBb_eq, mulN_eq, natI_eq]
        try rfl
      · exact Le.bad _
    · exact Le.bad _
  · exact Le.bad _
def indexE (t : TypeId) (x ix : AV) : Ev AV :=
  match ix with
  | .lit (.int _ i) => match T.tk t, x with
    | some .str, .str s => .need (inBb i (len s) = true) (.ret (.lit (.int .u8 (pick (g2 (gI i) (gS s)) fun _ => yIx s i))))
    | some (.arr n e), .agg xs => match T.sz e, T.tk e with
      | some sz, some k => match agT k with
        | true => .bad
        | false => .need (inBb i n = true) (.need (ltN (mulN (natI i) sz) (len xs) = true) (castK k (nth xs (mulN (natI i) sz) .any)))
      | _, _ => .bad
    | _, _ => .bad
  | _ => .bad
theorem indexE_le {P : Program} {T : Tab} (h : TabOk P T) (t : TypeId) (x ix : AV) : Le (indexE T t x ix) (Aw.indexE P t x ix) := by
  unfold indexE
  split
  · rename_i kk i
    split
    · rename_i s h1
      refine Le.eq ?_
      unfold Aw.indexE
      simp only [h.tk h1, inBb_eq, len_eq, pick_eq, plain]
      try rfl
    · rename_i n e xs h1
      split
      · rename_i sz k h2 h3
        unfold Aw.indexE
        simp only [h.tk h1, h.sz h2, h.tk h3]
        cases agT k
        · simp only [inBb_eq, ltN_eq, mulN_eq, natI_eq, len_eq, nth_eq, Bool.false_eq_true, if_false]
          exact Le.need id (Le.need id (castK_le _ _))
        · exact Le.bad _
      · exact Le.bad _
    · exact Le.bad _
  · exact Le.bad _
def fieldE (s : TypeId) (x : AV) (i : Nat) : Ev AV :=
  match T.tk s, x with
  | some (.struct fs), .agg xs => match fs[i]? with
    | some (fo, fsz, ag) => match ag with
      | true => .need (eqN fsz 0 = false ∧ leN (addN fo fsz) (len xs) = true) (.ret (.agg (tak (drp xs fo) fsz)))
      | false => .need (eqN fsz 0 = false ∧ ltN fo (len xs) = true) (.ret (nth xs fo .any))
    | none => .bad
  | _, _ => .bad
theorem fieldE_le {P : Program} {T : Tab} (h : TabOk P T) (s : TypeId) (x : AV) (i : Nat) : Le (fieldE T s x i) (Aw.fieldE P s x i) := by
  unfold fieldE
  split
  · rename_i fs xs h1
    refine Le.eq ?_
    unfold Aw.fieldE
    simp only [h.tk h1]
    try rfl
    cases fs[i]? with
    | none => rfl
    | some f => obtain ⟨fo, fsz, ag⟩ := f; cases ag <;> simp [eqN_ne]
  · exact Le.bad _
def extractE (x : AV) (i : Nat) : Ev AV :=
  match x with
  | .tup xs => .need (ltN i (len xs) = true) (.ret (nth xs i .any))
  | _ => .bad
theorem extractE_eq (x : AV) (i : Nat) : extractE x i = Aw.extractE x i := by
  unfold extractE Aw.extractE; simp only [len_eq, ltN_eq, nth_eq]; try rfl
def cmpI (op : BinOp) (a b : Int) : Option Bool :=
  match op with
  | .eql => some (pick (g2 (gI a) (gI b)) fun _ => yEqZ a b)
  | .neq => some (pick (g2 (gI a) (gI b)) fun _ => yNeZ a b)
  | .lss => some (pick (g2 (gI a) (gI b)) fun _ => yLtZ a b)
  | .leq => some (pick (g2 (gI a) (gI b)) fun _ => yLeZ a b)
  | .gtr => some (pick (g2 (gI a) (gI b)) fun _ => yGtZ a b)
  | .geq => some (pick (g2 (gI a) (gI b)) fun _ => yGeZ a b)
  | _ => none
theorem cmpI_eq (op : BinOp) (a b : Int) : cmpI op a b = Aw.cmpI op a b := by
  unfold cmpI Aw.cmpI; simp only [pick_eq, plain]; try rfl
def bitsI (op : BinOp) (k : IntKind) (a b : Int) : Option Int :=
  match op with
  | .and => some (pick (g2 (gI a) (gI b)) fun _ => yAnd k a b)
  | .or => some (pick (g2 (gI a) (gI b)) fun _ => yOr k a b)
  | .xor => some (pick (g2 (gI a) (gI b)) fun _ => yXor k a b)
  | .andNot => some (pick (g2 (gI a) (gI b)) fun _ => yAndNot k a b)
  | _ => none
theorem bitsI_eq (op : BinOp) (k : IntKind) (a b : Int) : bitsI op k a b = Aw.bitsI op k a b := by
  unfold bitsI Aw.bitsI; simp only [pick_eq, plain]; try rfl
def neI (b : Int) : Bool := pick (gI b) fun _ => yNe0 b
def geI (b : Int) : Bool := pick (gI b) fun _ => yGe0 b
@[simp] theorem neI_eq (b : Int) : (neI b = true) = (b ≠ 0) := by simp [neI, plain]
@[simp] theorem geI_eq (b : Int) : (geI b = true) = (0 ≤ b) := by simp [geI, plain]
def intE (op : BinOp) (k : IntKind) (a b : Int) : Ev AV :=
  match op with
  | .add => .ret (.lit (.int k (pick (g2 (gI a) (gI b)) fun _ => yAdd k a b)))
  | .sub => .ret (.lit (.int k (pick (g2 (gI a) (gI b)) fun _ => ySub k a b)))
  | .mul => .ret (.lit (.int k (pick (g2 (gI a) (gI b)) fun _ => yMul k a b)))
  | .quo => .need (neI b = true) (.ret (.lit (.int k (pick (g2 (gI a) (gI b)) fun _ => yQuo k a b))))
  | .rem => .need (neI b = true) (.ret (.lit (.int k (pick (g2 (gI a) (gI b)) fun _ => a.tmod b))))
  | op => match cmpI op a b with
    | some r => .ret (.lit (.bool r))
    | none => match bitsI op k a b with
      | some r => .ret (.lit (.int k r))
      | none => .bad
theorem intE_eq (op : BinOp) (k : IntKind) (a b : Int) : intE op k a b = Aw.intE op k a b := by
  unfold intE Aw.intE; simp only [pick_eq, plain, neI_eq, cmpI_eq, bitsI_eq]; try rfl
def shiftE (op : BinOp) (k : IntKind) (a b : Int) : Ev AV :=
  match op with
  | .shl => .need (geI b = true) (.ret (.lit (.int k (pick (g2 (gI a) (gI b)) fun _ => yShl k a b))))
  | .shr => .need (geI b = true) (.ret (.lit (.int k (pick (g2 (gI a) (gI b)) fun _ => yShr k a b))))
  | _ => .bad
theorem shiftE_eq (op : BinOp) (k : IntKind) (a b : Int) : shiftE op k a b = Aw.shiftE op k a b := by
  unfold shiftE Aw.shiftE; simp only [pick_eq, plain, geI_eq]; try rfl
def strE (op : BinOp) (a b : List UInt8) : Ev AV :=
  match op with
  | .add => .need (leN (addN (len a) (len b)) LIM = true) (.ret (.str (pick (gP a) fun _ => yCat a b)))
  | .eql => .ret (.lit (.bool (pick (gE a b) fun _ => yEqS a b)))
  | .neq => .ret (.lit (.bool (pick (gE a b) fun _ => yNeS a b)))
  | .lss => .ret (.lit (.bool (pick (g2 (gS a) (gS b)) fun _ => Op.bytesLess a b)))
  | .leq => .ret (.lit (.bool (pick (g2 (gS a) (gS b)) fun _ => yLeS a b)))
  | .gtr => .ret (.lit (.bool (pick (g2 (gS a) (gS b)) fun _ => yGtS a b)))
  | .geq => .ret (.lit (.bool (pick (g2 (gS a) (gS b)) fun _ => yGeS a b)))
  | _ => .bad
theorem strE_eq (op : BinOp) (a b : List UInt8) : strE op a b = Aw.strE op a b := by
  unfold strE Aw.strE; simp only [pick_eq, plain, leN_eq, addN_eq, len_eq]; try rfl
def gL (b : Bool) : Bool := match b with | true => true | false => true
def ikeq : IntKind → IntKind → Bool
  | k, k' => decide (k = k')
def binE (op : BinOp) (t : TypeId) (x y : AV) : Ev AV :=
  match x, y with
  | .lit (.int k a), .lit (.int k' b) => match op with
    | .shl | .shr => shiftE op k a b
    | _ => if k = k' then intE op k a b else .bad
  | .str a, .str b => strE op a b
  | .lit (.bool a), .lit (.bool b) => match op, T.tk t with
    | .eql, some .bool => .ret (.lit (.bool (pick (g2 (gL a) (gL b)) fun _ => yEqB a b)))
    | .neq, some .bool => .ret (.lit (.bool (pick (g2 (gL a) (gL b)) fun _ => yNeB a b)))
    | _, _ => .bad
  | _, _ => .bad
theorem binE_le {P : Program} {T : Tab} (h : TabOk P T) (op : BinOp) (t : TypeId) (x y : AV) : Le (binE T op t x y) (Aw.binE P op t x y) := by
  unfold binE
  split
  · refine Le.eq ?_
    unfold Aw.binE
    simp only [intE_eq, shiftE_eq]
    try rfl
  · refine Le.eq ?_
    unfold Aw.binE
    simp only [strE_eq]
    try rfl
  · rename_i a b
    split
    · rename_i h1
      refine Le.eq ?_
      unfold Aw.binE
      simp only [h.tk h1, pick_eq, plain]
      try rfl
    · rename_i h1
      refine Le.eq ?_
      unfold Aw.binE
      simp only [h.tk h1, pick_eq, plain]
      try rfl
    · exact Le.bad _
  · exact Le.bad _
def nilE (O : List AObj) (op : BinOp) (t : TypeId) (o1 o2 : Operand) (x y : AV) : Ev AV :=
  match T.tk t with
  | some k => match isN O k x, isN O k y, (isK o1 || isK o2) with
    | some a, some b, true => if a || b then (match op with
      | .eql => .ret (.lit (.bool (a && b)))
      | .neq => .ret (.lit (.bool (!(a && b))))
      | _ => .bad) else .bad
    | _, _, _ => .bad
  | none => .bad
theorem nilE_le {P : Program} {T : Tab} (h : TabOk P T) (O : List AObj) (op : BinOp) (t : TypeId) (o1 o2 : Operand) (x y : AV) : Le (nilE T O op t o1 o2 x y) (Aw.nilE P O op t o1 o2 x y) := by
  unfold nilE
  split
  · rename_i k h1
    refine Le.eq ?_
    unfold Aw.nilE
    simp only [h.tk h1]
    try rfl
  · exact Le.bad _
def unE (op : UnOp) (x : AV) : Ev AV :=
  match op, x with
  | .not, .lit (.bool b) => .ret (.lit (.bool (pick (gL b) fun _ => yNot b)))
  | .neg, .lit (.int k n) => .ret (.lit (.int k (pick (gI n) fun _ => yNeg k n)))
  | .xor, .lit (.int k n) => .ret (.lit (.int k (pick (gI n) fun _ => yNx k n)))
  | _, _ => .bad
theorem unE_eq (op : UnOp) (x : AV) : unE op x = Aw.unE op x := by
  unfold unE Aw.unE; simp only [pick_eq, plain]; try rfl
end S
end Go.Aw
