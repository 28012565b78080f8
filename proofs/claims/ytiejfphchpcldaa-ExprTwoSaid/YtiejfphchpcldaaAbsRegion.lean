/- Regions: operations one behind the other; in whichever order the model draws. -/
import Derived.Test.YtiejfphchpcldaaAbsEffB
namespace Go.Abs

variable {P : Program}

/-- False, and of a great height: what is made of it is unfolded ahead of all operations. -/
def fls : Prop := (fun (_ : Program → Prop) => False) fun P => aOp P false (fun _ => .top) (.move (.const undef)) [] fun _ _ => True

/-- The slots, one by one (so that a reckoning does not put them off). -/
def strict (t : List AV) (K : List AV → Prop) : Prop :=
  (fun (_ : Prop) => List.rec (motive := fun _ => (List AV → Prop) → Prop) (fun K => K []) (fun x _ ih K => ih fun r' => K (x :: r')) t K) fls

theorem strict_eq : ∀ (t : List AV) (K : List AV → Prop), strict t K = K t
  | [], _ => rfl
  | x :: r, K => strict_eq r fun r' => K (x :: r')

/-- A guard's truth. -/
def aGuard (x : AV) (A B : Prop) : Prop :=
  match x with
  | .p (.bool b) => match b with
    | true => A
    | false => B
  | _ => fls

def gdst (ops : Array Oper) (j : Nat) : Option Nat := (ops[j]?).bind (·.dst)

def isAlloc : Op → Bool
  | .alloc _ => true
  | _ => false

/-- One operation: where the order is drawn, new variables have been made ahead. -/
def aExec (P : Program) (draw : Bool) (o : Oper) (t : List AV) (H : List Ob) (K : List AV → List Ob → Prop) : Prop :=
  match draw && isAlloc o.op with
  | true => K t H
  | false => aOp P draw (rho t) o.op H fun v H' => strict (setD t o.dst v) fun t' => K t' H'

/-- What a skipped operation leaves. -/
def skp : AV := .tup []

def sure (x : AV) (p : Prop) : Prop :=
  match x with
  | .tup [] => p
  | _ => fls

def addSk (sk : List Nat) (d : Option Nat) : List Nat :=
  match d with
  | some u => u :: sk
  | none => sk

/-- A guard: a skipped one skips too ('sk': the slots of what has been skipped). -/
def aGd (sk : List Nat) (t : List AV) (d : Nat) (want : Bool) (E S : List AV → Prop) : Prop :=
  match sk.contains d with
  | true => sure (t.getD d .top) (S t)
  | false => match want with
    | true => aGuard (t.getD d .top) (strict (t.set d (.p (.bool true))) E) (strict (t.set d (.p (.bool false))) S)
    | false => aGuard (t.getD d .top) (strict (t.set d (.p (.bool true))) S) (strict (t.set d (.p (.bool false))) E)

def aOps (P : Program) (draw : Bool) (ops : Array Oper) : List Oper → List Nat → List AV → List Ob → (List AV → List Ob → Prop) → Prop
  | [], _, t, H, K => K t H
  | o :: r, sk, t, H, K =>
    match o.guard with
    | none => aExec P draw o t H fun t' H' => aOps P draw ops r sk t' H' K
    | some (j, want) => match gdst ops j with
      | some d => aGd sk t d want (fun t => aExec P draw o t H fun t' H' => aOps P draw ops r sk t' H' K) (fun t => strict (setD t o.dst skp) fun t => aOps P draw ops r (addSk sk o.dst) t H K)
      | none => False

def preAlloc (P : Program) : List Oper → List AV → List Ob → (List AV → List Ob → Prop) → Prop
  | [], t, H, K => K t H
  | o :: r, t, H, K =>
    match isAlloc o.op with
    | true => match o.dst with
      | some d => match decide (d < t.length) with
        | true => aA P o.op fun z => aAlloc z H fun p H' => strict (t.set d p) fun t => preAlloc P r t H' K
        | false => False
      | none => False
    | false => preAlloc P r t H K

/- Which orders are all as good. -/
def preds (acc : List (List Nat)) (o : Oper) : List Nat :=
  (o.after.toList.flatMap fun e => if Region.binds .any e then e.on :: acc.getD e.on [] else []).eraseDups

def masks : List Oper → List (List Nat) → List (List Nat)
  | [], acc => acc
  | o :: r, acc => masks r (acc ++ [preds acc o])

def isM : Op → Bool
  | .store _ _ _ => true
  | .makeFunc _ _ _ => true
  | _ => false

def isE (op : Op) : Bool := decide (cls true op = .eff)
def isL (op : Op) : Bool := decide (cls true op = .load)

def clash (a b : Op) : Bool := (isE a && isE b) || (isM a && isL b) || (isL a && isM b)

/-- The slots that an operation looks at. -/
def looks (ops : Array Oper) (o : Oper) : List Nat :=
  (o.op.operands.toList.filterMap fun | .tmp u => some u | _ => none) ++ (match o.guard with | some (j, _) => (gdst ops j).toList | none => [])

def pairOk (ops : Array Oper) (m : List (List Nat)) (j : Nat) (o : Oper) (i : Nat) (o' : Oper) : Bool :=
  (i == j || o'.dst.isNone || o'.dst != o.dst) &&
  (match o'.dst with | some d => !(looks ops o).contains d || (decide (i < j) && (m.getD j []).contains i) | none => true) &&
  (!(decide (i < j) && clash o'.op o.op) || (m.getD j []).contains i)

def opOk (ops : Array Oper) (m : List (List Nat)) (j : Nat) (o : Oper) : Bool :=
  o.after.toList.all (fun e => !Region.binds .any e || decide (e.on < j)) &&
  (!isAlloc o.op || (o.guard.isNone && o.dst.isSome)) &&
  (List.range ops.size).all fun i => match ops[i]? with | some o' => pairOk ops m j o i o' | none => true

def regionOk (ops : Array Oper) : Bool :=
  (List.range ops.size).all fun j => match ops[j]? with | some o => opOk ops (masks ops.toList []) j o | none => true

/- One behind the other. -/
theorem aOp_sound {ρ : Operand → AV} {o : Oper} {H : List Ob} {K : AV → List Ob → Prop} (h : aOp P false ρ o.op H K) {a : Act} {w : World} {G : Gh} (hi : Inv w G H) (hx : ∀ x ∈ o.op.operands, RepA G (ρ x) (a.eval x)) :
    ∃ r H', K r H' ∧ DoesW P o ρ r H H' := by
  unfold aOp at h
  split at h
  · rename_i hc
    obtain ⟨r, _, h2, h3⟩ := sound_P hc h
    exact ⟨r, H, h2 a w G H hi hx, (h3 H).weak⟩
  · obtain ⟨r, h2, h3⟩ := sound_L h
    exact ⟨r, H, h2, (h3 H (fun _ _ _ _ _ => rfl)).weak⟩
  · rename_i hc
    obtain ⟨op, hop⟩ : ∃ op, o.op = op := ⟨_, rfl⟩
    rw [hop] at h
    cases op with
    | alloc t =>
      obtain ⟨z, h2, h3⟩ := alloc_sound (ρ := ρ) hop h
      exact ⟨_, _, h2, (h3 H).1.weak⟩
    | _ => simp [aA] at h
  · rename_i hc
    obtain ⟨r, H', h2, h3, _⟩ := sound_E hc (show aE P ρ o.op H K from h)
    exact ⟨r, H', h2, h3⟩

theorem yielded_of {ops : Array Oper} {j d : Nat} (hd : gdst ops j = some d) {G : Gh} {t : List AV} {tm : Array Value} (h : RepTm G t tm) {b : Bool} (hb : t.getD d .top = .p (.bool b)) : yielded ops tm j = some b := by
  have r := h.2 d
  rw [hb] at r
  have ev := repA_bool.1 r
  have hlt : d < tm.size := by
    rcases Nat.lt_or_ge d t.length with h1 | h1
    · have := h.1; omega
    · rw [List.getD_eq_getElem?_getD, List.getElem?_eq_none h1] at hb; simp at hb
  unfold yielded
  unfold gdst at hd
  rw [hd]
  simp only [Option.bind_some]
  rw [Array.getD_eq_getD_getElem?, Array.getElem?_eq_getElem hlt] at ev
  rw [Array.getElem?_eq_getElem hlt]
  simp at ev
  rw [ev]

theorem set_same {t : List AV} {d : Nat} {x : AV} (h : t.getD d .top = x) : t.set d x = t := by
  apply List.ext_getElem?
  intro i
  by_cases hi : d = i
  · subst hi
    rcases Nat.lt_or_ge d t.length with h1 | h1
    · rw [List.getD_eq_getElem?_getD, List.getElem?_eq_getElem h1] at h
      simp at h
      simp [h1, ← h]
    · simp [h1]
  · rw [List.getElem?_set_ne hi]

theorem guard_get {sk : List Nat} {t : List AV} {d : Nat} {want : Bool} {E S : List AV → Prop} (h : aGd sk t d want E S) :
    (t.getD d .top = .tup [] ∧ S t) ∨ ∃ b, t.getD d .top = .p (.bool b) ∧ if b == want then E t else S t := by
  have key : ∀ {A B : Prop}, aGuard (t.getD d .top) A B → ∃ b, t.getD d .top = .p (.bool b) ∧ (b = true → A) ∧ (b = false → B) := by
    intro A B h
    unfold aGuard at h
    split at h
    · rename_i b hb
      exact ⟨b, hb, fun e => by subst e; exact h, fun e => by subst e; exact h⟩
    · exact False.elim h
  unfold aGd at h
  simp only [strict_eq] at h
  split at h
  · left
    unfold sure at h
    split at h
    · rename_i he
      exact ⟨he, h⟩
    · exact False.elim h
  · right
    cases want with
    | true =>
      obtain ⟨b, hb, h1, h2⟩ := key h
      refine ⟨b, hb, ?_⟩
      cases b with
      | true => have := h1 rfl; rw [set_same hb] at this; simpa using this
      | false => have := h2 rfl; rw [set_same hb] at this; simpa using this
    | false =>
      obtain ⟨b, hb, h1, h2⟩ := key h
      refine ⟨b, hb, ?_⟩
      cases b with
      | true => have := h1 rfl; rw [set_same hb] at this; simpa using this
      | false => have := h2 rfl; rw [set_same hb] at this; simpa using this

theorem repA_skp {G : Gh} {v : Value} : RepA G (.tup []) v ↔ v = undef := by
  constructor
  · intro h
    cases h with
    | tup _ vs hn hv => simp [undef]; exact Array.eq_empty_of_size_eq_zero (by simpa using hn)
  · rintro rfl
    exact .tup [] #[] rfl (fun j c hj => by simp at hj)

theorem yielded_skp {ops : Array Oper} {j d : Nat} (hd : gdst ops j = some d) {tm : Array Value} (h : tm.getD d undef = undef) : yielded ops tm j = none := by
  unfold yielded
  unfold gdst at hd
  rw [hd]
  simp only [Option.bind_some]
  by_cases hl : d < tm.size
  · rw [Array.getD_eq_getD_getElem?, Array.getElem?_eq_getElem hl] at h
    rw [Array.getElem?_eq_getElem hl]
    simp at h
    rw [h]
    rfl
  · rw [Array.getElem?_eq_none (by omega)]

theorem put_defers (a : Act) (d : Option Tmp) (v : Value) : (a.put d v).defers = a.defers := by cases d <;> rfl

/-- The slots that no operation writes; how many there are. -/
def Kept (ops : Array Oper) (a a' : Act) : Prop := (∀ u, (∀ (k : Nat) (o : Oper), ops[k]? = some o → o.dst ≠ some u) → a'.tmps.getD u undef = a.tmps.getD u undef) ∧ a'.tmps.size = a.tmps.size

theorem Kept.refl (ops : Array Oper) (a : Act) : Kept ops a a := ⟨fun _ _ => rfl, rfl⟩
theorem Kept.trans {ops : Array Oper} {a b c : Act} (h : Kept ops a b) (k : Kept ops b c) : Kept ops a c := ⟨fun u hu => (k.1 u hu).trans (h.1 u hu), k.2.trans h.2⟩
theorem Kept.put {ops : Array Oper} (a : Act) {k : Nat} {o : Oper} (ho : ops[k]? = some o) (v : Value) : Kept ops a (a.put o.dst v) := by
  refine ⟨fun u hu => ?_, ?_⟩
  · have := hu k o ho
    cases hd : o.dst with
    | none => rfl
    | some d =>
      have hne : d ≠ u := fun h => this (by rw [hd, h])
      simp [Act.put, Array.getD_eq_getD_getElem?, Array.getElem?_setIfInBounds_ne hne]
  · cases hd : o.dst with
    | none => rfl
    | some d => simp [Act.put]

end Go.Abs
