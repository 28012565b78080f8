/- Code in pieces: the walk over trees stops where the rest is to be taken by itself. -/
import Derived.Test.YtiejfphchpcldaaAbsFn
namespace Go.Abs

abbrev Ko := AExit → List AV → List Ob → Prop

variable (P : Program) (ann : Nat → List Nat)

/-- As awp, but the second part of a 'seq' is left to 'self' where cut says so (by its first region). -/
def awpX (self : Code → List AV → List Ob → Ko → Prop) (cut : Nat → Bool) : Code → List AV → List Ob → Ko → Prop
  | .skip, t, H, K => K .normal t H
  | .region _ ops draw, t, H, K => aRegion P ops draw t H fun t' H' => K .normal t' H'
  | .seq a b, t, H, K => awpX self cut a t H fun e t' H' => match e with
    | .normal => match cut ((key b).getD 0) with
      | true => self b (trimS ann b t') H' K
      | false => strict (trimS ann b t') fun t' => awpX self cut b t' H' K
    | e => K e t' H'
  | .cond c a b, t, H, K => match mrgT ann c a b with
    | .no => aGuard (rho t c) (strict (lit t c true) fun t => awpX self cut a t H K) (strict (lit t c false) fun t => awpX self cut b t H K)
    | .orr u => aMerge false (t.getD u .top) (fun Q => strict (t.set u (.p (.bool false))) fun t => awpX self cut b t H (kMrg u H Q)) (fun v => strict ((forget t (writes b)).set u v) fun t => K .normal t H)
    | .andd u => aMerge true (t.getD u .top) (fun Q => strict (t.set u (.p (.bool true))) fun t => awpX self cut a t H (kMrg u H Q)) (fun v => strict ((forget t (writes a)).set u v) fun t => K .normal t H)
  | .block id a, t, H, K => awpX self cut a t H fun e t' H' => match e with
    | .exit j => match j == id with
      | true => K .normal t' H'
      | false => K (.exit j) t' H'
    | e => K e t' H'
  | .loop a, t, H, K => aLoop (ann ((key a).getD 0)) (writes a) (awpX self cut a) t H K
  | .exit id, t, H, K => K (.exit id) t H
  | .ret, t, H, K => K .ret t H
  | _, _, _, _ => False

theorem awpX_eq (cut : Nat → Bool) : ∀ (c : Code) (t : List AV) (H : List Ob) (K : Ko), awpX P ann (awp P ann) cut c t H K = awp P ann c t H K := by
  intro c
  induction c with
  | seq a b iha ihb =>
    intro t H K
    simp only [awpX, awp, iha, strict_eq]
    congr 1
    funext e t' H'
    cases e with
    | normal => simp only [ihb]; cases cut ((key b).getD 0) <;> rfl
    | _ => rfl
  | cond c a b iha ihb =>
    intro t H K
    simp only [awpX, awp, iha, ihb, strict_eq]
    cases mrgT ann c a b <;> rfl
  | block id a iha =>
    intro t H K
    simp only [awpX, awp, iha]
    congr 1
  | loop a iha =>
    intro t H K
    simp only [awpX, awp]
    congr 1
    funext t' H' K'
    exact iha t' H' K'
  | _ => intro t H K; first | rfl | simp [awpX, awp]

variable {P ann}

/- What comes behind, by its parts. -/
def kSeq (self : Code → List AV → List Ob → Ko → Prop) (b : Code) (ks : List Nat) (K : Ko) : Ko := fun e t' H' => match e with
  | .normal => self b (keepS ks 0 t') H' K
  | e => K e t' H'
def kThen (x : AExit) (K : Ko) : Ko := fun e t' H' => match e with
  | .normal => K x t' H'
  | e => K e t' H'
def kBlock (id : Nat) (K : Ko) : Ko := fun e t' H' => match e with
  | .exit j => match j == id with
    | true => K .normal t' H'
    | false => K (.exit j) t' H'
  | e => K e t' H'
def kLoop (keep : List Nat) (B : List AV → List Ob → Prop) (K : Ko) : Ko := fun e t2 H2 => match e with
  | .normal => B (keep.map fun k => t2.getD k .top) H2
  | e => K e t2 H2
def kEnd (P : Program) (rs : List ResultVar) (K : AV → List Ob → Prop) : Ko := fun e t H => match e with
  | .exit _ => False
  | _ => aRes P rs t H fun vs => K (tupOf vs) H

variable {self : Code → List AV → List Ob → Ko → Prop} {b : Code} {K : Ko} {t : List AV} {H : List Ob}

@[simp ↓] theorem kSeq_normal {ks : List Nat} : kSeq self b ks K .normal t H = self b (keepS ks 0 t) H K := rfl
@[simp ↓] theorem kSeq_ret {ks : List Nat} : kSeq self b ks K .ret t H = K .ret t H := rfl
@[simp ↓] theorem kSeq_exit {ks : List Nat} {j : Nat} : kSeq self b ks K (.exit j) t H = K (.exit j) t H := rfl
@[simp ↓] theorem kThen_normal {x : AExit} : kThen x K .normal t H = K x t H := rfl
@[simp ↓] theorem kThen_ret {x : AExit} : kThen x K .ret t H = K .ret t H := rfl
@[simp ↓] theorem kThen_exit {x : AExit} {j : Nat} : kThen x K (.exit j) t H = K (.exit j) t H := rfl
@[simp ↓] theorem kBlock_normal {id : Nat} : kBlock id K .normal t H = K .normal t H := rfl
@[simp ↓] theorem kBlock_ret {id : Nat} : kBlock id K .ret t H = K .ret t H := rfl
@[simp ↓] theorem kBlock_exit {id j : Nat} : kBlock id K (.exit j) t H = if j = id then K .normal t H else K (.exit j) t H := by
  unfold kBlock
  by_cases h : j = id
  · simp [h]
  · simp only [h, if_false, beq_eq_false_iff_ne.2 h]
@[simp ↓] theorem kLoop_normal {keep : List Nat} {B : List AV → List Ob → Prop} : kLoop keep B K .normal t H = B (keep.map fun k => t.getD k .top) H := rfl
@[simp ↓] theorem kLoop_ret {keep : List Nat} {B : List AV → List Ob → Prop} : kLoop keep B K .ret t H = K .ret t H := rfl
@[simp ↓] theorem kLoop_exit {keep : List Nat} {B : List AV → List Ob → Prop} {j : Nat} : kLoop keep B K (.exit j) t H = K (.exit j) t H := rfl
@[simp ↓] theorem kEnd_ret {rs : List ResultVar} {Q : AV → List Ob → Prop} : kEnd P rs Q .ret t H = aRes P rs t H fun vs => Q (tupOf vs) H := rfl
@[simp ↓] theorem kEnd_normal {rs : List ResultVar} {Q : AV → List Ob → Prop} : kEnd P rs Q .normal t H = aRes P rs t H fun vs => Q (tupOf vs) H := rfl

def cl : Code → Code
  | .seq a _ => a
  | .cond _ a _ => a
  | .block _ a => a
  | .loop a => a
  | c => c
def cr : Code → Code
  | .seq _ b => b
  | .cond _ _ b => b
  | c => c

end Go.Abs
