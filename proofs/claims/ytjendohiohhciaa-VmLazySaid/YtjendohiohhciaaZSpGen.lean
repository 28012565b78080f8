/- The package gen over trees: join, choice, each. -/
import Derived.Test.YtjendohiohhciaaZSpDec
import Derived.Test.YtjendohiohhciaaS1
set_option linter.unusedSimpArgs false
set_option linter.unusedVariables false
namespace Go.Proofs.Ytjendohiohhciaa
open Go Go.Abs

/-- A row that is answered, as a tree. -/
theorem fn_freeze {f : FuncId} {args : List AV} {v s n : Nat} {es : List T} (h : Abs.Fn Try.prog f [] args (.msl 0 v s 0 n) [.mrow v s es]) (hn : n ≤ es.length) : Abs.Fn Try.prog f [] args (.p (.slice (es.take n))) [] := by
  refine ⟨h.1, fun w G vs hi hv => (h.2 w G vs hi hv).mono ?_⟩
  rintro e w' ⟨u, G', rfl, hr, hi', hm⟩
  have g : Gives 0 (.msl 0 v s 0 n) [.mrow v s es] (.p (.slice (es.take n))) [] := gives_freeze (id := 0) rfl (by simp [AV.unm, AV.unm1, hn]; exact gives_pure rfl)
  obtain ⟨G2, i2, r2, m2⟩ := g w' G' u hi' hr
  exact ⟨u, G2, rfl, r2, i2, hm.trans m2⟩

attribute [local irreducible] Abs.Fn

/-- An instruction. -/
inductive In where
  | mk (op : List UInt8) (v : Va) (n : Int)
def In.op : In → List UInt8
  | .mk o _ _ => o
def In.v : In → Va
  | .mk _ v _ => v
def In.n : In → Int
  | .mk _ _ n => n
@[simp] theorem In.op_mk {o : List UInt8} {v : Va} {n : Int} : (In.mk o v n).op = o := rfl
@[simp] theorem In.v_mk {o : List UInt8} {v : Va} {n : Int} : (In.mk o v n).v = v := rfl
@[simp] theorem In.n_mk {o : List UInt8} {v : Va} {n : Int} : (In.mk o v n).n = n := rfl

def encI (x : In) : T := .agg [.str x.op, .int .i64 x.v.k, .int .i64 x.v.i, .bool x.v.b, .str x.v.s, .slice (x.v.t.map encV), .int .i64 x.n]
theorem encI_eta {x : In} : encI x = .agg [.str x.op, .int .i64 x.v.k, .int .i64 x.v.i, .bool x.v.b, .str x.v.s, .slice (x.v.t.map encV), .int .i64 x.n] := rfl
@[simp] theorem encI_cells (x : In) : (encI x).cells.length = 7 := rfl
def encPr (p : List In) : T := .slice (p.map encI)

def oJmp : List UInt8 := [106, 109, 112]
def oJf : List UInt8 := [106, 102]
def jumpI (x : In) : Prop := x.op = oJmp ∨ x.op = oJf
instance (x : In) : Decidable (jumpI x) := inferInstanceAs (Decidable (_ ∨ _))

/-- An instruction that stands so much further behind. -/
def mvI (b : Int) (x : In) : In := if jumpI x then .mk x.op x.v (x.n + b) else x

def joinI (l : List (List In)) : List In := l.foldl (fun out p => out ++ p.map (mvI out.length)) []

theorem joinI_snoc (l : List (List In)) (p : List In) : joinI (l ++ [p]) = joinI l ++ p.map (mvI (joinI l).length) := by simp [joinI]
theorem joinI_acc (l : List (List In)) : ∀ acc : List In, (l.foldl (fun out p => out ++ p.map (mvI out.length)) acc).length = acc.length + (l.map List.length).sum := by
  induction l with
  | nil => intro acc; simp
  | cons p l ih => intro acc; simp [ih]; omega
theorem joinI_length (l : List (List In)) : (joinI l).length = (l.map List.length).sum := by simp [joinI, joinI_acc]
theorem joinI_take_le (l : List (List In)) (i : Nat) : (joinI (l.take i)).length ≤ (joinI l).length := by
  have h : l.map List.length = (l.take i).map List.length ++ (l.drop i).map List.length := by rw [← List.map_append, List.take_append_drop]
  rw [joinI_length, joinI_length, h, List.sum_append]
  omega
theorem joinI_take_succ (l : List (List In)) (i : Nat) (hi : i < l.length) : joinI (l.take (i + 1)) = joinI (l.take i) ++ l[i].map (mvI (joinI (l.take i)).length) := by
  rw [← joinI_snoc, List.take_succ_eq_append_getElem hi]

/-- Do the jumps' numbers stay small? -/
def smallI (x : In) : Prop := jumpI x → 0 ≤ x.n ∧ x.n ≤ 1000000000000

theorem mvI_cells (b : Int) (x : In) : encI (mvI b x) = if jumpI x then .agg [.str x.op, .int .i64 x.v.k, .int .i64 x.v.i, .bool x.v.b, .str x.v.s, .slice (x.v.t.map encV), .int .i64 (x.n + b)] else encI x := by
  unfold mvI
  split <;> rfl

theorem join_m (l : List (List In)) (hl : (joinI l).length ≤ 1000000) (hs : ∀ p ∈ l, ∀ x ∈ p, smallI x) (hn : l.length ≤ 1000000) :
    Abs.Fn Try.prog gen_join_i [] [.p (.slice (l.map encPr))] (.msl 0 (joinI l).length 7 0 (joinI l).length) [.mrow (joinI l).length 7 ((joinI l).map encI)] := by
  apply gen_join_fn
  simp [gen_join]
  intro _
  refine loop_by (σ := Nat) (n := 1) (fun i => [.msl 0 (joinI (l.take i)).length 7 0 (joinI (l.take i)).length, .p (.int .i64 i)]) (fun i => [.mrow (joinI (l.take i)).length 7 ((joinI (l.take i)).map encI)]) (fun i => i ≤ l.length) (fun i => l.length - i) [.mslot 0 7] 0 (fun _ => rfl) ⟨rfl, rfl⟩ (by simp) (fun i B hi hB => ?_)
  have hN := joinI_take_le l i
  simp [gen_join_L1]
  refine ⟨fun hlt => ?_, fun hge => ?_⟩
  · have hp : l[i] ∈ l := by simp
    have hsucc := joinI_take_succ l i hlt
    have hN2 := joinI_take_le l (i + 1)
    rw [hsucc] at hN2
    simp at hN2
    simp [hlt, encPr]
    intro _ _
    refine loop_by (σ := Nat) (n := 1) (fun k => [.msl 0 ((joinI (l.take i)).length + k) 7 0 ((joinI (l.take i)).length + k), .p (.int .i64 k)]) (fun k => [.mrow ((joinI (l.take i)).length + k) 7 ((joinI (l.take i) ++ (l[i].take k).map (mvI (joinI (l.take i)).length)).map encI)])
      (fun k => k ≤ l[i].length) (fun k => l[i].length - k) [] 0 (fun _ => rfl) ⟨rfl, by simp⟩ (by simp) (fun k B2 hk hB2 => ?_)
    by_cases hkl : k < l[i].length
    · have hx : smallI l[i][k] := hs _ hp _ (by simp)
      have hM : k ≤ (l[i].map (encI ∘ mvI (joinI (l.take i)).length)).length := by simp; omega
      have hsz : ∀ e ∈ (joinI (l.take i)).map encI ++ (l[i].map (encI ∘ mvI (joinI (l.take i)).length)).take k, e.cells.length = 7 := by
        intro e he
        rcases List.mem_append.1 he with h | h
        · obtain ⟨y, _, rfl⟩ := List.mem_map.1 h; rfl
        · obtain ⟨y, _, rfl⟩ := List.mem_map.1 (List.mem_of_mem_take h); rfl
      have htk : ((joinI (l.take i)).map encI ++ (l[i].map (encI ∘ mvI (joinI (l.take i)).length)).take k).take ((joinI (l.take i)).length + k) = (joinI (l.take i)).map encI ++ (l[i].map (encI ∘ mvI (joinI (l.take i)).length)).take k :=
        List.take_of_length_le (by simp; omega)
      have happ : ∀ t : T, t.cells.length = 7 → appendable 7 88 ((joinI (l.take i)).map encI ++ (l[i].map (encI ∘ mvI (joinI (l.take i)).length)).take k) [t] := fun t ht => ⟨hsz, by simpa using ht, by simp; omega⟩
      have e1 : IntKind.i64.wrap ((k : Int) + 1) = ((k + 1 : Nat) : Int) := by rw [IntWalk.i64_in _ (by omega)]; push_cast; rfl
      have hts : (joinI (l.take i) ++ (l[i].take (k + 1)).map (mvI (joinI (l.take i)).length)).map encI = (joinI (l.take i)).map encI ++ ((l[i].map (encI ∘ mvI (joinI (l.take i)).length)).take k ++ [encI (mvI (joinI (l.take i)).length l[i][k])]) := by
        rw [List.take_succ_eq_append_getElem hkl]
        simp only [List.map_append, List.map_map, List.map_take, List.map_cons, List.map_nil]
      have e3 : (k : Int) + 1 = ((k + 1 : Nat) : Int) := by push_cast; rfl
      simp [gen_join_L2, hkl, encI_eta, htk, happ, e1]
      rw [e3, Nat.add_assoc (joinI (l.take i)).length k 1]
      refine ⟨fun hj => ⟨by omega, ?_⟩, fun h1 h2 => ⟨by omega, ?_⟩⟩
      · obtain ⟨h0, h1⟩ := hx hj
        rw [IntWalk.i64_in _ (by omega)]
        refine hB2 (k + 1) _ (by omega) (by omega) ?_ (by simp [Ob.below]) (by simp) (by simp [AV.under, AV.under1])
        rw [hts, mvI_cells, if_pos (show jumpI _ from hj)]
        rfl
      · refine hB2 (k + 1) _ (by omega) (by omega) ?_ (by simp [Ob.below]) (by simp) (by simp [AV.under, AV.under1])
        rw [hts, mvI_cells, if_neg (show ¬ jumpI _ from fun h => h.elim h1 h2)]
        rfl
    · have hkk : k = l[i].length := by omega
      subst hkk
      have e1 : IntKind.i64.wrap ((i : Int) + 1) = ((i + 1 : Nat) : Int) := by rw [IntWalk.i64_in _ (by omega)]; push_cast; rfl
      have e3 : (i : Int) + 1 = ((i + 1 : Nat) : Int) := by push_cast; rfl
      have := hB (i + 1) [.mrow ((joinI (l.take i)).length + l[i].length) 7 ((joinI (l.take i) ++ l[i].map (mvI (joinI (l.take i)).length)).map encI)] (by omega) (by omega) (by rw [hsucc]; simp) (by simp [Ob.below]) (by simp) (by simp [AV.under, AV.under1])
      rw [hsucc] at this
      simp [gen_join_L2, e1]
      simpa using this
  · have hii : i = l.length := by omega
    subst hii
    simp only [List.take_length]
    exact gives_ids [0] (by simp [renF]) rfl (by simp) (by simp [framed]) (by simp [AV.under, AV.under1]) (by simp [Ob.below])

theorem join_t (l : List (List In)) (hl : (joinI l).length ≤ 1000000) (hs : ∀ p ∈ l, ∀ x ∈ p, smallI x) (hn : l.length ≤ 1000000) : Abs.Fn Try.prog gen_join_i [] [.p (.slice (l.map encPr))] (.p (encPr (joinI l))) [] := by
  have := fn_freeze (join_m l hl hs hn) (by simp)
  rwa [List.take_of_length_le (by simp)] at this

def oneI (op : List UInt8) (n : Int) : In := .mk op zeroV n
def pushI (v : Va) : In := .mk [112, 117, 115, 104] v 0

theorem one_spec (op : List UInt8) (n : Int) : Abs.Fn Try.prog gen_one_i [] [.p (.str op), .p (.int .i64 n)] (.p (encPr [oneI op n])) [] := by
  apply gen_one_fn
  simp [gen_one]
  exact gives_pure rfl

theorem push_spec (v : Va) : Abs.Fn Try.prog gen_push_i [] [.p (encV v)] (.p (encPr [pushI v])) [] := by
  obtain ⟨k, i, b, s, t⟩ := v
  apply gen_push_fn
  simp [gen_push]
  exact gives_pure (by simp [AV.pur, encPr, pushI, encI])

/-- One of two: jumps that stand where they are to. -/
def choiceI (a b c : List In) : List In :=
  a ++ oneI oJf ((a.length : Int) + 1 + b.length + 1) :: (b.map (mvI (a.length + 1)) ++ oneI oJmp (a.length + b.length + c.length + 2) :: c.map (mvI (a.length + 1 + b.length + 1)))

theorem set_at {α : Type} (X Z : List α) (y y' : α) {n : Nat} (h : n = X.length) : (X ++ y :: Z).set n y' = X ++ y' :: Z := by subst h; simp
theorem get_at {α : Type} (X Z : List α) (y d : α) {n : Nat} (h : n = X.length) : (X ++ y :: Z)[n]?.getD d = y := by subst h; simp

theorem mvI_zero (x : In) : mvI 0 x = x := by
  unfold mvI
  split
  · obtain ⟨o, v, n⟩ := x; simp
  · rfl

theorem choice_spec (a b c : List In) (hl : a.length + b.length + c.length ≤ 900000) (ha : ∀ x ∈ a, smallI x) (hb : ∀ x ∈ b, smallI x) (hc : ∀ x ∈ c, smallI x) :
    Abs.Fn Try.prog gen_choice_i [] [.p (encPr a), .p (encPr b), .p (encPr c)] (.p (encPr (choiceI a b c))) [] := by
  have hj : joinI [a, [oneI oJf 0], b, [oneI oJmp 0], c] = a ++ oneI oJf a.length :: (b.map (mvI (a.length + 1)) ++ oneI oJmp (a.length + 1 + b.length) :: c.map (mvI (a.length + 1 + b.length + 1))) := by
    have h1 : mvI a.length (oneI oJf 0) = oneI oJf a.length := by simp [mvI, jumpI, oneI]
    have h2 : ∀ n : Int, mvI n (oneI oJmp 0) = oneI oJmp n := by intro n; simp [mvI, jumpI, oneI]
    have h0 : a.map (mvI ((0 : Nat) : Int)) = a := by rw [show ((0 : Nat) : Int) = 0 from rfl, List.map_congr_left (g := id) (fun x _ => mvI_zero x)]; simp
    simp only [joinI, List.foldl_cons, List.foldl_nil, List.nil_append, List.length_nil, h0, List.map_cons, List.map_nil, h1, h2, List.length_append, List.length_cons, List.length_map]
    simp
  have hm := join_m [a, [oneI oJf 0], b, [oneI oJmp 0], c] (by rw [joinI_length]; simp; omega) (by
    intro p hp x hx
    simp at hp
    rcases hp with rfl | rfl | rfl | rfl | rfl
    · exact ha x hx
    · simp at hx; subst hx; intro _; simp [oneI]
    · exact hb x hx
    · simp at hx; subst hx; intro _; simp [oneI]
    · exact hc x hx) (by simp)
  have hlen : (joinI [a, [oneI oJf 0], b, [oneI oJmp 0], c]).length = a.length + b.length + c.length + 2 := by rw [joinI_length]; simp; omega
  rw [hlen, hj] at hm
  generalize hN : a.length + b.length + c.length + 2 = N at hm
  have e1 : IntKind.i64.wrap ((a.length : Int) + 1) = ((a.length + 1 : Nat) : Int) := by rw [IntWalk.i64_in _ (by omega)]; push_cast; rfl
  have e2 : IntKind.i64.wrap (((a.length + 1 : Nat) : Int) + b.length) = ((a.length + 1 + b.length : Nat) : Int) := by rw [IntWalk.i64_in _ (by omega)]; push_cast; rfl
  have e3 : IntKind.i64.wrap (((a.length + 1 + b.length : Nat) : Int) + 1) = ((a.length + 1 + b.length + 1 : Nat) : Int) := by rw [IntWalk.i64_in _ (by omega)]; push_cast; rfl
  apply gen_choice_fn
  simp [gen_choice]
  (first | refine aCall_fold rfl ?_ | refine aCallT_fold rfl ?_)
  (first | refine aCallU_p (one_spec _ 0) ?_ | refine aCallTU_p (one_spec _ 0) ?_ | refine aCallU_of (one_spec _ 0) ?_ | refine aCallTU_of (one_spec _ 0) rfl ?_ | refine aCallTU_of (one_spec _ 0) (by simp [AV.pur]; rfl) ?_)
  try simp
  (first | refine aCall_fold rfl ?_ | refine aCallT_fold rfl ?_)
  (first | refine aCallU_p (one_spec _ 0) ?_ | refine aCallTU_p (one_spec _ 0) ?_ | refine aCallU_of (one_spec _ 0) ?_ | refine aCallTU_of (one_spec _ 0) rfl ?_ | refine aCallTU_of (one_spec _ 0) (by simp [AV.pur]; rfl) ?_)
  try simp
  refine ⟨rfl, rfl, rfl, rfl, rfl, ?_⟩
  refine aCallW_of rfl rfl hm ?_
  simp [encPr]
  intro _ _ _
  have w1 : IntKind.i64.wrap ((a.length : Int) + 1) = (a.length : Int) + 1 := IntWalk.i64_in _ (by omega)
  have w2 : IntKind.i64.wrap ((a.length : Int) + 1 + b.length) = (a.length : Int) + 1 + b.length := IntWalk.i64_in _ (by omega)
  have w3 : IntKind.i64.wrap ((a.length : Int) + 1 + b.length + 1) = (a.length : Int) + 1 + b.length + 1 := IntWalk.i64_in _ (by omega)
  have w4 : ((a.length : Int) + 1 + b.length).toNat = a.length + 1 + b.length := by omega
  simp only [w1, w2, w3, w4]
  refine ⟨by omega, ⟨by omega, by omega⟩, by omega, ?_⟩
  have hsplit : ∀ (X Y Z : List T) (p q : T), X ++ p :: (Y ++ q :: Z) = (X ++ p :: Y) ++ q :: Z := by intros; simp
  rw [hsplit, get_at _ _ _ _ (by simp; omega), set_at _ _ _ _ (by simp; omega)]
  have hes : ∀ es : List T, es.length = N → es = (choiceI a b c).map encI → Gives 0 (.msl 0 N 7 0 N) [.mrow N 7 es] (.p (.slice ((choiceI a b c).map encI))) [] := by
    intro es h1 h2
    refine gives_freeze (id := 0) rfl ?_
    simp only [AV.unm, AV.unm1]
    rw [if_pos ⟨trivial, trivial, by omega⟩, List.drop_zero, List.take_of_length_le (by omega), h2]
    exact gives_pure rfl
  refine hes _ (by simp; omega) ?_
  simp only [choiceI, List.map_append, List.map_cons, List.map_map, List.append_assoc, List.cons_append]
  rw [← hN]
  simp [encI_eta, oneI]

end Go.Proofs.Ytjendohiohhciaa
