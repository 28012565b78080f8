/- The package ver over trees: what instructions take, let out, put on the stack. -/
import Derived.Test.YtgfnodmghaghpaaGreatDoorZSpBudTQ
import Derived.Test.YtgfnodmghaghpaaGreatDoorZSpCodeC
import Derived.Test.YtgfnodmghaghpaaGreatDoorZSpValBQ
import Derived.Test.YtgfnodmghaghpaaGreatDoorZPuVerLQ
set_option linter.unusedSimpArgs false
set_option linter.unusedVariables false
namespace Go.Proofs.YtgfnodmghaghpaaGreatDoor
open Go Go.Abs

attribute [local irreducible] Abs.Fn

theorem arity_spec (x : In) : Abs.Fn Tryz.prog ver_arity_i [] [.p (encI x)] (.p (.int .i64 (tkN x.op x.n))) [] := by
  apply ver_arity_fn
  simp [ver_arity, encI_eta]
  refine ⟨fun h => gives_p ?_, fun a1 a2 a3 a4 => ⟨fun h => gives_p ?_, fun b1 b2 => ⟨fun h => gives_p ?_, fun c1 c2 c3 c4 c5 => gives_p ?_⟩⟩⟩
  · rw [tkN, if_pos (show x.op = oPush ∨ x.op = oX ∨ x.op = oJmp ∨ x.op = oRet' from h)]
  all_goals
    have n1 : ¬ (x.op = oPush ∨ x.op = oX ∨ x.op = oJmp ∨ x.op = oRet') := by
      rintro (h | h | h | h)
      · exact a1 h
      · exact a2 h
      · exact a3 h
      · exact a4 h
  · rw [tkN, if_neg n1, if_pos (show x.op = oTup ∨ x.op = oEmit' from h)]
  all_goals
    have n2 : ¬ (x.op = oTup ∨ x.op = oEmit') := by
      rintro (h | h)
      · exact b1 h
      · exact b2 h
  · rw [tkN, if_neg n1, if_neg n2, if_pos (show x.op = oAt ∨ x.op = oNeg ∨ x.op = oNot ∨ x.op = oLen ∨ x.op = oJf from h)]
  · have n3 : ¬ (x.op = oAt ∨ x.op = oNeg ∨ x.op = oNot ∨ x.op = oLen ∨ x.op = oJf) := by
      rintro (h | h | h | h | h)
      · exact c1 h
      · exact c2 h
      · exact c3 h
      · exact c4 h
      · exact c5 h
    rw [tkN, if_neg n1, if_neg n2, if_neg n3]

theorem alikeV_spec (l : List Ty) : Abs.Fn Tryz.prog ver_alike_i [] [.p (.slice (l.map encT))] (.p (.bool (l.all fun t => sameT t (l.getD 0 (.mk 0 []))))) [] := by
  obtain ⟨p, hp⟩ : ∃ p : Ty → Bool, (fun t => sameT t (l.getD 0 (.mk 0 []))) = p := ⟨_, rfl⟩
  have hpi : ∀ (h : 0 < l.length) (t : Ty), p t = sameT t l[0] := by
    intro h t
    rw [← hp]
    simp [List.getD_eq_getElem?_getD, h]
  rw [hp]
  clear hp
  apply ver_alike_fn
  simp [ver_alike]
  intro hl
  refine loop_by (σ := Nat) (n := 0) (fun i => [.p (.int .i64 i)]) (fun _ => []) (fun i => i ≤ l.length ∧ (l.drop i).all p = l.all p) (fun i => l.length - i) [] 0 (fun _ => rfl) ⟨rfl, rfl⟩ (by simp) (fun i B hi hB => ?_)
  obtain ⟨h1, h2⟩ := hi
  generalize l.all p = A at *
  simp [ver_alike_L1]
  refine ⟨fun hlt => ?_, fun hge => ?_⟩
  · have h0 : 0 < l.length := by omega
    rw [List.drop_eq_getElem_cons hlt, List.all_cons, hpi h0] at h2
    simp [hlt, h0]
    (first | refine aCall_fold rfl ?_ | refine aCallT_fold rfl ?_)
    (first | refine aCallU_p (same_spec l[i] l[0]) ?_ | refine aCallTU_p (same_spec l[i] l[0]) ?_ | refine aCallU_of (same_spec l[i] l[0]) ?_ | refine aCallTU_of (same_spec l[i] l[0]) rfl ?_ | refine aCallTU_of (same_spec l[i] l[0]) (by simp [AV.pur]; rfl) ?_)
    try simp
    refine ⟨fun hz => gives_p (by rw [← h2, hz]; rfl), fun hz => ?_⟩
    rw [hz, Bool.true_and] at h2
    rw [IntWalk.i64_in _ (by simp [maxLen] at hl; omega)]
    exact hB (i + 1) _ ⟨by omega, h2⟩ (by omega) (by simp) (by simp [Ob.below, AV.under1]) (by simp) (by simp [AV.under, AV.under1])
  · rw [List.drop_of_length_le hge] at h2
    exact gives_p (by rw [← h2]; rfl)

@[simp ↓] theorem aBin_neq_nil {b : Bool} {K : AV → Prop} : aBin b true .neq (.p (.raw (.pointer none))) (.p (.raw (.pointer none))) K = (true = true ∧ K (.p (.bool false))) := rfl
@[simp ↓] theorem aBin_eql_nil {b : Bool} {K : AV → Prop} : aBin b true .eql (.p (.raw (.pointer none))) (.p (.raw (.pointer none))) K = (true = true ∧ K (.p (.bool true))) := rfl
@[simp ↓] theorem aBin_neq_imm {b : Bool} {cs : List T} {o : Nat} {K : AV → Prop} : aBin b true .neq (.p (.imm cs o)) (.p (.raw (.pointer none))) K = (true = true ∧ K (.p (.bool true))) := rfl
@[simp ↓] theorem aBin_eql_imm {b : Bool} {cs : List T} {o : Nat} {K : AV → Prop} : aBin b true .eql (.p (.imm cs o)) (.p (.raw (.pointer none))) K = (true = true ∧ K (.p (.bool false))) := rfl

/-- What is let out: nothing yet, a type. -/
def outV : Option Ty → T
  | none => .raw (.pointer none)
  | some t => .imm [.int .i64 t.kind, .slice (t.of.map encT)] 0
def cBox (p : List In) (inn : Ty) (n : Nat) (out : Option Ty) : List AV := [.p (.slice (p.map encI)), .p (.int .i64 inn.kind), .p (.slice (inn.of.map encT)), .msl 1 0 1 0 n, .p (outV out)]
def CHv (p : List In) (inn : Ty) (ws : List T) (out : Option Ty) : List Ob := [.box (cBox p inn ws.length out), .mrow 0 1 ws]

def emitsV (out : Option Ty) (l : List Ty) : Option Ty × Int :=
  match l with
  | [] => (out, 0)
  | t :: r => if (t :: r).all (fun u => sameT u t) = false then (out, 5) else match out with
    | some u => if sameT u t = false then (out, 5) else (some t, 0)
    | none => (some t, 0)

theorem emitsV_spec (p : List In) (inn : Ty) (ws : List T) (out : Option Ty) (l : List Ty) : Abs.Fn Tryz.prog ver_checker_emits_i (CHv p inn ws out) [.bptr 0 0, .p (.slice (l.map encT))] (.p (.int .i64 (emitsV out l).2)) (CHv p inn ws (emitsV out l).1) := by
  have ha := alikeV_spec l
  apply ver_checker_emits_fnH
  have fin : ∀ (e : Int) (o : Option Ty), Gives 2 (.p (.int .i64 e)) [.box [.p (.slice (p.map encI)), .p (.int .i64 inn.kind), .p (.slice (inn.of.map encT)), .msl 1 0 1 0 ws.length, .p (outV o)], .mrow 0 1 ws] (.p (.int .i64 e)) [.box [.p (.slice (p.map encI)), .p (.int .i64 inn.kind), .p (.slice (inn.of.map encT)), .msl 1 0 1 0 ws.length, .p (outV o)], .mrow 0 1 ws] := fun e o =>
    gives_ids [0, 1] (by simp [renF]) rfl (by simp) (by simp [framed, renF]) (by simp [AV.under, AV.under1]) (by simp [Ob.below, AV.under1])
  simp [ver_checker_emits, CHv, cBox]
  intro _
  cases l with
  | nil =>
    simp
    exact fin 0 out
  | cons t r =>
    simp at ha ⊢
    refine aCallT_of rfl ha rfl ?_
    cases hall : (t :: r).all (fun u => sameT u t) with
    | false =>
      have e1 : emitsV out (t :: r) = (out, 5) := by simp only [emitsV, hall, if_true]
      rw [e1]
      simp only [List.all_cons] at hall
      simp [hall, CHv, cBox]
      exact fin 5 out
    | true =>
      simp only [List.all_cons] at hall
      cases out with
      | none =>
        have e1 : emitsV none (t :: r) = (some t, 0) := by simp only [emitsV, List.all_cons, hall]; rfl
        rw [e1]
        simp [hall, outV, CHv, cBox]
        exact fin 0 (some t)
      | some u =>
        have hs := same_spec u t
        simp only [encT_eta] at hs
        simp [hall, outV, CHv, cBox]
        refine aCallT_of rfl hs rfl ?_
        simp [hall, outV, CHv, cBox]
        have e1 : emitsV (some u) (t :: r) = if sameT u t = false then (some u, 5) else (some t, 0) := by simp only [emitsV, List.all_cons, hall]; rfl
        rw [e1]
        refine ⟨fun hz => ?_, fun hz => ?_⟩
        · rw [if_pos hz]
          exact fin 5 (some u)
        · rw [if_neg (by simp [hz])]
          exact fin 0 (some t)

/-- What an instruction puts on the stack. -/
def comesV (inn : Ty) (x : In) (l : List Ty) (out : Option Ty) : (List Ty × Int) × Option Ty :=
  if x.op = oPush then (([typeOfV x.v], 0), out)
  else if x.op = oX then (([inn], 0), out)
  else if x.op = oJmp ∨ x.op = oRet' then (([], 0), out)
  else if x.op = oJf then (([], if (l.getD 0 (.mk 0 [])).kind ≠ 2 then 5 else 0), out)
  else if x.op = oEmit' then (([], (emitsV out l).2), (emitsV out l).1)
  else (([(opT x.op x.n l).get (.mk 0 [])], (opT x.op x.n l).num), out)

set_option maxHeartbeats 1000000 in
theorem comesV_spec (p : List In) (inn : Ty) (ws : List T) (out : Option Ty) (x : In) (l : List Ty) (hw : checkV x.v 0 = 0 → Wv 1000000000 x.v) (hj : x.op = oJf → 0 < l.length) (hl : l.length ≤ 100000)
    (ho : x.op ≠ oPush → x.op ≠ oX → ¬ (x.op = oJmp ∨ x.op = oRet') → x.op ≠ oJf → x.op ≠ oEmit' → x.op ≠ oLit ∧ (∃ s, lookS x.op shL = some s ∧ ArOk' s l.length) ∧ ∀ t ∈ l, checkT t 0 = 0) :
    Abs.Fn Tryz.prog ver_checker_comes_i (CHv p inn ws out) [.bptr 0 0, .p (encI x), .p (.slice (l.map encT))] (.tup [.p (.slice ((comesV inn x l out).1.1.map encT)), .p (.int .i64 (comesV inn x l out).1.2)]) (CHv p inn ws (comesV inn x l out).2) := by
  have fin : ∀ (m : AV) (ts : List Ty) (e : Int) (o : Option Ty) (Y : List Ob), treeA m = .p (.slice (ts.map encT)) → Gives 2 (.tup [m, .p (.int .i64 e)]) ([.box [.p (.slice (p.map encI)), .p (.int .i64 inn.kind), .p (.slice (inn.of.map encT)), .msl 1 0 1 0 ws.length, .p (outV o)], .mrow 0 1 ws] ++ Y) (.tup [.p (.slice (ts.map encT)), .p (.int .i64 e)]) [.box [.p (.slice (p.map encI)), .p (.int .i64 inn.kind), .p (.slice (inn.of.map encT)), .msl 1 0 1 0 ws.length, .p (outV o)], .mrow 0 1 ws] := by
    intro m ts e o Y hm
    refine gives_tup ?_
    simp only [List.map_cons, List.map_nil, hm]
    exact gives_ids [0, 1] (by simp [renF, treeA]) rfl (by simp) (by simp [framed, renF]) (by simp [AV.under, AV.under1]) (by simp [Ob.below, AV.under1])
  have fin1 : ∀ (t : Ty) (e : Int) (o : Option Ty) (Y : List Ob), Gives 2 (.tup [.full [T.agg [.int .i64 t.kind, .slice (t.of.map encT)]], .p (.int .i64 e)]) ([.box [.p (.slice (p.map encI)), .p (.int .i64 inn.kind), .p (.slice (inn.of.map encT)), .msl 1 0 1 0 ws.length, .p (outV o)], .mrow 0 1 ws] ++ Y) (.tup [.p (.slice [T.agg [.int .i64 t.kind, .slice (t.of.map encT)]]), .p (.int .i64 e)]) [.box [.p (.slice (p.map encI)), .p (.int .i64 inn.kind), .p (.slice (inn.of.map encT)), .msl 1 0 1 0 ws.length, .p (outV o)], .mrow 0 1 ws] := by
    intro t e o Y
    have f := fin (.full [T.agg [.int .i64 t.kind, .slice (t.of.map encT)]]) [t] e o Y (by simp [treeA, AV.toT])
    simpa only [List.map_cons, List.map_nil, encT_eta] using f
  have hto := TypeOfv_spec x.v hw
  have hem := emitsV_spec p inn ws out l
  simp only [encV_eta] at hto
  apply ver_checker_comes_fnH
  simp [ver_checker_comes, CHv, cBox, encI_eta]
  refine ⟨fun h => ?_, fun n1 => ⟨fun h => ?_, fun n2 => ⟨fun h => ?_, fun n3 n4 => ⟨fun h => ?_, fun n5 => ⟨fun h => ?_, fun n6 => ?_⟩⟩⟩⟩⟩
  · have e : comesV inn x l out = (([typeOfV x.v], 0), out) := by rw [comesV, if_pos (show x.op = oPush from h)]
    rw [e]
    refine aCallW_of rfl rfl hto ?_
    simp [CHv, cBox]
    exact fin1 (typeOfV x.v) 0 out [_]
  · have e : comesV inn x l out = (([inn], 0), out) := by rw [comesV, if_neg (show ¬ x.op = oPush from n1), if_pos (show x.op = oX from h)]
    rw [e]
    exact fin (.full [_]) [inn] 0 out _ (by simp [treeA, AV.toT])
  · have e : comesV inn x l out = (([], 0), out) := by rw [comesV, if_neg (show ¬ x.op = oPush from n1), if_neg (show ¬ x.op = oX from n2), if_pos (show x.op = oJmp ∨ x.op = oRet' from h)]
    rw [e]
    exact fin (.full []) [] 0 out [_] rfl
  · have m3 : ¬ (x.op = oJmp ∨ x.op = oRet') := fun h => by
      rcases h with h | h
      · exact n3 h
      · exact n4 h
    have e : comesV inn x l out = (([], if (l.getD 0 (.mk 0 [])).kind ≠ 2 then 5 else 0), out) := by rw [comesV, if_neg (show ¬ x.op = oPush from n1), if_neg (show ¬ x.op = oX from n2), if_neg m3, if_pos (show x.op = oJf from h)]
    rw [e]
    match l, hj h with
    | t :: r, _ =>
      simp
      refine ⟨fun hz => ?_, fun hz => ?_⟩
      · rw [if_neg hz]
        exact fin (.full []) [] 5 out [_] rfl
      · rw [if_pos hz]
        exact fin (.full []) [] 0 out [_] rfl
  all_goals
    have m3 : ¬ (x.op = oJmp ∨ x.op = oRet') := fun h => by
      rcases h with h | h
      · exact n3 h
      · exact n4 h
  · have e : comesV inn x l out = (([], (emitsV out l).2), (emitsV out l).1) := by rw [comesV, if_neg (show ¬ x.op = oPush from n1), if_neg (show ¬ x.op = oX from n2), if_neg m3, if_neg (show ¬ x.op = oJf from n5), if_pos (show x.op = oEmit' from h)]
    rw [e]
    simp only [CHv, cBox] at hem
    refine aCallF_of [0, 1] hem rfl (by simp [renF]) (by simp) (by simp [framed, renF]) (by simp [AV.under, AV.under1]) (by simp [Ob.below, AV.under1]) ?_
    simp [renF, frameH, setAll]
    exact fin (.full []) [] _ _ [_] rfl
  · have e : comesV inn x l out = (([(opT x.op x.n l).get (.mk 0 [])], (opT x.op x.n l).num), out) := by rw [comesV, if_neg (show ¬ x.op = oPush from n1), if_neg (show ¬ x.op = oX from n2), if_neg m3, if_neg (show ¬ x.op = oJf from n5), if_neg (show ¬ x.op = oEmit' from n6)]
    rw [e]
    obtain ⟨o1, ⟨s, o2, o3⟩, o4⟩ := ho n1 n2 m3 n5 n6
    have ht := Types4_spec x.op x.n l s o2 o1 n2 o3 o4 (by omega)
    refine aCallW_of rfl rfl ht ?_
    simp [tyR, CHv, cBox]
    exact fin1 ((opT x.op x.n l).get (.mk 0 [])) _ out [_, _]

end Go.Proofs.YtgfnodmghaghpaaGreatDoor

