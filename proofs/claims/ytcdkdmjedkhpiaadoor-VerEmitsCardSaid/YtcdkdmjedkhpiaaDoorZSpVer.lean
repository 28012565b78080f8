/- The document's look at a program, over trees. -/
import Derived.Test.YtcdkdmjedkhpiaaDoorZPuVer
import Derived.Test.YtcdkdmjedkhpiaaDoorZSpRunR
import Derived.Test.YtcdkdmjedkhpiaaDoorS3
set_option linter.unusedSimpArgs false
set_option linter.unusedVariables false
namespace Go.Proofs.YtcdkdmjedkhpiaaDoor
open Go Go.Abs

/-- A slot as a tree. -/
def treeA (x : AV) : AV := match x.toT with
  | some t => .p t
  | none => x
theorem tree_rep {G : Gh} {x : AV} {v : Value} (h : RepA G x v) : RepA G (treeA x) v := by
  unfold treeA
  split
  · rename_i t ht
    exact .p _ _ (h.toT ht)
  · exact h
theorem callDoes_treeA {P : Program} {fv : AV} {args : List AV} {r : AV} {H H' : List Ob} (h : CallDoes P fv (args.map treeA) r H H') : CallDoes P fv args r H H' := by
  intro w G u vs hi rf rl
  refine h w G u vs hi rf ⟨by simpa using rl.1, fun j x hj => ?_⟩
  simp only [List.getElem?_map, Option.map_eq_some_iff] at hj
  obtain ⟨y, hy, rfl⟩ := hj
  exact tree_rep (rl.2 j y hy)
/-- A call over a few objects; its arguments are trees where they may be. -/
theorem aCallN_of {P : Program} {H : List Ob} {c : Cont} {fv : AV} {args caps args0 : List AV} {f : Nat} {r : AV} {Hin Hout : List Ob} (ids : List Nat) (h : Abs.Fn P f Hin args0 r Hout) (hc : capsOf fv = some (f, caps)) (ha : args.map treeA ++ caps = args0.map (AV.ren (renF H ids))) (hnd : ids.Nodup)
    (hf : framed (renF H ids) H ids Hin) (hu : args0.all (AV.under ids.length) = true) (hb : Hin.all (Ob.below ids.length) = true) (hk : c.k (r.ren (renF H ids)) (frameH H ids (Hout.map (Ob.ren (renF H ids))))) : aCallW P fv args H :=
  ⟨_, _, callDoes_treeA (callDoes_frame ids hc h ha hnd hf hu hb), hk⟩

attribute [local irreducible] Abs.Fn

theorem OpsR_spec : Abs.Fn Tryd.prog runnelref14_Ops_i [] [] (.p (.slice (opsAll.map .str))) [] := by
  apply runnelref14_Ops_fn
  simp [runnelref14_Ops]
  exact gives_pure rfl

def numFrom (op : List UInt8) : Nat → List (List UInt8) → Nat
  | _, [] => 0
  | i, x :: r => if x = op then i + 1 else numFrom op (i + 1) r
theorem numFrom_zero (op : List UInt8) : ∀ (l : List (List UInt8)) (i : Nat), numFrom op i l = 0 ↔ op ∉ l
  | [], i => by simp [numFrom]
  | x :: r, i => by
    simp only [numFrom]
    by_cases h : x = op
    · rw [if_pos h]; simp [h]
    · rw [if_neg h, numFrom_zero op r]
      have h' : ¬ op = x := fun e => h e.symm
      simp [h']

theorem number_spec14 (op : List UInt8) : Abs.Fn Tryd.prog runnelref14_number_i [] [.p (.str op)] (.p (.int .i64 (numFrom op 0 opsAll))) [] := by
  apply runnelref14_number_fn
  simp [runnelref14_number]
  refine aCallW_of rfl rfl OpsR_spec ?_
  have hol : opsAll.length = 19 := rfl
  refine loop_by (σ := Nat) (n := 0) (fun i => [.p (.int .i64 i)]) (fun _ => []) (fun i => i ≤ opsAll.length ∧ numFrom op i (opsAll.drop i) = numFrom op 0 opsAll) (fun i => opsAll.length - i) [] 0 (fun _ => rfl) (by simp [ghosts]) ⟨by simp, rfl⟩ (fun i B hi hB => ?_)
  obtain ⟨h1, h2⟩ := hi
  have w1 : IntKind.i64.wrap ((i : Int) + 1) = (i : Int) + 1 := IntWalk.i64_in _ (by omega)
  have hom : opsAll.length ≤ maxLen := by rw [hol]; simp [maxLen]
  simp [runnelref14_number_L1, w1, hom]
  refine ⟨fun hlt => ?_, fun hge => ?_⟩
  · rw [List.drop_eq_getElem_cons hlt] at h2
    simp only [numFrom] at h2
    simp [hlt, List.getElem?_eq_getElem hlt]
    refine ⟨fun he => ?_, fun he => ?_⟩
    · rw [if_pos he] at h2
      rw [← h2]
      exact gives_p (by simp)
    · rw [if_neg he] at h2
      have := hB (i + 1) [] ⟨by omega, h2⟩ (by omega) (by simp) (by simp) (by simp) (by simp [AV.under, AV.under1])
      simpa using this
  · have : i = opsAll.length := by omega
    subst this
    simp only [List.drop_length, numFrom] at h2
    rw [← h2]
    exact gives_p (by simp)

theorem counted_spec14 (op : List UInt8) : Abs.Fn Tryd.prog runnelref14_counted_i [] [.p (.str op)] (.p (.bool (cntI op))) [] := by
  apply runnelref14_counted_fn
  simp [runnelref14_counted]
  exact gives_p (congrArg T.bool (by rw [Bool.eq_iff_iff]; simp only [cntI, decide_eq_true_eq]; simp [oJmp, oJf, or_assoc]))

theorem nought_spec14 (v : Va) : Abs.Fn Tryd.prog runnelref14_nought_i [] [.p (encV v)] (.p (.bool (decide (cmpV v zeroV = 0)))) [] := by
  apply runnelref14_nought_fn
  simp [runnelref14_nought]
  exact gives_p (congrArg T.bool (by
    obtain ⟨k, i, b, s, t⟩ := v
    rw [Bool.eq_iff_iff]
    simp [cmpV_zero, and_assoc]))

theorem inst_spec14 (p : List In) (i : Nat) (hi : i < p.length) (hl : p.length ≤ 1000000) : Abs.Fn Tryd.prog runnelref14_inst_i [] [.p (.slice (p.map encI)), .p (.int .i64 i)] (.p (.int .i64 (instE p.length i p[i]))) [] := by
  have hn := number_spec14 p[i].op
  have hk := numFrom_zero p[i].op opsAll 0
  generalize numFrom p[i].op 0 opsAll = k at hn hk
  have hc := counted_spec14 p[i].op
  have ho := nought_spec14 p[i].v
  have hv := CheckValue_spec p[i].v
  simp only [encV_eta] at ho hv
  have lm : p.length ≤ maxLen := Nat.le_trans hl (by simp only [maxLen]; omega)
  apply runnelref14_inst_fn
  simp [runnelref14_inst, hi, List.getElem?_eq_getElem hi, encI_eta, lm]
  refine aCallW_of rfl rfl hn ?_
  simp
  refine ⟨fun hz => ?_, fun hz => ?_⟩
  · have : instE p.length i p[i] = 6 := by unfold instE; rw [if_pos (hk.1 (by omega))]
    rw [this]
    exact gives_p rfl
  have hin : ¬ (p[i].op ∉ opsAll) := fun h => hz (by have := hk.2 h; omega)
  refine aCallW_of rfl rfl hc ?_
  simp
  have hbb : ((!cntI p[i].op && !decide (p[i].n = 0)) || (!decide (p[i].op = [112, 117, 115, 104]) && !decide (cmpV p[i].v zeroV = 0))) = true ↔ (cntI p[i].op = false ∧ p[i].n ≠ 0) ∨ (p[i].op ≠ oPush ∧ cmpV p[i].v zeroV ≠ 0) := by
    simp only [Bool.or_eq_true, Bool.and_eq_true, Bool.not_eq_true', decide_eq_false_iff_not, ne_eq]
  generalize (!cntI p[i].op && !decide (p[i].n = 0)) = A at hbb ⊢
  generalize decide (cmpV p[i].v zeroV = 0) = Z at hbb ho
  generalize hB : (!decide (p[i].op = [112, 117, 115, 104])) = B at hbb ⊢
  refine aMerge_intro (B && !Z) (fun hA' => aMerge_intro (!Z) (fun hB' => ?_) (by simp)) ?_
  · refine aCallW_of rfl rfl ho ?_
    simp
  simp only [cond_false]
  generalize (A || (B && !Z)) = bb at hbb ⊢
  have hI : instE p.length i p[i] = if (cntI p[i].op = false ∧ p[i].n ≠ 0) ∨ (p[i].op ≠ oPush ∧ cmpV p[i].v zeroV ≠ 0) then 1
      else if p[i].op = oPush then checkV p[i].v 0
      else if p[i].op = oAt then (if p[i].n < 0 then 1 else 0)
      else if p[i].op = oTup then (if p[i].n < 1 ∨ 8 < p[i].n then 1 else 0)
      else if p[i].op = oEmit' then (if p[i].n < 0 ∨ 4 < p[i].n then 1 else 0)
      else if p[i].op = oJmp ∨ p[i].op = oJf then (if p[i].n ≤ i ∨ (p.length : Int) ≤ p[i].n then 1 else 0)
      else 0 := by unfold instE; rw [if_neg hin]
  rw [hI]
  cases bb with
  | true =>
    simp only [if_pos (hbb.1 rfl)]
    simp
    exact gives_p rfl
  | false =>
    have hno : ¬ ((cntI p[i].op = false ∧ p[i].n ≠ 0) ∨ (p[i].op ≠ oPush ∧ cmpV p[i].v zeroV ≠ 0)) := fun h => absurd (hbb.2 h) (by simp)
    rw [if_neg hno]
    simp
    refine ⟨fun h1 => ?_, fun h1 => ⟨fun h2 => ⟨fun h => ?_, fun h => ?_⟩, fun h2 => ⟨fun h3 => ⟨fun h => ?_, fun h h' => ?_⟩, fun h3 => ⟨fun h4 => ⟨fun h => ?_, fun h h' => ?_⟩, fun h4 => ⟨fun h5 => ⟨fun h => ?_, fun h h' => ?_⟩, fun h5 h6 => ?_⟩⟩⟩⟩⟩
    · refine aCallW_of rfl rfl hv ?_
      exact gives_p (by rw [if_pos (show p[i].op = oPush from h1)])
    all_goals rw [if_neg (show ¬ p[i].op = oPush from h1)]
    · rw [if_pos (show p[i].op = oAt from h2), if_pos h]; exact gives_p rfl
    · rw [if_pos (show p[i].op = oAt from h2), if_neg (by omega)]; exact gives_p rfl
    all_goals rw [if_neg (show ¬ p[i].op = oAt from h2)]
    · rw [if_pos (show p[i].op = oTup from h3), if_pos h]; exact gives_p rfl
    · rw [if_pos (show p[i].op = oTup from h3), if_neg (by omega)]; exact gives_p rfl
    all_goals rw [if_neg (show ¬ p[i].op = oTup from h3)]
    · rw [if_pos (show p[i].op = oEmit' from h4), if_pos h]; exact gives_p rfl
    · rw [if_pos (show p[i].op = oEmit' from h4), if_neg (by omega)]; exact gives_p rfl
    all_goals rw [if_neg (show ¬ p[i].op = oEmit' from h4)]
    · rw [if_pos (show p[i].op = oJmp ∨ p[i].op = oJf from h5), if_pos h]; exact gives_p rfl
    · rw [if_pos (show p[i].op = oJmp ∨ p[i].op = oJf from h5), if_neg (by omega)]; exact gives_p rfl
    · rw [if_neg (show ¬ (p[i].op = oJmp ∨ p[i].op = oJf) from fun h => h.elim h5 h6)]; exact gives_p rfl

theorem check_spec14 (p : List In) (hl : p.length ≤ 1000000) : Abs.Fn Tryd.prog runnelref14_Check_i [] [.p (.slice (p.map encI))] (.tup [.p (.int .i64 (checkP p).1), .p (.int .i64 (checkP p).2)]) [] := by
  have c0 : p = [] → checkP p = (0, 3) := fun h => by subst h; rfl
  have c1 : p ≠ [] → 4096 < p.length → checkP p = (0, 10) := fun h h' => by unfold checkP; rw [if_neg (by omega), if_pos h']
  have c2 : p ≠ [] → ¬ 4096 < p.length → checkP p = ckI p.length 0 p := fun h h' => by
    unfold checkP; rw [if_neg (fun e => h (List.eq_nil_of_length_eq_zero e)), if_neg h']
  generalize checkP p = c at *
  apply runnelref14_Check_fn
  simp [runnelref14_Check]
  intro hml
  refine ⟨fun h => ?_, fun h0 _ => ⟨fun h => ?_, fun h1 => ?_⟩⟩
  · rw [c0 h]
    exact gives_pure (by simp [AV.pur, toTs])
  · rw [c1 h0 (by omega)]
    exact gives_pure (by simp [AV.pur, toTs])
  · rw [c2 h0 (by omega)]
    refine loop_by (σ := Nat) (n := 0) (fun i => [.p (.int .i64 i)]) (fun i => []) (fun i => i ≤ p.length ∧ ckI p.length i (p.drop i) = ckI p.length 0 p) (fun i => p.length - i) [] 0 (fun _ => rfl) (by simp [ghosts]) (by simp) (fun i B hi hB => ?_)
    obtain ⟨g1, g2⟩ := hi
    simp [runnelref14_Check_L1, hml]
    refine ⟨fun hlt => ?_, fun hge => ?_⟩
    · rw [List.drop_eq_getElem_cons hlt, ckI] at g2
      have hin := inst_spec14 p i hlt hl
      refine aCallW_of rfl rfl hin ?_
      simp
      refine ⟨fun hz => ?_, fun hz => ?_⟩
      · rw [if_pos hz] at g2
        rw [← g2]
        exact gives_pure (by simp [AV.pur, toTs])
      · rw [if_neg (by simpa using hz)] at g2
        rw [IntWalk.i64_in _ (by omega)]
        exact hB (i + 1) _ ⟨by omega, g2⟩ (by omega) (by simp) (by simp) (by simp) (by simp [AV.under, AV.under1])
    · rw [List.drop_of_length_le hge, ckI] at g2
      rw [← g2]
      exact gives_pure (by simp [AV.pur, toTs])

theorem sameTs_drop14 (a b : List Ty) (i : Nat) (ha : i < a.length) (hb : i < b.length) : sameTs (a.drop i) (b.drop i) = (sameT a[i] b[i] && sameTs (a.drop (i + 1)) (b.drop (i + 1))) := by
  rw [List.drop_eq_getElem_cons ha, List.drop_eq_getElem_cons hb]
  simp [sameTs]
theorem sameTs_len14 {a b : List Ty} (h : a.length ≠ b.length) : sameTs a b = false := by
  rw [Bool.eq_false_iff]
  intro e
  exact h (by rw [(sameTs_iff _ _).1 e])

theorem sameStack_spec (a b : List Ty) : Abs.Fn Tryd.prog runnelref14_sameStack_i [] [.p (.slice (a.map encT)), .p (.slice (b.map encT))] (.p (.bool (sameTs a b))) [] := by
  apply runnelref14_sameStack_fn
  simp [runnelref14_sameStack]
  intro hma hmb
  refine ⟨fun h => gives_p (by rw [sameTs_len14 (by omega)]), fun hl => ?_⟩
  refine loop_by (σ := Nat) (n := 0) (fun i => [.p (.int .i64 i)]) (fun _ => []) (fun i => i ≤ a.length ∧ sameTs (a.drop i) (b.drop i) = sameTs a b) (fun i => a.length - i) [] 0 (fun _ => rfl) (by simp [ghosts]) (by simp) (fun i B hi hB => ?_)
  obtain ⟨h1, h2⟩ := hi
  simp [runnelref14_sameStack_L1, hma]
  refine ⟨fun hlt => ?_, fun hge => ?_⟩
  · have hib : i < b.length := by omega
    have hd := sameTs_drop14 a b i hlt hib
    rw [h2] at hd
    have hs := sameType_spec a[i] b[i]
    simp only [encT_eta] at hs
    simp [hlt, hib]
    refine aCallT_of rfl hs rfl ?_
    simp
    refine ⟨fun hz => gives_p (by rw [hd, hz]; rfl), fun hz => ?_⟩
    rw [IntWalk.i64_in _ (by simp [maxLen] at *; omega)]
    exact hB (i + 1) _ ⟨by omega, by rw [hd, hz]; rfl⟩ (by omega) (by simp) (by simp) (by simp) (by simp [AV.under, AV.under1])
  · have : i = a.length := by omega
    subst this
    have hb : b.length = a.length := by omega
    rw [List.drop_length, ← hb, List.drop_length] at h2
    exact gives_p (by rw [← h2]; rfl)

/-- A look's objects. -/
def lkW (st : LkSt) : List T := st.ways.map fun s => .slice (s.map encT)
def lkK (st : LkSt) : List T := st.kn.map .bool
theorem lkW_st (st : LkSt) (o : Ty) : lkW { st with out := o } = lkW st := rfl
theorem lkK_st (st : LkSt) (o : Ty) : lkK { st with out := o } = lkK st := rfl
abbrev LKH (st : LkSt) : List Ob := [.box [.msl 1 0 1 0 st.ways.length, .msl 2 0 1 0 st.kn.length, .p (.int .i64 st.out.kind), .p (.slice (st.out.of.map encT))], .mrow 0 1 (lkW st), .mrow 0 1 (lkK st)]

theorem lead_spec14 (st : LkSt) (to n : Nat) (s : List Ty) (ho : OkSt n st) (hto : to < n) (hn : n ≤ 1000000) (hs : s.length ≤ 100000) : Abs.Fn Tryd.prog runnelref14_Look_lead_i (LKH st) [.bptr 0 0, .p (.int .i64 to), .p (.slice (s.map encT))] (.p (.int .i64 (leadT st to s).1)) (LKH (leadT st to s).2) := by
  obtain ⟨o1, o2⟩ := ho
  apply runnelref14_Look_lead_fnH
  have hK : (lkK st)[to]? = some (.bool (st.kn.getD to false)) := by
    simp [lkK, List.getD_eq_getElem?_getD, show to < st.kn.length by omega]
  have hW : (lkW st)[to]? = some (.slice ((st.ways.getD to []).map encT)) := by
    simp [lkW, List.getD_eq_getElem?_getD, show to < st.ways.length by omega]
  have lK : (lkK st).length = n := by simp [lkK, o2]
  have lW : (lkW st).length = n := by simp [lkW, o1]
  have hK' : ∀ h : to < (lkK st).length, (lkK st)[to]'h = .bool (st.kn.getD to false) := fun h => by rw [List.getElem?_eq_getElem h] at hK; exact Option.some.inj hK
  have hW' : ∀ h : to < (lkW st).length, (lkW st)[to]'h = .slice ((st.ways.getD to []).map encT) := fun h => by rw [List.getElem?_eq_getElem h] at hW; exact Option.some.inj hW
  have p1 : (T.slice ((st.ways.getD to []).map encT)).putT 0 [T.slice (s.map encT)] = T.slice (s.map encT) := rfl
  have p2 : ∀ b, (T.bool b).putT 0 [T.bool true] = T.bool true := fun b => rfl
  have hss := sameStack_spec (st.ways.getD to []) s
  have hld : leadT st to s = if st.kn.getD to false = false then (0, { st with ways := st.ways.set to s, kn := st.kn.set to true }) else if sameTs (st.ways.getD to []) s then (0, st) else (14, st) := rfl
  generalize st.kn.getD to false = kb at *
  generalize st.ways.getD to [] = wb at *
  simp [runnelref14_Look_lead, o1, o2, hto, hK', hW', lK, lW]
  refine ⟨fun hk => ⟨?_, ?_⟩, fun hk => ?_⟩
  · exact ⟨by simp, fun e he => by obtain ⟨y, _, rfl⟩ := List.mem_map.1 he; simp, by simp; omega⟩
  · rw [hld, if_pos hk]
    exact gives_ids [0, 1, 2] (by simp [renF]) rfl (by simp) (by simp [framed, renF, lkW, lkK, List.map_set, o1, o2]) (by simp [AV.under, AV.under1]) (by simp [Ob.below, AV.under1])
  · refine aCallF_of [] hss rfl (by simp [renF]) (by simp) (by simp [framed]) (by simp [AV.under, AV.under1]) (by simp) ?_
    simp [renF, frameH, setAll]
    rw [hld, if_neg (by simp [hk])]
    refine ⟨fun hz => ?_, fun hz => ?_⟩
    · rw [if_neg (by simp [hz])]
      exact gives_ids [0, 1, 2] (by simp [renF]) rfl (by simp) (by simp [framed, renF]) (by simp [AV.under, AV.under1]) (by simp [Ob.below, AV.under1])
    · rw [if_pos hz]
      exact gives_ids [0, 1, 2] (by simp [renF]) rfl (by simp) (by simp [framed, renF]) (by simp [AV.under, AV.under1]) (by simp [Ob.below, AV.under1])

/-- What an instruction puts, as the program tells it. -/
def madeR14 (m : Option Ty × Int) : AV := .tup [.p (encT (m.1.getD noTy)), .p (.bool m.1.isSome), .p (.int .i64 m.2)]
theorem noTy_eq : noTy = .mk 0 [] := rfl

theorem gives_tup {n : Nat} {vs : List AV} {r : AV} {H Ho : List Ob} (h : Gives n (.tup (vs.map treeA)) H r Ho) : Gives n (.tup vs) H r Ho := by
  intro w G u hi hr
  refine h w G u hi ?_
  cases hr with
  | tup _ us hn hv =>
    refine .tup _ us (by simpa using hn) (fun j x hj => ?_)
    simp only [List.getElem?_map, Option.map_eq_some_iff] at hj
    obtain ⟨y, hy, rfl⟩ := hj
    exact tree_rep (hv j y hy)

theorem made_spec14 (st : LkSt) (x : In) (inn : Ty) (t : List Ty) (hj : x.op = oJf → 0 < t.length) (hop : x.op ≠ oPush → x.op ≠ oX → x.op ≠ oJf → x.op ≠ oEmit' → x.op ≠ oJmp → x.op ≠ oRet' → ArOk x.op t.length) (hv : x.op = oPush → Wv 1000000000 x.v) (ht : t.length ≤ 100000) :
    Abs.Fn Tryd.prog runnelref14_Look_made_i (LKH st) [.bptr 0 0, .p (encI x), .p (encT inn), .p (.slice (t.map encT))] (madeR14 (madeT x inn t st.out).1) (LKH { st with out := (madeT x inn t st.out).2 }) := by
  apply runnelref14_Look_made_fnH
  simp [runnelref14_Look_made, encI_eta]
  refine ⟨fun h => ?_, fun n1 => ⟨fun h => ?_, fun n2 => ⟨fun h => ?_, fun n3 => ⟨fun h => ?_, fun n4 => ⟨fun h => ?_, fun n5 n6 => ?_⟩⟩⟩⟩⟩
  all_goals try have n1 : x.op ≠ oPush := n1
  all_goals try have n2 : x.op ≠ oX := n2
  all_goals try have n3 : x.op ≠ oJf := n3
  all_goals try have n4 : x.op ≠ oEmit' := n4
  all_goals try have n5 : x.op ≠ oJmp := n5
  all_goals try have n6 : x.op ≠ oRet' := n6
  · have hm : madeT x inn t st.out = ((some (kindV x.v), 0), st.out) := by unfold madeT; rw [if_pos h]
    have hty := typeOfR_spec (hv h)
    simp only [encV_eta] at hty
    rw [hm]
    refine aCallW_of rfl rfl hty ?_
    simp
    refine gives_tup ?_
    simp only [madeR14, Option.getD, Option.isSome, encT_eta, noTy_eq, Ty.kind_mk, Ty.of_mk, List.map_nil, List.map_cons]
    exact gives_ids [0, 1, 2] rfl rfl (by simp) (by simp [framed, renF]) (by simp [AV.under, AV.under1]) (by simp [Ob.below, AV.under1])
  · have hm : madeT x inn t st.out = ((some inn, 0), st.out) := by unfold madeT; rw [if_neg n1, if_pos h]
    rw [hm]
    refine gives_tup ?_
    simp only [madeR14, Option.getD, Option.isSome, encT_eta, noTy_eq, Ty.kind_mk, Ty.of_mk, List.map_nil, List.map_cons]
    exact gives_ids [0, 1, 2] rfl rfl (by simp) (by simp [framed, renF]) (by simp [AV.under, AV.under1]) (by simp [Ob.below, AV.under1])
  · have h : x.op = oJf := h
    have hm : madeT x inn t st.out = ((none, if (t.getD 0 noTy).kind ≠ 2 then 5 else 0), st.out) := by unfold madeT; rw [if_neg n1, if_neg n2, if_pos h]
    rw [hm]
    obtain ⟨u, r, rfl⟩ : ∃ u r, t = u :: r := by
      match t, hj h with
      | u :: r, _ => exact ⟨u, r, rfl⟩
    simp
    refine ⟨fun hz => ?_, fun hz => ?_⟩
    · rw [if_neg (by simp [hz])]
      refine gives_tup ?_
      simp only [madeR14, Option.getD, Option.isSome, encT_eta, noTy_eq, Ty.kind_mk, Ty.of_mk, List.map_nil, List.map_cons]
      exact gives_ids [0, 1, 2] rfl rfl (by simp) (by simp [framed, renF]) (by simp [AV.under, AV.under1]) (by simp [Ob.below, AV.under1])
    · rw [if_pos hz]
      refine gives_tup ?_
      simp only [madeR14, Option.getD, Option.isSome, encT_eta, noTy_eq, Ty.kind_mk, Ty.of_mk, List.map_nil, List.map_cons]
      exact gives_ids [0, 1, 2] rfl rfl (by simp) (by simp [framed, renF]) (by simp [AV.under, AV.under1]) (by simp [Ob.below, AV.under1])
  · have h : x.op = oEmit' := h
    have hm : madeT x inn t st.out = ((none, (emitsT st.out t).2), (emitsT st.out t).1) := by unfold madeT; rw [if_neg n1, if_neg n2, if_neg n3, if_pos h]
    rw [hm]
    refine loop_by (σ := Nat × Ty) (n := 6) (fun q => [.p (.int .i64 q.1)]) (fun q => LKH { st with out := q.2 } ++ [.box [.p (.str x.op), .p (.int .i64 x.v.k), .p (.int .i64 x.v.i), .p (.bool x.v.b), .p (.str x.v.s), .p (.slice (x.v.t.map encV)), .p (.int .i64 x.n)], .box [.p (.int .i64 inn.kind), .p (.slice (inn.of.map encT))], .box [.p (.int .i64 0), .full []]])
      (fun q => q.1 ≤ t.length ∧ emitsT q.2 (t.drop q.1) = emitsT st.out t) (fun q => t.length - q.1) [] (0, st.out) (fun _ => rfl) (by simp [ghosts]) (by simp) (fun q B hq hB => ?_)
    obtain ⟨j, o⟩ := q
    obtain ⟨g1, g2⟩ := hq
    simp only at g1 g2
    have htm : t.length ≤ maxLen := by simp only [maxLen]; omega
    simp [runnelref14_Look_made_L1, htm]
    have hnx : ∀ (hlt : j < t.length), (o.kind ≠ 0 → sameT o t[j] = true) → emitsT t[j] (t.drop (j + 1)) = emitsT st.out t := fun hlt hh => by
      rw [List.drop_eq_getElem_cons hlt, emitsT, if_neg (by rintro ⟨a1, a2⟩; rw [hh a1] at a2; simp at a2)] at g2
      exact g2
    refine ⟨fun hlt => ⟨fun hk => ?_, fun hk => ?_⟩, fun hge => ?_⟩
    · have hsm := sameType_spec o t[j]
      simp only [encT_eta] at hsm
      simp [hlt]
      refine aCallT_of rfl hsm rfl ?_
      simp [hlt]
      refine ⟨fun hz => ?_, fun hz => ?_⟩
      · rw [List.drop_eq_getElem_cons hlt, emitsT, if_pos ⟨hk, hz⟩] at g2
        rw [← g2]
        refine gives_tup ?_
        simp only [madeR14, Option.getD, Option.isSome, encT_eta, noTy_eq, Ty.kind_mk, Ty.of_mk, List.map_nil, List.map_cons]
        exact gives_ids [0, 1, 2] rfl rfl (by simp) (by simp [framed, renF, lkW_st, lkK_st]) (by simp [AV.under, AV.under1]) (by simp [Ob.below, AV.under1])
      · rw [IntWalk.i64_in _ (by omega)]
        exact hB (j + 1, t[j]) _ ⟨by simp only; omega, hnx hlt (fun _ => hz)⟩ (by simp only; omega) (by simp [lkW_st, lkK_st]) (by simp [Ob.below, AV.under1]) (by simp) (by simp [AV.under, AV.under1])
    · simp [hlt]
      rw [IntWalk.i64_in _ (by omega)]
      exact hB (j + 1, t[j]) _ ⟨by simp only; omega, hnx hlt (fun h => absurd hk h)⟩ (by simp only; omega) (by simp [lkW_st, lkK_st]) (by simp [Ob.below, AV.under1]) (by simp) (by simp [AV.under, AV.under1])
    · rw [List.drop_of_length_le (by omega), emitsT] at g2
      rw [← g2]
      refine gives_tup ?_
      simp only [madeR14, Option.getD, Option.isSome, encT_eta, noTy_eq, Ty.kind_mk, Ty.of_mk, List.map_nil, List.map_cons]
      exact gives_ids [0, 1, 2] rfl rfl (by simp) (by simp [framed, renF, lkW_st, lkK_st]) (by simp [AV.under, AV.under1]) (by simp [Ob.below, AV.under1])
  · have h : x.op = oJmp ∨ x.op = oRet' := h
    have hm : madeT x inn t st.out = ((none, 0), st.out) := by unfold madeT; rw [if_neg n1, if_neg n2, if_neg n3, if_neg n4, if_pos h]
    rw [hm]
    refine gives_tup ?_
    simp only [madeR14, Option.getD, Option.isSome, encT_eta, noTy_eq, Ty.kind_mk, Ty.of_mk, List.map_nil, List.map_cons]
    exact gives_ids [0, 1, 2] rfl rfl (by simp) (by simp [framed, renF]) (by simp [AV.under, AV.under1]) (by simp [Ob.below, AV.under1])
  · have hm : madeT x inn t st.out = ((some ((opT x.op x.n t).get noTy), (opT x.op x.n t).num), st.out) := by unfold madeT; rw [if_neg n1, if_neg n2, if_neg n3, if_neg n4, if_neg (fun h => h.elim n5 n6)]
    rw [hm]
    have hot := OpType_spec x.op x.n t (hop n1 n2 n3 n4 n5 n6)
    simp only [tyR, encT_eta] at hot
    refine aCallW_of rfl rfl hot ?_
    simp
    refine gives_tup ?_
    simp only [madeR14, Option.getD, Option.isSome, encT_eta, noTy_eq, Ty.kind_mk, Ty.of_mk, List.map_nil, List.map_cons]
    exact gives_ids [0, 1, 2] rfl rfl (by simp) (by simp [framed, renF]) (by simp [AV.under, AV.under1]) (by simp [Ob.below, AV.under1])

/-- Programs whose instructions may be. -/
def OkP (p : List In) : Prop := 0 < p.length ∧ p.length ≤ 4096 ∧ ∀ (j : Nat) (x : In), p[j]? = some x → instE p.length j x = 0

theorem tk_nat {m i : Nat} {x : In} (h : instE m i x = 0) : ∃ k : Nat, tkN x.op x.n = k ∧ k ≤ 8 ∧ (x.op = oJmp ∨ x.op = oJf → (i : Int) < x.n ∧ x.n < m) ∧ (x.op = oTup → 1 ≤ x.n ∧ x.n ≤ 8) ∧ x.op ∈ opsAll ∧ (x.op = oPush → checkV x.v 0 = 0) := by
  unfold instE at h
  by_cases h1 : x.op ∉ opsAll
  · rw [if_pos h1] at h; simp at h
  rw [if_neg h1] at h
  split at h
  · simp at h
  have hmem : x.op ∈ opsAll := Classical.not_not.1 h1
  by_cases c1 : x.op = oPush
  · rw [if_pos c1] at h
    exact ⟨0, by rw [c1]; rfl, by omega, by rw [c1]; intro hh; rcases hh with hh | hh <;> exact absurd hh (by decide), by rw [c1]; intro hh; exact absurd hh (by decide), hmem, fun _ => h⟩
  rw [if_neg c1] at h
  by_cases c2 : x.op = oAt
  · exact ⟨1, by rw [c2]; rfl, by omega, by rw [c2]; intro hh; rcases hh with hh | hh <;> exact absurd hh (by decide), by rw [c2]; intro hh; exact absurd hh (by decide), hmem, fun e => absurd e c1⟩
  rw [if_neg c2] at h
  by_cases c3 : x.op = oTup
  · rw [if_pos c3] at h
    have hb : ¬ (x.n < 1 ∨ 8 < x.n) := fun e => by rw [if_pos e] at h; simp at h
    refine ⟨x.n.toNat, ?_, by omega, by rw [c3]; intro hh; rcases hh with hh | hh <;> exact absurd hh (by decide), fun _ => by omega, hmem, fun e => absurd e c1⟩
    rw [c3]
    simp [tkN, oTup, oPush, oX, oJmp, oRet']
    omega
  rw [if_neg c3] at h
  by_cases c4 : x.op = oEmit'
  · rw [if_pos c4] at h
    have hb : ¬ (x.n < 0 ∨ 4 < x.n) := fun e => by rw [if_pos e] at h; simp at h
    refine ⟨x.n.toNat, ?_, by omega, by rw [c4]; intro hh; rcases hh with hh | hh <;> exact absurd hh (by decide), fun e => absurd e c3, hmem, fun e => absurd e c1⟩
    rw [c4]
    simp [tkN, oEmit', oTup, oPush, oX, oJmp, oRet']
    omega
  rw [if_neg c4] at h
  by_cases c5 : x.op = oJmp ∨ x.op = oJf
  · rw [if_pos c5] at h
    have hb : ¬ (x.n ≤ i ∨ (m : Int) ≤ x.n) := fun e => by rw [if_pos e] at h; simp at h
    rcases c5 with c | c
    · exact ⟨0, by rw [c]; rfl, by omega, fun _ => by omega, fun e => absurd e c3, hmem, fun e => absurd e c1⟩
    · exact ⟨1, by rw [c]; rfl, by omega, fun _ => by omega, fun e => absurd e c3, hmem, fun e => absurd e c1⟩
  · unfold tkN
    by_cases d1 : x.op = oPush ∨ x.op = oX ∨ x.op = oJmp ∨ x.op = oRet'
    · rw [if_pos d1]; exact ⟨0, rfl, by omega, fun e => absurd e c5, fun e => absurd e c3, hmem, fun e => absurd e c1⟩
    · rw [if_neg d1, if_neg (fun h => h.elim c3 c4)]
      by_cases d2 : x.op = oAt ∨ x.op = oNeg ∨ x.op = oNot ∨ x.op = oLen ∨ x.op = oJf
      · rw [if_pos d2]; exact ⟨1, rfl, by omega, fun e => absurd e c5, fun e => absurd e c3, hmem, fun e => absurd e c1⟩
      · rw [if_neg d2]; exact ⟨2, rfl, by omega, fun e => absurd e c5, fun e => absurd e c3, hmem, fun e => absurd e c1⟩

/-- The end of a step. -/
def tailT (p : List In) (i : Nat) (x : In) (st : LkSt) (s1 : List Ty) : Int × LkSt :=
  if 128 < s1.length ∨ (x.op = oRet' ∧ 0 < s1.length) then (12, st)
  else if x.op = oRet' then (0, st)
  else if x.op ≠ oJmp ∧ i + 1 = p.length then (12, st)
  else if x.op = oJmp then leadT st x.n.toNat s1
  else if x.op = oJf then (if (leadT st x.n.toNat s1).1 ≠ 0 then leadT st x.n.toNat s1 else leadT (leadT st x.n.toNat s1).2 (i + 1) s1)
  else leadT st (i + 1) s1

theorem leadT_ok {st : LkSt} {to : Nat} {s : List Ty} {n : Nat} (ho : OkSt n st) : OkSt n (leadT st to s).2 := by
  unfold leadT
  split
  · exact ⟨by simp [ho.1], by simp [ho.2]⟩
  · split <;> exact ho

set_option maxHeartbeats 2000000 in
theorem tail_spec14 (p : List In) (i : Nat) (hi : i < p.length) (hp : p.length ≤ 4096) (x : In) (st : LkSt) (ho : OkSt p.length st) (s1 : List Ty) (hs : s1.length ≤ 1000) (hj : x.op = oJmp ∨ x.op = oJf → (i : Int) < x.n ∧ x.n < p.length) (id : Nat) (I : List AV) (X : List Ob) :
    runnelref14_Look_step_J1 (.bptr 0 0) (.p (.slice (p.map encI))) (.p (.int .i64 i)) (.bptr 4 0) (.own id (s1.map encT)) (LKH st ++ [.box I, .box [.p (.str x.op), .p (.int .i64 x.v.k), .p (.int .i64 x.v.i), .p (.bool x.v.b), .p (.str x.v.s), .p (.slice (x.v.t.map encV)), .p (.int .i64 x.n)]] ++ X)
      (fun v H' => Gives 3 v H' (.p (.int .i64 (tailT p i x st s1).1)) (LKH (tailT p i x st s1).2)) := by
  have o1 := ho.1
  have o2 := ho.2
  have hsm : s1.length ≤ maxLen := by simp only [maxLen]; omega
  have w1 : IntKind.i64.wrap ((p.length : Int) - 1) = (p.length : Int) - 1 := IntWalk.i64_in _ (by omega)
  have w3 : IntKind.i64.wrap ((i : Int) + 1) = (i : Int) + 1 := IntWalk.i64_in _ (by omega)
  have htl : tailT p i x st s1 = if 128 < s1.length ∨ (x.op = oRet' ∧ 0 < s1.length) then (12, st)
      else if x.op = oRet' then (0, st)
      else if x.op ≠ oJmp ∧ i + 1 = p.length then (12, st)
      else if x.op = oJmp then leadT st x.n.toNat s1
      else if x.op = oJf then (if (leadT st x.n.toNat s1).1 ≠ 0 then leadT st x.n.toNat s1 else leadT (leadT st x.n.toNat s1).2 (i + 1) s1)
      else leadT st (i + 1) s1 := rfl
  generalize tailT p i x st s1 = tl at *
  simp [runnelref14_Look_step_J1, hsm, w1, w3]
  refine ⟨fun h => ?_, fun h1 h2 => ⟨fun h => ?_, fun n1 => ⟨fun h h' => ?_, fun h3 => ⟨fun h => ?_, fun n2 n3 => ?_⟩⟩⟩⟩
  · have h : 128 < s1.length ∨ (x.op = oRet' ∧ 0 < s1.length) := by
      rcases h with h | h
      · exact .inl (by omega)
      · exact .inr h
    rw [htl, if_pos h]
    exact gives_ids [0, 1, 2] (by simp [renF]) rfl (by simp) (by simp [framed, renF]) (by simp [AV.under, AV.under1]) (by simp [Ob.below, AV.under1])
  all_goals
    have hn : ¬ (128 < s1.length ∨ (x.op = oRet' ∧ 0 < s1.length)) := by
      rintro (a | ⟨a, b⟩)
      · omega
      · have := h2 a; subst this; simp at b
    rw [if_neg hn] at htl
  · rw [htl, if_pos (show x.op = oRet' from h)]
    exact gives_ids [0, 1, 2] (by simp [renF]) rfl (by simp) (by simp [framed, renF]) (by simp [AV.under, AV.under1]) (by simp [Ob.below, AV.under1])
  all_goals rw [if_neg (show ¬ x.op = oRet' from n1)] at htl
  · rw [htl, if_pos ⟨show x.op ≠ oJmp from h, by omega⟩]
    exact gives_ids [0, 1, 2] (by simp [renF]) rfl (by simp) (by simp [framed, renF]) (by simp [AV.under, AV.under1]) (by simp [Ob.below, AV.under1])
  all_goals
    have hn3 : ¬ (x.op ≠ oJmp ∧ i + 1 = p.length) := fun e => (h3 e.1) (by omega)
    rw [if_neg hn3] at htl
  · have hb := hj h
    have hx : ((x.n.toNat : Nat) : Int) = x.n := by omega
    have hlead := lead_spec14 st x.n.toNat p.length s1 ho (by omega) (by omega) (by omega)
    have hok2 := leadT_ok (to := x.n.toNat) (s := s1) ho
    rw [hx] at hlead
    generalize leadT st x.n.toNat s1 = q at *
    obtain ⟨e, st2⟩ := q
    simp only at hlead htl hok2
    refine aCallN_of [0, 1, 2] hlead rfl (by simp [renF, treeA, AV.toT]) (by simp) (by simp [framed, renF]) (by simp [AV.under, AV.under1]) (by simp [Ob.below, AV.under1]) ?_
    simp [renF, frameH, setAll]
    refine ⟨fun he => ?_, fun he => ⟨fun hnj => ?_, fun hjm => ?_⟩⟩
    · have : tl = (e, st2) := by
        by_cases hjm : x.op = oJmp
        · rw [htl, if_pos hjm]
        · rw [htl, if_neg hjm, if_pos (show x.op = oJf from h.resolve_left hjm), if_pos he]
      rw [this]
      exact gives_ids [0, 1, 2] (by simp [renF]) rfl (by simp) (by simp [framed, renF]) (by simp [AV.under, AV.under1]) (by simp [Ob.below, AV.under1])
    · have hjf : x.op = oJf := h.resolve_left hnj
      have hnl : i + 1 < p.length := by
        have := h3 hnj
        omega
      have hl2 := lead_spec14 st2 (i + 1) p.length s1 hok2 hnl (by omega) (by omega)
      rw [htl, if_neg (show ¬ x.op = oJmp from hnj), if_pos hjf, if_neg (by simpa using he)]
      rw [show ((i + 1 : Nat) : Int) = (i : Int) + 1 by omega] at hl2
      generalize leadT st2 (i + 1) s1 = q at *
      obtain ⟨e3, st3⟩ := q
      simp only at hl2 ⊢
      refine aCallN_of [0, 1, 2] hl2 rfl (by simp [renF, treeA, AV.toT, w3]) (by simp) (by simp [framed, renF]) (by simp [AV.under, AV.under1]) (by simp [Ob.below, AV.under1]) ?_
      simp [renF, frameH, setAll]
      exact gives_ids [0, 1, 2] (by simp [renF]) rfl (by simp) (by simp [framed, renF]) (by simp [AV.under, AV.under1]) (by simp [Ob.below, AV.under1])
    · have : tl = (e, st2) := by rw [htl, if_pos (show x.op = oJmp from hjm)]
      rw [this, he]
      exact gives_ids [0, 1, 2] (by simp [renF]) rfl (by simp) (by simp [framed, renF]) (by simp [AV.under, AV.under1]) (by simp [Ob.below, AV.under1])
  · have hnl : i + 1 < p.length := by
      have := h3 n2
      omega
    have hl2 := lead_spec14 st (i + 1) p.length s1 ho hnl (by omega) (by omega)
    rw [htl, if_neg (show ¬ x.op = oJmp from n2), if_neg (show ¬ x.op = oJf from n3)]
    rw [show ((i + 1 : Nat) : Int) = (i : Int) + 1 by omega] at hl2
    generalize leadT st (i + 1) s1 = q at *
    obtain ⟨e3, st3⟩ := q
    simp only at hl2 ⊢
    refine ⟨fun _ => ?_, fun e => absurd e n2⟩
    refine aCallN_of [0, 1, 2] hl2 rfl (by simp [renF, treeA, AV.toT, w3]) (by simp) (by simp [framed, renF]) (by simp [AV.under, AV.under1]) (by simp [Ob.below, AV.under1]) ?_
    simp [renF, frameH, setAll]
    exact gives_ids [0, 1, 2] (by simp [renF]) rfl (by simp) (by simp [framed, renF]) (by simp [AV.under, AV.under1]) (by simp [Ob.below, AV.under1])

theorem ar_ok14 {op : List UInt8} {n : Int} {k : Nat} (hm : op ∈ opsAll) (hk : tkN op n = k) (ht : op = oTup → 1 ≤ n ∧ n ≤ 8) (q1 : op ≠ oPush) (q2 : op ≠ oX) (q3 : op ≠ oJf) (q4 : op ≠ oEmit') (q5 : op ≠ oJmp) (q6 : op ≠ oRet') : ArOk op k := by
  by_cases c : op = oTup
  · have := ht c
    subst c
    simp [tkN, oTup, oPush, oX, oJmp, oRet'] at hk
    unfold ArOk
    rw [if_pos (by rfl)]
    omega
  · simp only [opsAll, List.mem_cons, List.not_mem_nil, or_false] at hm
    rcases hm with h | h | h | h | h | h | h | h | h | h | h | h | h | h | h | h | h | h | h
    all_goals first
      | exact absurd h q1
      | exact absurd h q2
      | exact absurd h q3
      | exact absurd h q4
      | exact absurd h q5
      | exact absurd h q6
      | exact absurd h c
      | (subst h; simp [tkN, oTup, oPush, oX, oJmp, oRet', oEmit', oAt, oNeg, oNot, oLen, oJf, oAdd, oSub, oMul, oDiv, oRem, oEq, oLt, oCat] at hk; unfold ArOk; simp [arE]; omega)

set_option maxHeartbeats 2000000 in
theorem step_spec14 (p : List In) (hp : OkP p) (st : LkSt) (i : Nat) (hi : i < p.length) (inn : Ty) (ho : OkSt p.length st) (hb : ∀ s ∈ st.ways, s.length ≤ 128) :
    Abs.Fn Tryd.prog runnelref14_Look_step_i (LKH st) [.bptr 0 0, .p (.slice (p.map encI)), .p (.int .i64 i), .p (encT inn)] (.p (.int .i64 (stepT p i inn st).1)) (LKH (stepT p i inn st).2) := by
  obtain ⟨hp0, hp1, hpe⟩ := hp
  have o1 := ho.1
  have o2 := ho.2
  obtain ⟨x, hx⟩ : ∃ x, p[i]? = some x := ⟨_, List.getElem?_eq_getElem hi⟩
  have hx' : p[i] = x := by rw [List.getElem?_eq_getElem hi] at hx; exact Option.some.inj hx
  have hgx : p.getD i noI = x := by simp [List.getD_eq_getElem?_getD, hx]
  have hE := hpe i x hx
  have htk := takes_spec x
  obtain ⟨k, hk, hk8, hjb, htup, hmem, hpush⟩ := tk_nat hE
  have htn : tkV x.op x.n = k := hk
  rw [htn] at htk
  have hW : (lkW st)[i]? = some (.slice ((st.ways.getD i []).map encT)) := by
    simp [lkW, List.getD_eq_getElem?_getD, show i < st.ways.length by omega]
  have hW' : ∀ h : i < (lkW st).length, (lkW st)[i]'h = .slice ((st.ways.getD i []).map encT) := fun h => by rw [List.getElem?_eq_getElem h] at hW; exact Option.some.inj hW
  have lW : (lkW st).length = p.length := by simp [lkW, o1]
  have hsl : (st.ways.getD i []).length ≤ 128 := by
    rw [List.getD_eq_getElem?_getD, List.getElem?_eq_getElem (by omega)]
    exact hb _ (List.getElem_mem _)
  have hst : stepT p i inn st = stepT p i inn st := rfl
  conv at hst => rhs; unfold stepT
  simp only [hgx, hk] at hst
  generalize st.ways.getD i [] = s at *
  have hst2 : stepT p i inn st = if (s.length : Int) < k then (12, st) else if (madeT x inn (s.drop (s.length - k)) st.out).1.2 ≠ 0 then ((madeT x inn (s.drop (s.length - k)) st.out).1.2, { st with out := (madeT x inn (s.drop (s.length - k)) st.out).2 })
      else tailT p i x { st with out := (madeT x inn (s.drop (s.length - k)) st.out).2 } (s.take (s.length - k) ++ (madeT x inn (s.drop (s.length - k)) st.out).1.1.toList) := by
    rw [hst]
    simp only [Int.toNat_natCast]
    rfl
  clear hst
  generalize stepT p i inn st = res at *
  simp only [encI_eta] at htk
  apply runnelref14_Look_step_fnH
  simp [runnelref14_Look_step, encI_eta, hi, hx', o1, o2, hW', lW]
  refine aCallW_of rfl rfl htk ?_
  have hsm : s.length ≤ maxLen := by simp only [maxLen]; omega
  have w1 : ¬ (s.length : Int) < k → IntKind.i64.wrap ((s.length : Int) - k) = ((s.length - k : Nat) : Int) := fun h => by rw [IntWalk.i64_in _ (by omega)]; omega
  simp [hW, hsm]
  refine ⟨fun h => ?_, fun h => ?_⟩
  · rw [hst2, if_pos (by omega)]
    exact gives_ids [0, 1, 2] (by simp [renF]) rfl (by simp) (by simp [framed, renF, o1, o2]) (by simp [AV.under, AV.under1]) (by simp [Ob.below, AV.under1])
  · rw [if_neg (by omega)] at hst2
    rw [w1 (by omega)]
    simp [aSliceSl, boundK, atSize]
    have hT : List.drop (s.length - k) (List.take s.length (List.map encT s)) = (s.drop (s.length - k)).map encT := by
      rw [List.take_of_length_le (by simp), List.map_drop]
    have hB : List.take (s.length - k) (List.map encT s) = (s.take (s.length - k)).map encT := by rw [List.map_take]
    rw [hT, hB]
    have htl : (s.drop (s.length - k)).length = k := by simp; omega
    have hbl : (s.take (s.length - k)).length = s.length - k := by simp
    have e2 : ∀ l : List Ty, ∀ e ∈ l.map encT, e.cells.length = 2 := fun l e he => by obtain ⟨y, _, rfl⟩ := List.mem_map.1 he; simp
    refine ⟨fun hh => by simp [List.getElem?_eq_getElem hh], ⟨by simp, e2 _, by simp; omega⟩, ⟨by simp, e2 _, by simp; omega⟩, ?_⟩
    have hmd := made_spec14 st x inn (s.drop (s.length - k)) (fun e => by rw [e] at hk; have : tkN oJf x.n = 1 := rfl; omega) (fun q1 q2 q3 q4 q5 q6 => by
      rw [htl]
      exact ar_ok14 hmem hk htup q1 q2 q3 q4 q5 q6) (fun e => checkV_wv _ _ (hpush e)) (by omega)
    generalize hm : madeT x inn (s.drop (s.length - k)) st.out = m at hmd hst2
    obtain ⟨⟨y, e⟩, o'⟩ := m
    simp only [madeR14, encI_eta, encT_eta] at hmd
    simp only at hst2
    have hrow : s.length - (s.length - k) = k := by omega
    rw [hrow]
    refine aCallN_of [0, 1, 2] hmd rfl (by simp [renF, treeA, AV.toT, allT]) (by simp) (by simp [framed, renF, o1, o2]) (by simp [AV.under, AV.under1]) (by simp [Ob.below, AV.under1]) ?_
    simp [renF, frameH, setAll]
    have ho' : OkSt p.length { st with out := o' } := ho
    refine ⟨fun he => ?_, fun he => ⟨fun hy => ?_, fun hy => ?_⟩⟩
    · rw [hst2, if_pos he]
      exact gives_ids [0, 1, 2] (by simp [renF]) rfl (by simp) (by simp [framed, renF]) (by simp [AV.under, AV.under1]) (by simp [Ob.below, AV.under1])
    · obtain ⟨u, rfl⟩ : ∃ u, y = some u := Option.isSome_iff_exists.1 hy
      refine ⟨⟨fun e he => e2 s e (List.mem_of_mem_take he), by simp, by simp; omega⟩, ?_⟩
      rw [hst2, if_neg (by simp [he])]
      have h := tail_spec14 p i hi hp1 x { st with out := o' } ho' (s.take (s.length - k) ++ [u]) (by simp; omega) hjb 6 [.p (.int .i64 inn.kind), .p (.slice (inn.of.map encT))] [.row k 2, .row (s.length - k + 1) 2, .box [.p (.int .i64 u.kind), .p (.slice (u.of.map encT))]]
      simpa using h
    · subst hy
      rw [hst2, if_neg (by simp [he])]
      have h := tail_spec14 p i hi hp1 x { st with out := o' } ho' (s.take (s.length - k)) (by simp; omega) hjb 6 [.p (.int .i64 inn.kind), .p (.slice (inn.of.map encT))] [.row k 2, .row (s.length - k) 2, .box [.p (.int .i64 noTy.kind), .p (.slice (noTy.of.map encT))]]
      simpa using h

end Go.Proofs.YtcdkdmjedkhpiaaDoor
