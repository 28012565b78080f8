/- The document's look at a whole program. -/
import Derived.Test.YtcdkdmjedkhpiaaDoorZSpVer
set_option linter.unusedSimpArgs false
set_option linter.unusedVariables false
namespace Go.Proofs.YtcdkdmjedkhpiaaDoor
open Go Go.Abs

attribute [local irreducible] Abs.Fn

def shortW (st : LkSt) : Prop := ∀ s ∈ st.ways, s.length ≤ 128

theorem lead_short {st : LkSt} {to : Nat} {s : List Ty} (h : shortW st) (hs : s.length ≤ 128) : shortW (leadT st to s).2 := by
  unfold leadT
  split
  · intro w hw
    rcases List.mem_or_eq_of_mem_set hw with h' | h'
    · exact h w h'
    · rw [h']; exact hs
  · split <;> exact h

theorem step_keeps {p : List In} {i : Nat} {inn : Ty} {st : LkSt} (ho : OkSt p.length st) (h : shortW st) : OkSt p.length (stepT p i inn st).2 ∧ shortW (stepT p i inn st).2 := by
  unfold stepT
  simp only
  split
  · exact ⟨ho, h⟩
  split
  · exact ⟨ho, h⟩
  generalize (st.ways.getD i []).take _ ++ _ = s1
  split
  · exact ⟨ho, h⟩
  rename_i hn
  have hs : s1.length ≤ 128 := by omega
  split
  · exact ⟨ho, h⟩
  split
  · exact ⟨ho, h⟩
  have h0 : ∀ o', OkSt p.length { st with out := o' } ∧ shortW { st with out := o' } := fun o' => ⟨ho, h⟩
  split
  · exact ⟨leadT_ok (h0 _).1, lead_short (h0 _).2 hs⟩
  split
  · split
    · exact ⟨leadT_ok (h0 _).1, lead_short (h0 _).2 hs⟩
    · exact ⟨leadT_ok (leadT_ok (h0 _).1), lead_short (lead_short (h0 _).2 hs) hs⟩
  · exact ⟨leadT_ok (h0 _).1, lead_short (h0 _).2 hs⟩

def verR (r : Ty × Nat × Int) : AV := .tup [.p (encT r.1), .p (.int .i64 r.2.1), .p (.int .i64 r.2.2)]

def vHL1 (inn : Ty) (st : LkSt) : List Ob := [.box [.p (.int .i64 inn.kind), .p (.slice (inn.of.map encT))], .box [.p (.int .i64 0), .full []], .mrow 0 1 (lkW st), .mrow 0 1 (lkK st), .box [.msl 2 0 1 0 st.ways.length, .msl 3 0 1 0 st.kn.length, .p (.int .i64 st.out.kind), .p (.slice (st.out.of.map encT))]]

set_option maxHeartbeats 2000000 in
theorem ver_L1 (p : List In) (hp : OkP p) (inn : Ty) (st : LkSt) (i : Nat) (hi : i ≤ p.length) (ho : OkSt p.length st) (hs : shortW st) (B : List AV → List Ob → Prop) (res : Ty × Nat × Int) (hv : verL p inn (p.length - i) i st = res)
    (hB : ∀ (st' : LkSt) (H2 : List Ob), OkSt p.length st' → shortW st' → verL p inn (p.length - (i + 1)) (i + 1) st' = res → i < p.length → H2.take 5 = vHL1 inn st' → 5 ≤ H2.length → B [.p (.int .i64 (i + 1 : Nat))] H2) :
    runnelref14_Verify_L1 (.p (.slice (p.map encI))) (.bptr 0 0) (.bptr 1 0) (.bptr 4 0) (.p (.int .i64 i)) (vHL1 inn st) B (fun v H' => Gives 0 v H' (verR res) []) := by
  have hp' := hp
  obtain ⟨hp0, hp1, hpe⟩ := hp'
  have o1 := ho.1
  have o2 := ho.2
  have hml : p.length ≤ maxLen := by simp only [maxLen]; omega
  have w1 : IntKind.i64.wrap ((i : Int) + 1) = ((i + 1 : Nat) : Int) := by rw [IntWalk.i64_in _ (by omega)]; omega
  have w2 : IntKind.i64.wrap ((i : Int) + 1) = (i : Int) + 1 := IntWalk.i64_in _ (by omega)
  have lK : (lkK st).length = p.length := by simp [lkK, o2]
  have lW : (lkW st).length = p.length := by simp [lkW, o1]
  simp [runnelref14_Verify_L1, vHL1, hml, o1, o2]
  refine ⟨fun hlt => ?_, fun hge => ?_⟩
  · have hKi : (lkK st)[i]? = some (.bool (st.kn.getD i false)) := by
      simp [lkK, List.getD_eq_getElem?_getD, show i < st.kn.length by omega]
    have hKi' : ∀ h : i < (lkK st).length, (lkK st)[i]'h = .bool (st.kn.getD i false) := fun h => by rw [List.getElem?_eq_getElem h] at hKi; exact Option.some.inj hKi
    have hstp := step_spec14 p hp st i hlt inn ho hs
    have hkeep := step_keeps (p := p) (i := i) (inn := inn) ho hs
    have hn : p.length - i = (p.length - (i + 1)) + 1 := by omega
    rw [hn, verL] at hv
    simp [hlt, lK, hKi', hKi]
    rw [List.getD_eq_getElem?_getD] at hv
    refine ⟨fun hk => ?_, fun hk => ?_⟩
    · rw [if_pos hk] at hv
      rw [w1]
      exact hB st _ ho hs hv hlt (by simp [vHL1, o1, o2]) (by simp)
    · rw [if_neg (by simp [hk])] at hv
      simp only [encT_eta] at hstp
      generalize stepT p i inn st = q at *
      obtain ⟨e, st2⟩ := q
      simp only at hstp hkeep hv
      refine aCallN_of [4, 2, 3] hstp rfl (by simp [renF, treeA, AV.toT, allT]) (by simp) (by simp [framed, renF, o1, o2]) (by simp [AV.under, AV.under1]) (by simp [Ob.below, AV.under1]) ?_
      simp [renF, frameH, setAll]
      refine ⟨fun he => ?_, fun he => ?_⟩
      · rw [if_pos he] at hv
        rw [← hv]
        exact gives_pure (by simp [AV.pur, verR, toTs, noTy])
      · rw [if_neg (by simpa using he)] at hv
        rw [w1]
        exact hB st2 _ hkeep.1 hkeep.2 hv hlt (by simp [vHL1]) (by simp)
  · have hi0 : p.length - i = 0 := by omega
    rw [hi0, verL] at hv
    rw [← hv]
    exact gives_pure (by simp [AV.pur, verR, toTs])

def vHL2 (inn : Ty) (st : LkSt) : List Ob := [.box [.p (.int .i64 inn.kind), .p (.slice (inn.of.map encT))], .box [.p (.int .i64 0), .full []], .mrow 0 1 (lkK st), .mrow 0 1 (lkW st), .box [.msl 3 0 1 0 st.ways.length, .msl 2 0 1 0 st.kn.length, .p (.int .i64 st.out.kind), .p (.slice (st.out.of.map encT))]]

set_option maxHeartbeats 2000000 in
theorem ver_L2 (p : List In) (hp : OkP p) (inn : Ty) (st : LkSt) (i : Nat) (hi : i ≤ p.length) (ho : OkSt p.length st) (hs : shortW st) (B : List AV → List Ob → Prop) (res : Ty × Nat × Int) (hv : verL p inn (p.length - i) i st = res)
    (hB : ∀ (st' : LkSt) (H2 : List Ob), OkSt p.length st' → shortW st' → verL p inn (p.length - (i + 1)) (i + 1) st' = res → i < p.length → H2.take 5 = vHL2 inn st' → 5 ≤ H2.length → B [.p (.int .i64 (i + 1 : Nat))] H2) :
    runnelref14_Verify_L2 (.p (.slice (p.map encI))) (.bptr 0 0) (.bptr 1 0) (.bptr 4 0) (.p (.int .i64 i)) (vHL2 inn st) B (fun v H' => Gives 0 v H' (verR res) []) := by
  have hp' := hp
  obtain ⟨hp0, hp1, hpe⟩ := hp'
  have o1 := ho.1
  have o2 := ho.2
  have hml : p.length ≤ maxLen := by simp only [maxLen]; omega
  have w1 : IntKind.i64.wrap ((i : Int) + 1) = ((i + 1 : Nat) : Int) := by rw [IntWalk.i64_in _ (by omega)]; omega
  have w2 : IntKind.i64.wrap ((i : Int) + 1) = (i : Int) + 1 := IntWalk.i64_in _ (by omega)
  have lK : (lkK st).length = p.length := by simp [lkK, o2]
  have lW : (lkW st).length = p.length := by simp [lkW, o1]
  simp [runnelref14_Verify_L2, vHL2, hml, o1, o2]
  refine ⟨fun hlt => ?_, fun hge => ?_⟩
  · have hKi : (lkK st)[i]? = some (.bool (st.kn.getD i false)) := by
      simp [lkK, List.getD_eq_getElem?_getD, show i < st.kn.length by omega]
    have hKi' : ∀ h : i < (lkK st).length, (lkK st)[i]'h = .bool (st.kn.getD i false) := fun h => by rw [List.getElem?_eq_getElem h] at hKi; exact Option.some.inj hKi
    have hstp := step_spec14 p hp st i hlt inn ho hs
    have hkeep := step_keeps (p := p) (i := i) (inn := inn) ho hs
    have hn : p.length - i = (p.length - (i + 1)) + 1 := by omega
    rw [hn, verL] at hv
    simp [hlt, lK, hKi', hKi]
    rw [List.getD_eq_getElem?_getD] at hv
    refine ⟨fun hk => ?_, fun hk => ?_⟩
    · rw [if_pos hk] at hv
      rw [w1]
      exact hB st _ ho hs hv hlt (by simp [vHL2, o1, o2]) (by simp)
    · rw [if_neg (by simp [hk])] at hv
      simp only [encT_eta] at hstp
      generalize stepT p i inn st = q at *
      obtain ⟨e, st2⟩ := q
      simp only at hstp hkeep hv
      refine aCallN_of [4, 3, 2] hstp rfl (by simp [renF, treeA, AV.toT, allT]) (by simp) (by simp [framed, renF, o1, o2]) (by simp [AV.under, AV.under1]) (by simp [Ob.below, AV.under1]) ?_
      simp [renF, frameH, setAll]
      refine ⟨fun he => ?_, fun he => ?_⟩
      · rw [if_pos he] at hv
        rw [← hv]
        exact gives_pure (by simp [AV.pur, verR, toTs, noTy])
      · rw [if_neg (by simpa using he)] at hv
        rw [w1]
        exact hB st2 _ hkeep.1 hkeep.2 hv hlt (by simp [vHL2]) (by simp)
  · have hi0 : p.length - i = 0 := by omega
    rw [hi0, verL] at hv
    rw [← hv]
    exact gives_pure (by simp [AV.pur, verR, toTs])

theorem verP_chk {p : List In} (h : (checkP p).2 = 0) : OkP p := checkP_ok h

set_option maxHeartbeats 2000000 in
theorem Verify_spec (p : List In) (inn : Ty) (hl : p.length ≤ 1000000) : Abs.Fn Tryd.prog runnelref14_Verify_i [] [.p (.slice (p.map encI)), .p (encT inn)] (verR (verP p inn)) [] := by
  have hck := check_spec14 p hl
  have hct := CheckType_spec inn
  have hvp : verP p inn = if (checkP p).2 ≠ 0 then (noTy, (checkP p).1, (checkP p).2) else if checkT inn 0 ≠ 0 then (noTy, 0, 5) else verL p inn p.length 0 (st0 p.length) := rfl
  have hok := verP_chk (p := p)
  generalize verP p inn = res at *
  generalize checkP p = c at *
  obtain ⟨ck, ce⟩ := c
  simp only [encT_eta] at hck hct hvp hok
  apply runnelref14_Verify_fn
  simp [runnelref14_Verify]
  refine aCallW_of rfl rfl hck ?_
  simp
  refine ⟨fun he => ?_, fun he => ?_⟩
  · rw [hvp, if_pos he]
    exact gives_pure (by simp [AV.pur, verR, toTs, noTy])
  rw [if_neg (by simpa using he)] at hvp
  refine aCallW_of rfl rfl hct ?_
  simp
  refine ⟨fun ht => ?_, fun ht => ?_⟩
  · rw [hvp, if_pos ht]
    exact gives_pure (by simp [AV.pur, verR, toTs, noTy])
  rw [if_neg (by simpa using ht)] at hvp
  obtain ⟨hp0, hp1, hpe⟩ := hok he
  have hml : p.length ≤ maxLen := by simp only [maxLen]; omega
  refine ⟨hml, ?_⟩
  have hokp : OkP p := hok he
  have hgK : (List.replicate p.length (T.bool false))[0]?.getD default = T.bool false := by simp [List.getElem?_replicate, hp0]
  have hpt : (T.bool false).putT 0 [T.bool true] = T.bool true := rfl
  rw [hgK, hpt]
  have hW0 : lkW (st0 p.length) = List.replicate p.length (T.slice []) := by simp [lkW, st0]
  have hK0 : lkK (st0 p.length) = (List.replicate p.length (T.bool false)).set 0 (T.bool true) := by simp [lkK, st0, List.map_set]
  have hw0 : (st0 p.length).ways.length = p.length := by simp [st0]
  have hk0 : (st0 p.length).kn.length = p.length := by simp [st0]
  have ho0 : (st0 p.length).out.kind = 0 := rfl
  have ho1 : (st0 p.length).out.of = [] := rfl
  have hok0 : OkSt p.length (st0 p.length) := ⟨hw0, hk0⟩
  have hsh0 : shortW (st0 p.length) := fun s hs => by
    have : s = [] := by simp only [st0] at hs; exact (List.mem_replicate.1 hs).2
    rw [this]; simp
  have hsz : (p.length : Int) ≤ 1048576 := by omega
  refine ⟨⟨hsz, hp0, ?_⟩, hsz, hp0, ?_⟩
  · refine loop_le (n := 5) (fun q : Nat × LkSt => [.p (.int .i64 q.1)]) (fun q => vHL1 inn q.2) (fun q => q.1 ≤ p.length ∧ OkSt p.length q.2 ∧ shortW q.2 ∧ verL p inn (p.length - q.1) q.1 q.2 = res) (fun q => p.length - q.1) [] (0, st0 p.length) (fun q => rfl) ?_ ⟨by simp, hok0, hsh0, hvp.symm⟩ ?_
    · simp [ghosts, vHL1, hW0, hK0, hw0, hk0, ho0, ho1, noTy]
    · rintro ⟨i, st⟩ B ⟨h1, h2, h3, h4⟩ hB
      refine ver_L1 p hokp inn st i h1 h2 h3 B res h4 (fun st' H2 a1 a2 a3 a4 a5 a6 => ?_)
      refine hB (i + 1, st') _ H2 ⟨by simp only; omega, a1, a2, a3⟩ (by simp only; omega) (all2_refl le_refl _) (by rw [a5]; exact all2_refl leO_refl _) a6 (by simp [AV.under, AV.under1]) (by simp [vHL1, Ob.below, AV.under1])
  · refine loop_le (n := 5) (fun q : Nat × LkSt => [.p (.int .i64 q.1)]) (fun q => vHL2 inn q.2) (fun q => q.1 ≤ p.length ∧ OkSt p.length q.2 ∧ shortW q.2 ∧ verL p inn (p.length - q.1) q.1 q.2 = res) (fun q => p.length - q.1) [] (0, st0 p.length) (fun q => rfl) ?_ ⟨by simp, hok0, hsh0, hvp.symm⟩ ?_
    · simp [ghosts, vHL2, hW0, hK0, hw0, hk0, ho0, ho1, noTy]
    · rintro ⟨i, st⟩ B ⟨h1, h2, h3, h4⟩ hB
      refine ver_L2 p hokp inn st i h1 h2 h3 B res h4 (fun st' H2 a1 a2 a3 a4 a5 a6 => ?_)
      refine hB (i + 1, st') _ H2 ⟨by simp only; omega, a1, a2, a3⟩ (by simp only; omega) (all2_refl le_refl _) (by rw [a5]; exact all2_refl leO_refl _) a6 (by simp [AV.under, AV.under1]) (by simp [vHL2, Ob.below, AV.under1])

end Go.Proofs.YtcdkdmjedkhpiaaDoor
