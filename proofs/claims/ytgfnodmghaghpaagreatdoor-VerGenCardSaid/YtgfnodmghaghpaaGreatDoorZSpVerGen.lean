/- The law VerGen. -/
import Derived.Test.YtgfnodmghaghpaaGreatDoorZSpLaw13Q
import Derived.Test.YtgfnodmghaghpaaGreatDoorZPuVerI
import Derived.Test.YtgfnodmghaghpaaGreatDoorZSpToQ
import Derived.Test.YtgfnodmghaghpaaGreatDoorZSpGenD
set_option linter.unusedSimpArgs false
set_option linter.unusedVariables false
namespace Go.Proofs.YtgfnodmghaghpaaGreatDoor
open Go Go.Abs

attribute [local irreducible] Abs.Fn

theorem genOf_v {k : Int} {es : List Ex} (h : ∀ e ∈ es, We 1000000000 e) : ∀ x ∈ genOf k es, Wv 1000000000 x.v := by
  have hz : Wv 1000000000 zeroV := .mk _ _ _ _ _ (by simp) (by simp) (by simp)
  have hj := joinI_v (p := Wv 1000000000) (genEs es) (genEs_wv es h)
  have ho : ∀ (op : List UInt8) (n : Int), Wv 1000000000 (oneI op n).v := fun _ _ => hz
  unfold genOf
  split
  · intro x hx
    rcases List.mem_append.1 hx with hx | hx
    · exact hj x hx
    · simp only [emitsI, List.mem_cons, List.not_mem_nil, or_false] at hx
      rcases hx with rfl | rfl <;> exact hz
  · split
    · intro x hx
      rcases List.mem_append.1 hx with hx | hx
      · exact hj x hx
      · simp only [emitsI, List.mem_cons, List.not_mem_nil, or_false] at hx
        rcases hx with rfl | rfl | rfl | rfl <;> exact hz
    · intro x hx
      simp only [emitsI, List.mem_cons, List.not_mem_nil, or_false] at hx
      rcases hx with rfl | rfl | rfl <;> exact hz

theorem sizeEs_le4 : ∀ {a : List Ex}, (∀ e ∈ a, sizeE e ≤ 400) → sizeEs a ≤ 400 * a.length
  | [], _ => by simp [sizeEs]
  | e :: r, h => by
    have h1 := h e (by simp)
    have h2 := sizeEs_le4 (a := r) fun e he => h e (by simp [he])
    simp only [sizeEs, List.length_cons]
    omega

theorem genOf_len {k : Int} {es : List Ex} (h : sizeEs es ≤ 100000) : (genOf k es).length ≤ 1000000 := by
  have h1 := genEs_len es
  have h2 : (joinI (genEs es)).length ≤ 4 * sizeEs es := by rw [joinI_length]; exact h1
  unfold genOf
  split
  · simp [emitsI]; omega
  · split
    · simp [emitsI]; omega
    · simp [emitsI]

set_option maxRecDepth 100000 in
set_option maxHeartbeats 1000000 in
theorem VerGen_spec (o : Opr) (inn : Ty) : Abs.Fn Tryz.prog runnellaw13_VerGen_i [] [.p (encO o), .p (encT inn)] (.p (.bool true)) [] := by
  have hfew := few7_spec o
  have hft := few1_spec inn
  apply runnellaw13_VerGen_fn
  simp only [encT_eta, encO_eta] at hft hfew
  simp [runnellaw13_VerGen]
  refine aCallW_of rfl rfl known13 ?_
  simp
  refine aCallN_of [] hfew rfl (by simp [renF, treeA]) (by simp) (by simp [framed, renF]) (by simp [AV.under, AV.under1]) (by simp [Ob.below, AV.under1]) ?_
  simp [renF, frameH, setAll]
  refine aMerge_intro (!fewT inn) (fun _ => ?_) ?_
  · refine aCallN_of [] hft rfl (by simp [renF, treeA]) (by simp) (by simp [framed, renF]) (by simp [AV.under, AV.under1]) (by simp [Ob.below, AV.under1]) ?_
    simp [renF, frameH, setAll]
  simp
  refine ⟨fun _ => gives_p rfl, fun h1 h2 => ?_⟩
  obtain ⟨f1, f2, f3, f4⟩ := fewO_small h1
  have hof := of7_spec f1 f2.1 (fun e he => (f3 e he).1) (by omega)
  have hT := fewT_small h2
  have hoft := of1_spec hT
  have hout := OutR_spec o [inn] (fun e he => ⟨(f3 e he).1, by have := (f3 e he).2; omega⟩) ⟨f2.1, by omega⟩ (by omega)
  simp only [List.map_cons, List.map_nil, encT_eta, encO_eta] at hof hoft hout
  refine aCallN_of [] hof rfl (by simp [renF, treeA]) (by simp) (by simp [framed, renF]) (by simp [AV.under, AV.under1]) (by simp [Ob.below, AV.under1]) ?_
  simp [renF, frameH, setAll]
  refine ⟨fun _ _ _ => gives_p rfl, fun hk => ?_⟩
  have hk' : o.k = 2 ∨ o.k = 3 ∨ o.k = 4 := by omega
  refine aCallT_of (ts := [.agg [.int .i64 inn.kind, .slice (inn.of.map encT)]]) (caps := []) (by simp) hoft rfl ?_
  simp [frameH, setAll]
  cases hr : outO o [inn] with
  | er f =>
    rw [hr] at hout
    refine aCallT_of (ts := [.agg [.int .i64 o.k, .str o.name, .int .i64 o.t.kind, .slice (o.t.of.map encT), .slice (o.es.map encE), .str o.key.op, .int .i64 o.key.v.k, .int .i64 o.key.v.i, .bool o.key.v.b, .str o.key.v.s, .slice (o.key.v.t.map encV), .int .i64 o.key.n, .slice (o.key.a.map encE), .int .i64 o.f, .int .i64 o.n], .slice [.agg [.int .i64 inn.kind, .slice (inn.of.map encT)]]]) (caps := []) (by simp) hout (by simp [tyR, AV.pur, toTs]; rfl) ?_
    simp [frameH, setAll]
    exact ⟨fun _ => gives_p rfl, fun h => absurd h (show f ≠ 0 from outO_er hr)⟩
  | ok r =>
    rw [hr] at hout
    have hgs := gen_sound hr hk'
    obtain ⟨g1, _, _, g4, _⟩ := outO_ok hr
    have hlen := fieldsO_len g1
    have hes : sizeEs o.es ≤ 100000 := by
      have : ∀ e ∈ o.es, sizeE e ≤ 400 := fun e he => (f3 e he).2
      have h8 := f4
      have : sizeEs o.es ≤ 400 * o.es.length := sizeEs_le4 this
      omega
    have hgen := GenR_spec o (fun e he => by obtain ⟨u, hu⟩ := g4 e he; exact checkE_OkG hu) hes hlen.1
    have hgl : (genOf o.k o.es).length ≤ 1000000 := genOf_len hes
    have hto := to11_spec (genOf o.k o.es) hgl (genOf_v fun e he => (f3 e he).1)
    have hck := VCheck_spec (genOf o.k o.es) inn hgl
    have hwr : Wd 1000000000 r := by have := verP_wd (genOf o.k o.es) inn; rw [hgs] at this; exact this
    have hor := of1_spec hwr
    have hsame := sameType_spec r r
    rw [(sameT_iff _ _).2 rfl] at hsame
    rw [hgs] at hck
    simp only [encT_eta, encO_eta, encPr] at hgen hto hck hor hsame
    refine aCallT_of (ts := [.agg [.int .i64 o.k, .str o.name, .int .i64 o.t.kind, .slice (o.t.of.map encT), .slice (o.es.map encE), .str o.key.op, .int .i64 o.key.v.k, .int .i64 o.key.v.i, .bool o.key.v.b, .str o.key.v.s, .slice (o.key.v.t.map encV), .int .i64 o.key.n, .slice (o.key.a.map encE), .int .i64 o.f, .int .i64 o.n], .slice [.agg [.int .i64 inn.kind, .slice (inn.of.map encT)]]]) (caps := []) (by simp) hout (by simp [tyR, AV.pur, toTs]; rfl) ?_
    simp [frameH, setAll]
    refine ⟨fun h => absurd (show (R.ok r).num = 0 from rfl) h, fun _ => ?_⟩
    refine aCallT_of (ts := [.agg [.int .i64 o.k, .str o.name, .int .i64 o.t.kind, .slice (o.t.of.map encT), .slice (o.es.map encE), .str o.key.op, .int .i64 o.key.v.k, .int .i64 o.key.v.i, .bool o.key.v.b, .str o.key.v.s, .slice (o.key.v.t.map encV), .int .i64 o.key.n, .slice (o.key.a.map encE), .int .i64 o.f, .int .i64 o.n]]) (caps := []) (by simp) hgen rfl ?_
    simp [frameH, setAll]
    refine aCallT_of (ts := [.slice ((genOf o.k o.es).map encI)]) (caps := []) (by simp) hto rfl ?_
    simp [frameH, setAll]
    refine aCallT_of (ts := [.slice ((genOf o.k o.es).map encI), .agg [.int .i64 inn.kind, .slice (inn.of.map encT)]]) (caps := []) (by simp) hck (by simp [verR, AV.pur, toTs]; rfl) ?_
    simp [frameH, setAll]
    refine aCallT_of (ts := [.agg [.int .i64 r.kind, .slice (r.of.map encT)]]) (caps := []) (by simp) hor rfl ?_
    simp [frameH, setAll]
    refine aCallT_of (ts := [.agg [.int .i64 r.kind, .slice (r.of.map encT)], .agg [.int .i64 r.kind, .slice (r.of.map encT)]]) (caps := []) (by simp [R.get]) hsame rfl ?_
    simp
    exact gives_p rfl

end Go.Proofs.YtgfnodmghaghpaaGreatDoor

