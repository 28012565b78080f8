/- More operations that only reckon: places, parts, slices, lengths, conversions, literals. -/
import Derived.Test.YtiejfphchpcldaaAbsCells
import Derived.Laws.BytesString
namespace Go.Abs

variable {P : Program}

theorem RepA.elems {G : Gh} {x : AV} {v : Value} {es : List T} (h : RepA G x v) (e : x.elems = some es) : RepT G.rd (.slice es) v := by
  cases h with
  | p t v h => cases t <;> simp [AV.elems] at e; exact e ▸ h
  | full es a h => simp [AV.elems] at e; exact e ▸ h
  | own id es a a' cap cap' n s h hl hn he hs => simp [AV.elems] at e; exact e ▸ h
  | nils cap => simp [AV.elems] at e; subst e; exact .nil none cap
  | nns es a cap h => simp [AV.elems] at e; exact e ▸ h
  | _ => simp [AV.elems] at e

theorem addr_add (b o n : Nat) : (⟨b, o, none⟩ : Addr).add n = ⟨b, o + n, none⟩ := by
  unfold Addr.add
  split
  · rename_i h; simp [h]
  · rfl

theorem info_size {t : TypeId} {i : TypeInfo} (h : P.info? t = some i) (w : World) : (sizeOf t).run P w = .ok i.size w := by simp [sizeOf, typeInfo, h]

theorem fieldAt_sound {s : TypeId} {fs : Array Field} {f : Nat} {fl : Field} {i : TypeInfo} {x : AV} {K : AV → Prop} (hs : P.underlying s = some (.struct fs)) (hf : fs[f]? = some fl) (hi : P.info? fl.type = some i)
    (hz : i.size ≠ 0) (h : aFieldAddr fl.offset x K) :
    ∃ r, K r ∧ ∀ (w : World) (G : Gh) (vx : Value), RepA G x vx → ∃ v, (Instr.fieldAt s vx f).run P w = .ok v w ∧ RepA G r v := by
  have run : ∀ (w : World) (b o : Nat), (Instr.fieldAt s (.pointer (some ⟨b, o, none⟩)) f).run P w = .ok (.pointer (some ⟨b, o + fl.offset, none⟩)) w := by
    intro w b o
    simp [Instr.fieldAt, run_underlying' hs, hf, Instr.sureAddr, fieldPlace, info_size hi, hz, addr_add]
  unfold aFieldAddr at h
  split at h
  · refine ⟨_, h, fun w G vx rx => ?_⟩
    cases rx with
    | bptr id off b hl => exact ⟨_, run w b _, .bptr _ _ b hl⟩
  · refine ⟨_, h, fun w G vx rx => ?_⟩
    have rx := repA_p.1 rx
    cases rx with
    | imm _ off b o val hr hv hk =>
      refine ⟨_, run w b _, .p _ _ ?_⟩
      rw [Nat.add_assoc]
      exact .imm _ _ b o val hr hv hk
  · rename_i id ver s' i' off
    refine ⟨_, h, fun w G vx rx => ?_⟩
    cases rx with
    | mptr _ _ _ _ _ b o a a' cap cap' ver' hl hn he hi2 ha =>
      refine ⟨_, run w b _, ?_⟩
      rw [Nat.add_assoc (o + i' * s') off fl.offset]
      exact .mptr id ver s' i' _ b o a a' cap cap' ver' hl hn he hi2 ha
  · exact h.elim

theorem indexAt_sound {t e : TypeId} {i : TypeInfo} {x ix : AV} {K : AV → Prop} (ht : P.underlying t = some (.slice e)) (hi : P.info? e = some i) (h : aIndexAddr i.size x ix K) :
    ∃ r, K r ∧ ∀ (w : World) (G : Gh) (vx vi : Value), RepA G x vx → RepA G ix vi → ∃ v, (Instr.indexAt t vx vi).run P w = .ok v w ∧ RepA G r v := by
  unfold aIndexAddr at h
  split at h
  · rename_i id ver s' off len k n
    obtain ⟨hs, ⟨h0, h1⟩, h3⟩ := h
    subst hs
    refine ⟨_, h3, fun w G vx vi rx ri => ?_⟩
    obtain rfl := repA_int.1 ri
    cases rx with
    | msl _ _ _ _ _ a a' a2 cap cap' ver' c2 hl hn he hc hm hz h2 ha =>
      obtain ⟨b, o, rfl⟩ := hz (by omega)
      have ha := ha (by omega)
      subst ha
      refine ⟨.pointer (some ⟨b, o + off * i.size + n.toNat * i.size, none⟩), ?_, ?_⟩
      · simp [Instr.indexAt, run_underlying' ht, asIntOf, h0, h1, info_size hi, addr_add]
      · have := RepA.mptr id ver i.size (off + n.toNat) 0 b o _ a' cap cap' ver' hl hn he (by omega) rfl
        rw [Nat.add_mul, ← Nat.add_assoc] at this
        exact this
  split at h
  · rename_i es k n hel _
    obtain ⟨⟨h0, h1⟩, h2, h3⟩ := h
    refine ⟨_, h3, fun w G vx vi rx ri => ?_⟩
    obtain rfl := repA_int.1 ri
    have hr := rx.elems hel
    have hlt : n.toNat < es.length := by omega
    generalize hes : es = es' at hr
    cases hr with
    | nil a cap => subst hes; simp at hlt
    | slice _ b o cap s val hs hr hv hk hl hc =>
      subst hes
      have he : es[n.toNat]? = some (es.getD n.toNat default) := by
        rw [List.getD_eq_getElem?_getD, List.getElem?_eq_getElem hlt]; rfl
      have hsz : (es.getD n.toNat default).cells.length = s := hs _ (List.mem_of_getElem? he)
      refine ⟨.pointer (some ⟨b, o + n.toNat * s, none⟩), ?_, .p _ _ ?_⟩
      · have : i.size = s := by omega
        subst this
        simp [Instr.indexAt, run_underlying' ht, asIntOf, h0, h1, info_size hi, addr_add]
      · have := RepT.imm (rd := G.rd) (es.getD n.toNat default).cells 0 b (o + n.toNat * s) (fun j => val n.toNat j) (fun j c hc => hr _ _ _ _ he hc) (fun j c hc => hv _ _ _ _ he hc) (fun j c hc => hk _ _ _ _ he hc)
        simpa using this
  · exact h.elim

theorem index_sound {t : TypeId} {x ix : AV} {K : AV → Prop} (ht : P.underlying t = some .string) (h : aIndex x ix K) :
    ∃ r, K r ∧ ∀ (w : World) (G : Gh) (vx vi : Value), RepA G x vx → RepA G ix vi → ∃ v, (Instr.index t vx vi).run P w = .ok v w ∧ RepA G r v := by
  unfold aIndex at h
  split at h
  · rename_i s k n
    obtain ⟨⟨h0, h1⟩, h3⟩ := h
    refine ⟨_, h3, fun w G vx vi rx ri => ?_⟩
    obtain rfl := repA_int.1 ri
    obtain ⟨rfl, _⟩ := repA_str.1 rx
    have hlt : n.toNat < s.length := by omega
    have he : (⟨s.toArray⟩ : ByteArray)[n.toNat]? = some (s.getD n.toNat 0) := by
      rw [ByteArray.getElem?_lt' _ _ (by simpa [ByteArray.size] using hlt)]
      rw [List.getD_eq_getElem?_getD, List.getElem?_eq_getElem hlt]
      rfl
    refine ⟨_, ?_, .p _ _ (.int _ _)⟩
    simp [Instr.index, run_underlying' ht, asIntOf, h0, he]
  · exact h.elim

theorem boundK_get {b : Option AV} {d : Int} {K : Int → Prop} (h : boundK b d K) : ∃ n, K n ∧ ((b = none ∧ n = d) ∨ ∃ k, b = some (.p (.int k n))) := by
  unfold boundK at h
  split at h
  · exact ⟨_, h, .inl ⟨rfl, rfl⟩⟩
  · exact ⟨_, h, .inr ⟨_, rfl⟩⟩
  · exact h.elim

/-- What the bounds of a slice expression come to. -/
theorem sliceBounds_run {lo hi mx : Option Value} {isSlice : Bool} {len cap : Nat} {l h m : Int} (hl0 : 0 ≤ l) (hlh : l ≤ h) (hhm : h ≤ m) (hm : m ≤ cap)
    (elo : (lo = none ∧ l = 0) ∨ ∃ k, lo = some (.int k l)) (ehi : (hi = none ∧ mx = none ∧ h = len) ∨ ∃ k, hi = some (.int k h)) (emx : (mx = none ∧ m = cap) ∨ ∃ k, mx = some (.int k m)) (w : World) :
    (Instr.sliceBounds isSlice len cap lo hi mx).run P w = .ok (l.toNat, h.toNat, m.toNat) w := by
  have bnd : ∀ (k : IntKind) (n : Int) (y : Nat) (c : BoundsCode), 0 ≤ n → n ≤ y → (Instr.sliceBound (.int k n) y c).run P w = .ok n.toNat w := by
    intro k n y c h0 h1
    simp [Instr.sliceBound, asIntOf, h0, h1]
  have hcap : (m.toNat : Int) = m := by omega
  have hh : (h.toNat : Int) = h := by omega
  unfold Instr.sliceBounds
  rcases emx with ⟨rfl, e3⟩ | ⟨km, rfl⟩
  · have e3' : cap = m.toNat := by omega
    rcases ehi with ⟨rfl, _, e2⟩ | ⟨kh, rfl⟩
    · have e2' : len = h.toNat := by omega
      rcases elo with ⟨rfl, e1⟩ | ⟨kl, rfl⟩
      · subst e1; simp [← e2', ← e3']
      · simp only [Sem.run_bind, Sem.run_pure, Result.andThen]
        rw [bnd kl l len _ hl0 (by omega)]
        simp [← e2', ← e3']
    · rcases elo with ⟨rfl, e1⟩ | ⟨kl, rfl⟩
      · subst e1
        simp only [Sem.run_bind, Sem.run_pure, Result.andThen]
        rw [bnd kh h cap _ (by omega) (by omega)]
        simp [← e3']
      · simp only [Sem.run_bind, Sem.run_pure, Result.andThen]
        rw [bnd kh h cap _ (by omega) (by omega)]
        simp only []
        rw [bnd kl l h.toNat _ hl0 (by omega)]
        simp [← e3']
  · rcases ehi with ⟨rfl, hn, e2⟩ | ⟨kh, rfl⟩
    · simp at hn
    · rcases elo with ⟨rfl, e1⟩ | ⟨kl, rfl⟩
      · subst e1
        simp only [Sem.run_bind, Sem.run_pure, Result.andThen]
        rw [bnd km m cap _ (by omega) (by omega)]
        simp only []
        rw [bnd kh h m.toNat _ (by omega) (by omega)]
        simp
      · simp only [Sem.run_bind, Sem.run_pure, Result.andThen]
        rw [bnd km m cap _ (by omega) (by omega)]
        simp only []
        rw [bnd kh h m.toNat _ (by omega) (by omega)]
        simp only []
        rw [bnd kl l h.toNat _ hl0 (by omega)]

/-- A part of a slice. -/
theorem RepT.sub {rd : Rd} {es : List T} {b o cap s : Nat} (h : RepT rd (.slice es) (.slice (some ⟨b, o, none⟩) es.length cap)) (hs : ∀ e ∈ es, e.cells.length = s) (l k : Nat) (hlk : l ≤ k) (hk : k ≤ es.length) (cap' : Nat) (hc : k - l ≤ cap') :
    RepT rd (.slice ((es.take k).drop l)) (.slice (some ⟨b, o + l * s, none⟩) (k - l) cap') := by
  have hlen : ((es.take k).drop l).length = k - l := by simp; omega
  by_cases h0 : k - l = 0
  · have : (es.take k).drop l = [] := List.eq_nil_of_length_eq_zero (by omega)
    rw [this, h0]
    exact .nil _ _
  generalize hv : Value.slice (some ⟨b, o, none⟩) es.length cap = v at h
  generalize hes : es = es' at h
  cases h with
  | nil a c => subst hes; simp at hk; omega
  | slice _ b' o' cap2 s' val hs' hr hv' hk' hl hc' =>
    subst hes
    injection hv with e1 e2 e3
    injection e1 with e1
    injection e1 with e4 e5
    subst e4 e5
    have hne : 0 < es.length := by omega
    have he0 : es[0]? = some es[0] := List.getElem?_eq_getElem hne
    have hss : s' = s := by
      rw [← hs' _ (List.mem_of_getElem? he0), hs _ (List.mem_of_getElem? he0)]
    subst hss
    have look : ∀ i e, ((es.take k).drop l)[i]? = some e → es[l + i]? = some e := by
      intro i e he
      rw [List.getElem?_drop, List.getElem?_take] at he
      split at he
      · exact he
      · simp at he
    have := RepT.slice (rd := rd) ((es.take k).drop l) b (o + l * s') cap' s' (fun i j => val (l + i) j)
      (fun e he => hs e (List.mem_of_mem_take (List.mem_of_mem_drop he)))
      (fun i j e c he hc => by have := hr (l + i) j e c (look i e he) hc; rw [← this]; congr 1; rw [Nat.add_mul]; omega)
      (fun i j e c he hc => hv' (l + i) j e c (look i e he) hc) (fun i j e c he hc => hk' (l + i) j e c (look i e he) hc) (by omega) (by omega)
    rwa [hlen] at this

theorem RepT.sizes {rd : Rd} {es : List T} {v : Value} (h : RepT rd (.slice es) v) : es = [] ∨ ∃ b o s cap, v = .slice (some ⟨b, o, none⟩) es.length cap ∧ ∀ e ∈ es, e.cells.length = s := by
  cases h with
  | nil a cap => exact .inl rfl
  | slice _ b o cap s val hs hr hv hk hl hc => exact .inr ⟨b, o, s, cap, rfl, hs⟩

/-- The bounds as they stand. -/
def RepO (G : Gh) (x : Option AV) (v : Option Value) : Prop := (x = none ∧ v = none) ∨ ∃ y u, x = some y ∧ v = some u ∧ RepA G y u

theorem RepO.bound {G : Gh} {b : Option AV} {v : Option Value} {d n : Int} (h : RepO G b v) (e : (b = none ∧ n = d) ∨ ∃ k, b = some (.p (.int k n))) :
    (b = none ∧ v = none ∧ n = d) ∨ ∃ k, v = some (.int k n) := by
  rcases e with ⟨rfl, rfl⟩ | ⟨k, rfl⟩
  · rcases h with ⟨_, rfl⟩ | ⟨y, u, h1, _⟩
    · exact .inl ⟨rfl, rfl, rfl⟩
    · simp at h1
  · rcases h with ⟨h1, _⟩ | ⟨y, u, h1, rfl, r⟩
    · simp at h1
    · simp at h1; subst h1
      obtain rfl := repA_int.1 r
      exact .inr ⟨k, rfl⟩

theorem slice_full {rd : Rd} {G : Gh} (hg : G.rd = rd) {es : List T} {a : Option Addr} {n cap : Nat} (h : RepT rd (.slice es) (.slice a n cap)) (hn : es.length = n) (hc : cap = n) : RepA G (.full es) (.slice a n cap) := by
  subst hn hc hg
  exact .full es a h

theorem sliceM_sound {t e : TypeId} {i : TypeInfo} {id ver s' off len : Nat} {lo hi mx : Option AV} {K : AV → Prop} (ht : P.underlying t = some (.slice e)) (hi' : P.info? e = some i) (h : aSliceM i.size id ver s' off len lo hi mx K) :
    ∃ r, K r ∧ ∀ (w : World) (G : Gh) (vx : Value) (vlo vhi vmx : Option Value), RepA G (.msl id ver s' off len) vx → RepO G lo vlo → RepO G hi vhi → RepO G mx vmx →
      ∃ v, (Instr.sliceAt t vx vlo vhi vmx).run P w = .ok v w ∧ RepA G r v := by
  unfold aSliceM at h
  obtain ⟨l, h, el⟩ := boundK_get h
  obtain ⟨u, h, eu⟩ := boundK_get h
  obtain ⟨⟨hs, h0, h1, h2⟩, h⟩ := h
  have part : ∀ (w : World) (G : Gh) (a : Option Addr) (cap : Nat) (vlo vhi vmx : Option Value) (m : Int), len ≤ cap → RepO G lo vlo → RepO G hi vhi →
      u ≤ m → m ≤ cap → ((vmx = none ∧ m = cap) ∨ ((∃ k, vmx = some (.int k m)) ∧ hi.isSome = true)) →
      (Instr.sliceAt t (.slice a len cap) vlo vhi vmx).run P w = .ok (.slice (if m.toNat = l.toNat then a else a.map (·.add (l.toNat * i.size))) (u.toNat - l.toNat) (m.toNat - l.toNat)) w := by
    intro w G a cap vlo vhi vmx m hcap rlo rhi hm1 hm2 em
    have blo := rlo.bound el
    have bhi := rhi.bound eu
    have hrun := sliceBounds_run (P := P) (isSlice := true) (len := len) (cap := cap) (l := l) (h := u) (m := m) (lo := vlo) (hi := vhi) (mx := vmx) h0 h1 hm1 hm2
      (by rcases blo with ⟨_, e1, e2⟩ | e
          · exact .inl ⟨e1, e2⟩
          · exact .inr e)
      (by rcases bhi with ⟨e0, e1, e2⟩ | e
          · rcases em with ⟨e3, _⟩ | ⟨_, e3⟩
            · exact .inl ⟨e1, e3, e2⟩
            · rw [e0] at e3; simp at e3
          · exact .inr e)
      (by rcases em with ⟨e3, e4⟩ | ⟨e3, _⟩
          · exact .inl ⟨e3, e4⟩
          · exact .inr e3) w
    simp [Instr.sliceAt, Instr.slice, run_underlying' ht, hrun, info_size hi']
  cases mx with
  | none =>
    refine ⟨_, h, fun w G vx vlo vhi vmx rx rlo rhi rmx => ?_⟩
    have hv : vmx = none := by
      rcases rmx with ⟨_, e⟩ | ⟨y, z, e, _⟩
      · exact e
      · simp at e
    cases rx with
    | msl _ _ _ _ _ a a' a2 cap cap' ver' c2 hl hn he hc hm hz h2' ha =>
      have h5 := part w G a2 c2 vlo vhi vmx c2 (by omega) rlo rhi (by omega) (by omega) (.inl ⟨hv, rfl⟩)
      refine ⟨_, h5, ?_⟩
      subst hs
      refine .msl id ver i.size (off + l.toNat) (u.toNat - l.toNat) a a' _ cap cap' ver' _ hl hn he (by omega) (by omega) hz (by omega) (fun hlt => ?_)
      rw [if_neg (by omega), ha (by omega)]
      obtain ⟨b, o, rfl⟩ := hz (by omega)
      simp only [Option.map_some, addr_add]
      rw [Nat.add_mul, Nat.add_assoc]
  | some m =>
    obtain ⟨hsome, h7⟩ := h
    obtain ⟨m', ⟨⟨h4, h6⟩, h8⟩, em⟩ := boundK_get h7
    subst h4
    refine ⟨_, h8, fun w G vx vlo vhi vmx rx rlo rhi rmx => ?_⟩
    have bm := rmx.bound em
    have hv : ∃ k, vmx = some (.int k m') := by
      rcases bm with ⟨e, _⟩ | e
      · simp at e
      · exact e
    cases rx with
    | msl _ _ _ _ _ a a' a2 cap cap' ver' c2 hl hn he hc hm hz h2' ha =>
      have h5 := part w G a2 c2 vlo vhi vmx m' (by omega) rlo rhi (Int.le_refl _) (by omega) (.inr ⟨hv, hsome⟩)
      refine ⟨_, h5, ?_⟩
      have e0 : m'.toNat - l.toNat = 0 := by omega
      rw [e0]
      exact .full [] _ (.nil _ 0)

theorem sliceSl_sound {t e : TypeId} {i : TypeInfo} {x : AV} {lo hi mx : Option AV} {K : AV → Prop} (ht : P.underlying t = some (.slice e)) (hi' : P.info? e = some i) (h : aSlice false i.size x lo hi mx K) :
    ∃ r, K r ∧ ∀ (w : World) (G : Gh) (vx : Value) (vlo vhi vmx : Option Value), RepA G x vx → RepO G lo vlo → RepO G hi vhi → RepO G mx vmx →
      ∃ v, (Instr.sliceAt t vx vlo vhi vmx).run P w = .ok v w ∧ RepA G r v := by
  simp only [aSlice] at h
  split at h
  · exact sliceM_sound ht hi' h
  cases hel : x.elems with
  | none => simp [hel] at h
  | some es =>
    simp only [hel, aSliceSl] at h
    obtain ⟨l, h, el⟩ := boundK_get h
    obtain ⟨u, h, eu⟩ := boundK_get h
    obtain ⟨⟨h0, h1, h2⟩, h3, h⟩ := h
    have lu : u.toNat - l.toNat = ((es.take u.toNat).drop l.toNat).length := by simp; omega
    -- the value's part
    have part : ∀ (w : World) (G : Gh) (a : Option Addr) (cap : Nat) (vlo vhi vmx : Option Value) (m : Int), RepT G.rd (.slice es) (.slice a es.length cap) → es.length ≤ cap → RepO G lo vlo → RepO G hi vhi →
        u ≤ m → m ≤ cap → ((vmx = none ∧ m = cap) ∨ ((∃ k, vmx = some (.int k m)) ∧ hi.isSome = true)) →
        ∃ a', (Instr.sliceAt t (.slice a es.length cap) vlo vhi vmx).run P w = .ok (.slice a' (u.toNat - l.toNat) (m.toNat - l.toNat)) w ∧
          RepT G.rd (.slice ((es.take u.toNat).drop l.toNat)) (.slice a' (u.toNat - l.toNat) (m.toNat - l.toNat)) := by
      intro w G a cap vlo vhi vmx m hr hcap rlo rhi hm1 hm2 em
      have blo := rlo.bound el
      have bhi := rhi.bound eu
      have hrun := sliceBounds_run (P := P) (isSlice := true) (len := es.length) (cap := cap) (l := l) (h := u) (m := m) (lo := vlo) (hi := vhi) (mx := vmx) h0 h1 hm1 hm2
        (by rcases blo with ⟨_, e1, e2⟩ | e
            · exact .inl ⟨e1, e2⟩
            · exact .inr e)
        (by rcases bhi with ⟨e0, e1, e2⟩ | e
            · rcases em with ⟨e3, _⟩ | ⟨_, e3⟩
              · exact .inl ⟨e1, e3, e2⟩
              · rw [e0] at e3; simp at e3
            · exact .inr e)
        (by rcases em with ⟨e3, e4⟩ | ⟨e3, _⟩
            · exact .inl ⟨e3, e4⟩
            · exact .inr e3) w
      have hrun2 : (Instr.sliceAt t (.slice a es.length cap) vlo vhi vmx).run P w = .ok (.slice (if m.toNat = l.toNat then a else a.map (·.add (l.toNat * i.size))) (u.toNat - l.toNat) (m.toNat - l.toNat)) w := by
        simp [Instr.sliceAt, Instr.slice, run_underlying' ht, hrun, info_size hi']
      refine ⟨_, hrun2, ?_⟩
      by_cases hz : u = l
      · have : (es.take u.toNat).drop l.toNat = [] := List.eq_nil_of_length_eq_zero (by omega)
        rw [this]
        have : u.toNat - l.toNat = 0 := by omega
        rw [this]
        exact .nil _ _
      · rw [if_neg (by omega)]
        rcases hr.sizes with e0 | ⟨b, o, s, cap', ev, hs⟩
        · subst e0; simp at h2; omega
        · injection ev with e1 _ _
          subst e1
          have hadd : l.toNat * i.size = l.toNat * s := by
            by_cases hl : l = 0
            · subst hl; simp
            · rcases el with ⟨_, e2⟩ | ⟨k, e2⟩
              · omega
              · subst e2
                have := h3 (by omega)
                have hlt : l.toNat < es.length := by omega
                have he : es[l.toNat]? = some (es.getD l.toNat default) := by
                  rw [List.getD_eq_getElem?_getD, List.getElem?_eq_getElem hlt]; rfl
                rw [← this, hs _ (List.mem_of_getElem? he)]
          rw [hadd]
          simp only [Option.map_some, addr_add]
          exact hr.sub hs l.toNat u.toNat (by omega) (by omega) _ (by omega)
    cases mx with
    | none =>
      refine ⟨_, h, fun w G vx vlo vhi vmx rx rlo rhi rmx => ?_⟩
      have hr := rx.elems hel
      obtain ⟨a, cap, rfl, hc, _⟩ := hr.slice_form
      have hv : vmx = none := by
        rcases rmx with ⟨_, e⟩ | ⟨y, z, e, _⟩
        · exact e
        · simp at e
      obtain ⟨a', h5, h6⟩ := part w G a cap vlo vhi vmx cap hr hc rlo rhi (by omega) (by omega) (.inl ⟨hv, rfl⟩)
      exact ⟨_, h5, .p _ _ h6⟩
    | some m =>
      obtain ⟨hsome, h⟩ := h
      obtain ⟨m', ⟨h4, h⟩, em⟩ := boundK_get h
      subst h4
      refine ⟨_, h, fun w G vx vlo vhi vmx rx rlo rhi rmx => ?_⟩
      have hr := rx.elems hel
      obtain ⟨a, cap, rfl, hc, _⟩ := hr.slice_form
      have bm := rmx.bound em
      have hv : ∃ k, vmx = some (.int k m') := by
        rcases bm with ⟨e, _⟩ | e
        · simp at e
        · exact e
      obtain ⟨a', h5, h6⟩ := part w G a cap vlo vhi vmx m' hr hc rlo rhi (Int.le_refl _) (by omega) (.inr ⟨hv, hsome⟩)
      exact ⟨_, h5, slice_full rfl h6 lu.symm rfl⟩

theorem sliceStr_sound {t : TypeId} {x : AV} {lo hi mx : Option AV} {K : AV → Prop} (ht : P.underlying t = some .string) (h : aSlice true 0 x lo hi mx K) :
    ∃ r, K r ∧ ∀ (w : World) (G : Gh) (vx : Value) (vlo vhi vmx : Option Value), RepA G x vx → RepO G lo vlo → RepO G hi vhi → RepO G mx vmx →
      ∃ v, (Instr.sliceAt t vx vlo vhi vmx).run P w = .ok v w ∧ RepA G r v := by
  simp only [aSlice] at h
  split at h
  · rename_i s
    simp only [aSliceStr] at h
    obtain ⟨l, h, el⟩ := boundK_get h
    obtain ⟨u, h, eu⟩ := boundK_get h
    obtain ⟨⟨h0, h1, h2⟩, h⟩ := h
    refine ⟨_, h, fun w G vx vlo vhi vmx rx rlo rhi rmx => ?_⟩
    obtain ⟨rfl, hlen⟩ := repA_str.1 rx
    have hv : vmx = none := by
      rcases rmx with ⟨_, e⟩ | ⟨y, z, e, _⟩
      · exact e
      · simp at e
    subst hv
    have hsz : (⟨s.toArray⟩ : ByteArray).size = s.length := by simp [ByteArray.size]
    have blo := rlo.bound el
    have bhi := rhi.bound eu
    have hrun := sliceBounds_run (P := P) (isSlice := false) (len := s.length) (cap := s.length) (l := l) (h := u) (m := s.length) (lo := vlo) (hi := vhi) (mx := none) h0 h1 h2 (Int.le_refl _)
      (by rcases blo with ⟨_, e1, e2⟩ | e
          · exact .inl ⟨e1, e2⟩
          · exact .inr e)
      (by rcases bhi with ⟨e0, e1, e2⟩ | e
          · exact .inl ⟨e1, rfl, e2⟩
          · exact .inr e)
      (.inl ⟨rfl, rfl⟩) w
    refine ⟨.string ((⟨s.toArray⟩ : ByteArray).extract l.toNat u.toNat), ?_, ?_⟩
    · simp [Instr.sliceAt, Instr.slice, run_underlying' ht, hrun, hsz]
    · have e : (⟨s.toArray⟩ : ByteArray).extract l.toNat u.toNat = ⟨((s.take u.toNat).drop l.toNat).toArray⟩ := by
        apply ByteArray.ext
        simp [ByteArray.data_extract, List.drop_take]
      rw [e]
      exact .p _ _ (.str _ (by simp; omega))
  · exact h.elim

theorem extract_sound {x : AV} {i : Nat} {K : AV → Prop} (h : aExtract x i K) :
    ∃ r, K r ∧ ∀ (w : World) (G : Gh) (vx : Value), RepA G x vx → ∃ v, (Instr.extract vx i).run P w = .ok v w ∧ RepA G r v := by
  unfold aExtract at h
  split at h
  · rename_i vs
    obtain ⟨h1, h2⟩ := h
    refine ⟨_, h2, fun w G vx rx => ?_⟩
    cases rx with
    | tup _ us hn hv =>
      have hi : i < us.size := by omega
      refine ⟨us[i], by simp [Instr.extract, Array.getElem?_eq_getElem hi], ?_⟩
      have := hv i (vs.getD i .top) (by rw [List.getD_eq_getElem?_getD, List.getElem?_eq_getElem h1]; rfl)
      simpa [Array.getD_eq_getD_getElem?, Array.getElem?_eq_getElem hi] using this
  · exact h.elim

theorem lenK_get {draw : Bool} {n : Nat} {K : AV → Prop} (h : lenK draw n K) : (draw = true → K (.p (.int .i64 n))) ∧ (n ≤ maxLen → K (.p (.int .i64 n))) := by
  cases draw with
  | true => exact ⟨fun _ => h.2, fun _ => h.2⟩
  | false => exact ⟨fun e => by simp at e, h⟩

theorem len_sound_str {t ty : TypeId} {draw : Bool} {x : AV} {K : AV → Prop} (ht : P.underlying t = some .string) (h : aLen draw true x K) :
    ∃ r, (draw = true → K r) ∧ ∀ (w : World) (G : Gh) (vx : Value), RepA G x vx → K r ∧ ∃ v, (Builtin.len_ #[t] ty #[vx]).run P w = .ok v w ∧ RepA G r v := by
  simp only [aLen] at h
  split at h
  · rename_i s
    obtain ⟨h1, h2⟩ := lenK_get h
    refine ⟨.p (.int .i64 s.length), h1, fun w G vx rx => ?_⟩
    obtain ⟨rfl, hl⟩ := repA_str.1 rx
    have hsz : (⟨s.toArray⟩ : ByteArray).size = s.length := by simp [ByteArray.size]
    exact ⟨h2 hl, .int .i64 s.length, by simp [Builtin.len_, run_underlying' ht, hsz, goInt], .p _ _ (.int _ _)⟩
  · exact h.elim

theorem len_sound_sl {t e ty : TypeId} {draw : Bool} {x : AV} {K : AV → Prop} (ht : P.underlying t = some (.slice e)) (h : aLen draw false x K) :
    ∃ r, (draw = true → K r) ∧ ∀ (w : World) (G : Gh) (vx : Value), RepA G x vx → K r ∧ ∃ v, (Builtin.len_ #[t] ty #[vx]).run P w = .ok v w ∧ RepA G r v := by
  simp only [aLen] at h
  split at h
  · rename_i id ver s off len
    obtain ⟨h1, h2⟩ := lenK_get h
    refine ⟨.p (.int .i64 len), h1, fun w G vx rx => ?_⟩
    cases rx with
    | msl _ _ _ _ _ a a' a2 cap cap' ver' c2 hl hn he hc hm hz h2' ha =>
      exact ⟨h2 hm, .int .i64 len, by simp [Builtin.len_, run_underlying' ht, goInt], .p _ _ (.int _ _)⟩
  split at h
  · rename_i es hel
    obtain ⟨h1, h2⟩ := lenK_get h
    refine ⟨.p (.int .i64 es.length), h1, fun w G vx rx => ?_⟩
    obtain ⟨a, cap, rfl, hc, hl⟩ := (rx.elems hel).slice_form
    exact ⟨h2 hl, .int .i64 es.length, by simp [Builtin.len_, run_underlying' ht, goInt], .p _ _ (.int _ _)⟩
  · exact h.elim

/- Conversions. -/
theorem convInt_run {src dst : TypeId} {d : TypeDesc} {k : IntKind} (hs : P.underlying src = some d) (hd : P.underlying dst = some (.int k)) (k' : IntKind) (n : Int) (w : World) :
    (convert src dst (.int k' n)).run P w = .ok (.int k (k.wrap n)) w := by
  simp [convert, run_underlying' hs, run_underlying' hd, Conv.intToInt]

theorem bytesOf_spec : ∀ {es : List T} {l : List UInt8}, bytesOf es = some l → ∃ ns : List Int, es = ns.map (T.int .u8) ∧ l = ns.map (fun n => UInt8.ofNat n.toNat)
  | [], l, h => by simp [bytesOf] at h; subst h; exact ⟨[], rfl, rfl⟩
  | .int .u8 n :: r, l, h => by
    simp only [bytesOf] at h
    cases hr : bytesOf r with
    | none => simp [hr] at h
    | some l' =>
      simp [hr] at h
      subst h
      obtain ⟨ns, rfl, rfl⟩ := bytesOf_spec hr
      exact ⟨n :: ns, rfl, rfl⟩
  | .int .i8 _ :: _, _, h => by simp [bytesOf] at h
  | .int .i16 _ :: _, _, h => by simp [bytesOf] at h
  | .int .i32 _ :: _, _, h => by simp [bytesOf] at h
  | .int .i64 _ :: _, _, h => by simp [bytesOf] at h
  | .int .u16 _ :: _, _, h => by simp [bytesOf] at h
  | .int .u32 _ :: _, _, h => by simp [bytesOf] at h
  | .int .u64 _ :: _, _, h => by simp [bytesOf] at h
  | .bool _ :: _, _, h => by simp [bytesOf] at h
  | .str _ :: _, _, h => by simp [bytesOf] at h
  | .slice _ :: _, _, h => by simp [bytesOf] at h
  | .imm _ _ :: _, _, h => by simp [bytesOf] at h
  | .func _ _ :: _, _, h => by simp [bytesOf] at h
  | .agg _ :: _, _, h => by simp [bytesOf] at h
  | .raw _ :: _, _, h => by simp [bytesOf] at h

theorem foldl_push (ns : List Int) : ∀ (s : List UInt8), ns.foldl (fun (r : ByteArray) n => r.push (UInt8.ofNat n.toNat)) ⟨s.toArray⟩ = ⟨(s ++ ns.map (fun n => UInt8.ofNat n.toNat)).toArray⟩ := by
  induction ns with
  | nil => intro s; simp
  | cons n ns ih =>
    intro s
    have : (⟨s.toArray⟩ : ByteArray).push (UInt8.ofNat n.toNat) = ⟨(s ++ [UInt8.ofNat n.toNat]).toArray⟩ := by
      apply ByteArray.ext; simp [ByteArray.push]
    rw [List.foldl_cons, this, ih]
    simp

theorem bytesToString_sound {es : List T} {l : List UInt8} (hb : bytesOf es = some l) {w : World} {G : Gh} {H : List Ob} (hi : Inv w G H) {v : Value} (hr : RepT G.rd (.slice es) v) :
    (Conv.bytesToString v).run P w = .ok (.string ⟨l.toArray⟩) w ∧ l.length ≤ maxLen := by
  obtain ⟨ns, rfl, rfl⟩ := bytesOf_spec hb
  obtain ⟨_, _, _, _, hl⟩ := hr.slice_form
  refine ⟨?_, by simpa using hl⟩
  generalize hes : ns.map (T.int .u8) = es at hr
  cases hr with
  | nil a cap =>
    have : ns = [] := by simpa using hes
    subst this
    cases a with
    | none => rfl
    | some a =>
      have := run_bytesToString (P := P) w a 0 cap [] (by simp [loadCells, loadCellsFrom])
      rw [this]; rfl
  | slice _ b o cap s val hs hrd hv hk hl hc =>
    subst hes
    have hlen : (ns.map (T.int .u8)).length = (ns.map (Value.int .u8)).length := by simp
    have hload : (loadCells ⟨b, o, none⟩ (ns.map (T.int .u8)).length).run P w = .ok (ns.map (Value.int .u8)).toArray w := by
      rw [hlen]
      refine run_loadCells_list w _ _ (fun j v hj => ?_)
      simp only [List.getElem?_map, Option.map_eq_some_iff] at hj
      obtain ⟨n, hn, rfl⟩ := hj
      have he : (ns.map (T.int .u8))[j]? = some (T.int .u8 n) := by simp [hn]
      have hc0 : (T.int .u8 n).cells[0]? = some (T.int .u8 n) := rfl
      have hs1 : s = 1 := (hs _ (List.mem_of_getElem? he)).symm
      subst hs1
      have h1 := hi.rd _ _ _ (hrd j 0 _ _ he hc0)
      have h2 := repT_int.1 (hv j 0 _ _ he hc0)
      rw [h2] at h1
      rw [addr_add]
      simpa using h1
    have := run_bytesToString (P := P) w ⟨b, o, none⟩ (ns.map (T.int .u8)).length cap ns hload
    rw [this, show ByteArray.empty = (⟨([] : List UInt8).toArray⟩ : ByteArray) from rfl, foldl_push]
    simp

end Go.Abs
