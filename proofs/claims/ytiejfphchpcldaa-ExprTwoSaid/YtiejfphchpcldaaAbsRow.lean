/- From contracts over trees to rows: what is read of arguments as trees; what a law's row asks behind the call. -/
import Derived.Test.YtiejfphchpcldaaAbsFn
import Derived.Carry
import Derived.OpenShut
import Derived.ProofKit
import Derived.ChangeCalls
namespace Go.Abs
open Go.RowKit Go.ChangeShapes

/-- All cells that are there, never to change. -/
def G0 (w : World) : Gh := ⟨fun b o => w.cell? ⟨b, o, none⟩, fun _ => none⟩

theorem inv0 (w : World) : Inv w (G0 w) [] := ⟨fun _ _ _ h => h, fun id l h => by simp [G0] at h, fun i j b h => by simp [Gh.blk, G0] at h⟩

theorem move_below {n : Nat} {w w' : World} {G' : Gh} (h : Move n w (G0 w) w' G') : Below w.heap.size w w' :=
  ⟨h.os, h.tape, h.output, h.size, fun k hk => h.keep k hk (fun id e => by simp [Gh.blk, G0] at e)⟩

/-- A value of a type, by its cells. -/
def elemT (P : Program) (t : TypeId) (cs : List T) : T :=
  match P.underlying t with
  | some (.struct _) => .agg cs
  | _ => cs.getD 0 default

def segs (p : TypeId → List T → Prop) : List TypeId → List T → Prop
  | [], ts => ts = []
  | t :: r, ts => ∃ a b, ts = a ++ b ∧ p t a ∧ segs p r b

/-- Trees of a type. -/
def Typ (P : Program) : Nat → TypeId → List T → Prop
  | 0, _, _ => False
  | n + 1, t, ts => match P.underlying t with
    | some .bool => ∃ b, ts = [.bool b]
    | some (.int k) => ∃ m, ts = [.int k m] ∧ (Lit.int k m).wf = true
    | some .string => ∃ s, ts = [.str s] ∧ s.length ≤ maxLen
    | some (.slice e) => ∃ es : List (List T), ts = [.slice (es.map (elemT P e))] ∧ es.length ≤ maxLen ∧ ∀ x ∈ es, Typ P n e x
    | some (.struct fs) => segs (Typ P n) (fs.toList.map (·.type)) ts
    | _ => False

def offs (P : Program) : List Field → Nat → Nat → Bool
  | [], k, n => k == n
  | f :: r, k, n => f.offset == k && offs P r (k + P.cellsOf f.type) n

def closedOne (P : Program) (Ts : List TypeId) (t : TypeId) : Bool :=
  match P.underlying t with
  | some .bool => P.cellsOf t == 1
  | some (.int _) => P.cellsOf t == 1
  | some .string => P.cellsOf t == 1
  | some (.slice e) => P.cellsOf t == 1 && Ts.contains e && decide (0 < P.cellsOf e)
  | some (.struct fs) => offs P fs.toList 0 (P.cellsOf t) && fs.toList.all (fun f => Ts.contains f.type)
  | _ => false

def closedT (P : Program) (Ts : List TypeId) : Bool := Ts.all (closedOne P Ts)

variable {H : Type} {enc : TypeId × Value → H} {P : Program} {w : World} {spare : Nat → Bool}

/-- Trees for cells. -/
def RepRow (rd : Rd) (ts : List T) (cs : List Value) : Prop := ts.length = cs.length ∧ ∀ (j : Nat) (c : T), ts[j]? = some c → RepT rd c (cs.getD j undef) ∧ scalar (cs.getD j undef) = true

theorem RepRow.one {rd : Rd} {c : T} {v : Value} (h : RepT rd c v) (hs : scalar v = true) : RepRow rd [c] [v] := by
  refine ⟨rfl, fun j c' hj => ?_⟩
  cases j with
  | zero => simp at hj; subst hj; exact ⟨h, hs⟩
  | succ j => simp at hj

theorem RepRow.append {rd : Rd} {a b : List T} {cs ds : List Value} (h : RepRow rd a cs) (k : RepRow rd b ds) : RepRow rd (a ++ b) (cs ++ ds) := by
  refine ⟨by simp [h.1, k.1], fun j c hj => ?_⟩
  rcases Nat.lt_or_ge j a.length with hl | hl
  · rw [List.getElem?_append_left hl] at hj
    have := h.2 j c hj
    rw [List.getD_eq_getElem?_getD, List.getElem?_append_left (by rw [← h.1]; exact hl), ← List.getD_eq_getElem?_getD]
    exact this
  · rw [List.getElem?_append_right hl] at hj
    have := k.2 _ c hj
    rw [List.getD_eq_getElem?_getD, List.getElem?_append_right (by rw [← h.1]; exact hl), ← h.1, ← List.getD_eq_getElem?_getD]
    exact this

theorem closed_get {Ts : List TypeId} (h : closedT P Ts = true) {t : TypeId} (ht : t ∈ Ts) : closedOne P Ts t = true := List.all_eq_true.1 h t ht

theorem cells?_get {base n : Nat} {a : Addr} {cs : List Value} (h : w.cells? base a n = some cs) : cs.length = n ∧ ∀ i, i < n → w.cell? (a.add i) = cs[i]? := by
  unfold World.cells? at h
  split at h
  · have key : ∀ (l : List Nat) (cs : List Value), l.mapM (fun i => w.cell? (a.add i)) = some cs → cs.length = l.length ∧ ∀ (j : Nat) (i : Nat), l[j]? = some i → w.cell? (a.add i) = cs[j]? := by
      intro l
      induction l with
      | nil => intro cs h; simp at h; subst h; simp
      | cons x r ih =>
        intro cs h
        simp only [List.mapM_cons, Option.bind_eq_bind, Option.bind_eq_some_iff] at h
        obtain ⟨y, hy, ys, hys, hr⟩ := h
        simp at hr
        subst hr
        obtain ⟨h1, h2⟩ := ih ys hys
        refine ⟨by simp [h1], fun j i hj => ?_⟩
        cases j with
        | zero => simp at hj; subst hj; simpa using hy
        | succ j => simp at hj ⊢; exact h2 j i hj
    obtain ⟨h1, h2⟩ := key _ _ h
    exact ⟨by simpa using h1, fun i hi => h2 i i (by simp [hi])⟩
  · simp at h

theorem spot_none {a : Addr} {v : Value} (h : w.cell? a = some v) : a.spot = none := by
  unfold World.cell? at h
  split at h
  · split at h
    · simp at h
    · rename_i hs; simpa using hs
  · simp at h

theorem add_none {a : Addr} (h : a.spot = none) (n : Nat) : a.add n = ⟨a.block, a.off + n, none⟩ := by
  unfold Addr.add
  split
  · rename_i hn; subst hn; cases a; simp_all
  · rfl

/-- What is read of a plain type is a tree of it. -/
theorem trod_typ {Ts : List TypeId} (hc : closedT P Ts = true) : ∀ (n : Nat) (t : TypeId) (cs : List Value) (x : DataW H × List MemPlace), t ∈ Ts → DataW.trod enc P w 0 spare true n t cs = some x →
    cs.length = P.cellsOf t ∧ ∃ ts, RepRow (G0 w).rd ts cs ∧ Typ P n t ts := by
  intro n
  induction n with
  | zero => intro t cs x _ h; simp [DataW.trod] at h
  | succ n ih =>
    intro t cs x ht h
    have hone := closed_get hc ht
    unfold closedOne at hone
    simp only [Typ]
    split at hone
    · rename_i hu
      obtain ⟨b, rfl, rfl⟩ := DataW.trod_bool hu h
      exact ⟨by simpa using (beq_iff_eq.1 hone).symm, [.bool b], .one (.bool b) rfl, b, rfl⟩
    · rename_i k hu
      obtain ⟨m, rfl, rfl, hw⟩ := DataW.trod_int hu h
      exact ⟨by simpa using (beq_iff_eq.1 hone).symm, [.int k m], .one (.int k m) rfl, m, rfl, hw⟩
    · rename_i hu
      obtain ⟨s, rfl, rfl, hw⟩ := DataW.trod_string hu h
      refine ⟨by simpa using (beq_iff_eq.1 hone).symm, [.str s.data.toList], .one ?_ rfl, ?_⟩
      · have := RepT.str (rd := (G0 w).rd) s.data.toList (by simpa using hw)
        simpa using this
      · exact ⟨_, rfl, by simpa using hw⟩
    · rename_i e hu
      simp only [Bool.and_eq_true, beq_iff_eq, decide_eq_true_eq, List.contains_iff_mem] at hone
      obtain ⟨⟨h1, he⟩, hpos⟩ := hone
      rcases DataW.trod_slice hu h with ⟨rfl, _⟩ | ⟨a, len, cap, elems, rest, m, hm, rfl, _, _, hle, hmax, hlen, hel, _⟩
      · refine ⟨by simp [h1], [.slice []], .one (.nil none 0) rfl, ?_⟩
        exact ⟨[], rfl, by simp, by simp⟩
      · have hm : m = n := by omega
        subst hm
        -- each element
        have hrow : ∀ i, i < len → ∃ cs, w.cells? 0 (a.add (i * P.cellsOf e)) (P.cellsOf e) = some cs ∧ cs.length = P.cellsOf e ∧ ∃ ts, RepRow (G0 w).rd ts cs ∧ Typ P m e ts := by
          intro i hi
          have := hel i hi
          rw [List.getElem?_eq_getElem (by omega)] at this
          rw [Option.bind_eq_some_iff] at this
          obtain ⟨cs, h2, h3⟩ := this
          obtain ⟨h4, ts, h5, h6⟩ := ih e cs _ he h3
          exact ⟨cs, h2, h4, ts, h5, h6⟩
        let f : Nat → List T := fun i => if h : i < len then (hrow i h).choose_spec.2.2.choose else []
        have hf : ∀ i, i < len → ∃ cs, w.cells? 0 (a.add (i * P.cellsOf e)) (P.cellsOf e) = some cs ∧ cs.length = P.cellsOf e ∧ RepRow (G0 w).rd (f i) cs ∧ Typ P m e (f i) := by
          intro i hi
          simp only [f, hi, dif_pos]
          exact ⟨(hrow i hi).choose, (hrow i hi).choose_spec.1, (hrow i hi).choose_spec.2.1, (hrow i hi).choose_spec.2.2.choose_spec.1, (hrow i hi).choose_spec.2.2.choose_spec.2⟩
        have hcells : ∀ i, i < len → (elemT P e (f i)).cells = f i := by
          intro i hi
          obtain ⟨cs, g1, g2, g3, g4⟩ := hf i hi
          have hl : (f i).length = P.cellsOf e := by rw [g3.1, g2]
          unfold elemT
          cases hm : m with
          | zero => rw [hm] at g4; simp [Typ] at g4
          | succ m' =>
            rw [hm] at g4
            simp only [Typ] at g4
            split
            · rfl
            · rename_i hns
              split at g4
              · obtain ⟨b, hb⟩ := g4; rw [hb]; rfl
              · obtain ⟨b, hb, _⟩ := g4; rw [hb]; rfl
              · obtain ⟨b, hb, _⟩ := g4; rw [hb]; rfl
              · obtain ⟨b, hb, _⟩ := g4; rw [hb]; rfl
              · rename_i fs hfs; exact absurd hfs (hns fs)
              · exact g4.elim
        refine ⟨by simp [h1], [.slice ((List.range len).map fun i => elemT P e (f i))], .one ?_ rfl, ?_⟩
        · by_cases h0 : len = 0
          · subst h0; exact .nil _ _
          · have hspot : a.spot = none := by
              obtain ⟨cs, g1, g2, _⟩ := hf 0 (by omega)
              have := (cells?_get g1).2 0 (by omega)
              rw [List.getElem?_eq_getElem (by omega)] at this
              simpa [Addr.add] using spot_none this
            obtain ⟨b, o, sp⟩ := a
            simp at hspot
            subst hspot
            have hlen' : ((List.range len).map fun i => elemT P e (f i)).length = len := by simp
            have := RepT.slice (rd := (G0 w).rd) ((List.range len).map fun i => elemT P e (f i)) b o cap (P.cellsOf e) (fun i j => ((w.cell? ⟨b, o + i * P.cellsOf e + j, none⟩).getD undef)) (fun e' he' => ?_) (fun i j e' c he' hc' => ?_) (fun i j e' c he' hc' => ?_) (fun i j e' c he' hc' => ?_) (by simp; omega) (by simpa using hle)
            · rw [hlen'] at this; exact this
            · simp only [List.mem_map, List.mem_range] at he'
              obtain ⟨i, hi, rfl⟩ := he'
              obtain ⟨cs, g1, g2, g3, _⟩ := hf i hi
              rw [hcells i hi, g3.1, g2]
            all_goals
              simp only [List.getElem?_map, Option.map_eq_some_iff] at he'
              obtain ⟨i', hi', rfl⟩ := he'
              have hil : i < len := by have := (List.getElem?_eq_some_iff.1 hi').1; simpa using this
              have : i' = i := by simp [hil] at hi'; exact hi'.symm
              subst this
              rw [hcells i' hil] at hc'
              obtain ⟨cs, g1, g2, g3, _⟩ := hf i' hil
              have hjl : j < cs.length := by rw [← g3.1]; exact (List.getElem?_eq_some_iff.1 hc').1
              have hcell := (cells?_get g1).2 j (by omega)
              rw [add_none (a := ⟨b, o, none⟩) rfl (i' * P.cellsOf e), add_none rfl j, List.getElem?_eq_getElem hjl] at hcell
              simp only at hcell
              have hg := g3.2 j c hc'
              rw [List.getD_eq_getElem?_getD, List.getElem?_eq_getElem hjl] at hg
              simp only [G0, hcell, Option.getD_some]
            · exact hg.1
            · exact hg.2
        · refine ⟨(List.range len).map f, by simp [Function.comp_def], by simp; omega, fun x hx => ?_⟩
          simp only [List.mem_map, List.mem_range] at hx
          obtain ⟨i, hi, rfl⟩ := hx
          obtain ⟨_, _, _, _, g⟩ := hf i hi
          exact g
    · rename_i fs hu
      simp only [Bool.and_eq_true, List.all_eq_true, List.contains_iff_mem] at hone
      obtain ⟨ho, hfs⟩ := hone
      obtain ⟨xs, m, hm, _, hlen, hxs, hel⟩ := DataW.trod_struct hu h
      have hm : m = n := by omega
      subst hm
      refine ⟨hlen, ?_⟩
      have key : ∀ (l : List Field) (k : Nat), (∀ f ∈ l, f ∈ fs.toList) → offs P l k (P.cellsOf t) = true → ∃ ts, RepRow (G0 w).rd ts (cs.drop k) ∧ segs (Typ P m) (l.map (·.type)) ts := by
        intro l
        induction l with
        | nil =>
          intro k _ hk
          have : k = P.cellsOf t := by simpa [offs] using hk
          refine ⟨[], ⟨by simp [hlen, this], by simp⟩, rfl⟩
        | cons f r ihl =>
          intro k hmem hk
          simp only [offs, Bool.and_eq_true, beq_iff_eq] at hk
          obtain ⟨rfl, hk⟩ := hk
          obtain ⟨ts, g1, g2⟩ := ihl _ (fun f hf => hmem f (List.mem_cons_of_mem _ hf)) hk
          obtain ⟨i, hi, hif⟩ := List.getElem_of_mem (hmem f List.mem_cons_self)
          have hi' : fs[i]? = some f := by rw [← hif]; simp
          have := hel i f hi'
          rw [List.getElem?_eq_getElem (by rw [hxs]; simpa using hi)] at this
          obtain ⟨e1, us, e2, e3⟩ := ih _ _ _ (hfs f (hmem f List.mem_cons_self)) this
          refine ⟨us ++ ts, ?_, us, ts, rfl, e3, g2⟩
          have hd : cs.drop f.offset = (cs.drop f.offset).take (P.cellsOf f.type) ++ cs.drop (f.offset + P.cellsOf f.type) := by
            rw [← List.drop_drop, List.take_append_drop]
          rw [hd]
          exact e2.append g1
      obtain ⟨ts, g1, g2⟩ := key fs.toList 0 (fun _ h => h) ho
      exact ⟨ts, by simpa using g1, g2⟩
    · simp at hone

/-- An argument of a plain type. -/
theorem arg_rep {Ts : List TypeId} (hc : closedT P Ts = true) {t : TypeId} (ht : t ∈ Ts) {r : Reach} {b0 : Nat} {v : Value} {d : DataW H} {ps : List MemPlace} (hval : Value.okWide P w r b0 t v) (hd : DataW.Trod enc P w 0 spare true t v d ps) :
    ∃ n ts, Typ P n t ts ∧ RepT (G0 w).rd (elemT P t ts) v := by
  obtain ⟨n, hn⟩ := hd
  obtain ⟨hlen, ts, h1, h2⟩ := trod_typ hc n t _ _ ht hn
  refine ⟨n, ts, h2, ?_⟩
  have hone := closed_get hc ht
  unfold closedOne at hone
  unfold elemT
  split
  · rename_i fs hu
    simp only [Value.okWide, hu] at hval
    obtain ⟨cs, rfl, _, _⟩ := hval
    refine .agg ts cs (by simpa [Value.cells] using h1.1.symm) (fun j c hj => ?_) (fun j c hj => ?_)
    · have := (h1.2 j c hj).1
      simpa [Value.cells, Array.getD_eq_getD_getElem?, List.getD_eq_getElem?_getD] using this
    · have := (h1.2 j c hj).2
      simpa [Value.cells, Array.getD_eq_getD_getElem?, List.getD_eq_getElem?_getD] using this
  · rename_i hns
    have hl1 : P.cellsOf t = 1 := by
      split at hone
      · simpa using hone
      · simpa using hone
      · simpa using hone
      · simp only [Bool.and_eq_true, beq_iff_eq] at hone; exact hone.1.1
      · rename_i fs hu; exact absurd hu (hns fs)
      · simp at hone
    have hva : ∀ cs, v ≠ .agg cs := by
      rintro cs rfl
      split at hone
      · rename_i hu; simp [Value.okWide, Cell.okWide, Cell.ok, hu] at hval
      · rename_i hu; simp [Value.okWide, Cell.okWide, Cell.ok, hu] at hval
      · rename_i hu; simp [Value.okWide, Cell.okWide, Cell.ok, hu] at hval
      · rename_i hu; simp [Value.okWide, Cell.okWide, Cell.ok, hu] at hval
      · rename_i fs hu; exact absurd hu (hns fs)
      · simp at hone
    have hcs : v.cells.toList = [v] := by
      cases v with
      | agg cs => exact absurd rfl (hva cs)
      | _ => rfl
    rw [hcs] at h1
    have hl : ts.length = 1 := by simpa using h1.1
    match ts, hl with
    | [c], _ => simpa using (h1.2 0 c rfl).1

theorem typ_int {n : Nat} {t : TypeId} {k : IntKind} {cs : List T} (hu : P.underlying t = some (.int k)) (h : Typ P n t cs) : ∃ m, cs = [.int k m] ∧ elemT P t cs = .int k m ∧ (Lit.int k m).wf = true := by
  cases n with
  | zero => exact h.elim
  | succ n =>
    simp only [Typ, hu] at h
    obtain ⟨m, rfl, hw⟩ := h
    exact ⟨m, rfl, by simp [elemT, hu], hw⟩

theorem typ_bool {n : Nat} {t : TypeId} {cs : List T} (hu : P.underlying t = some .bool) (h : Typ P n t cs) : ∃ b, cs = [.bool b] ∧ elemT P t cs = .bool b := by
  cases n with
  | zero => exact h.elim
  | succ n =>
    simp only [Typ, hu] at h
    obtain ⟨m, rfl⟩ := h
    exact ⟨m, rfl, by simp [elemT, hu]⟩

theorem typ_str {n : Nat} {t : TypeId} {cs : List T} (hu : P.underlying t = some .string) (h : Typ P n t cs) : ∃ s, cs = [.str s] ∧ elemT P t cs = .str s ∧ s.length ≤ maxLen := by
  cases n with
  | zero => exact h.elim
  | succ n =>
    simp only [Typ, hu] at h
    obtain ⟨m, rfl, hw⟩ := h
    exact ⟨m, rfl, by simp [elemT, hu], hw⟩

theorem typ_slice {n : Nat} {t e : TypeId} {cs : List T} (hu : P.underlying t = some (.slice e)) (h : Typ P n t cs) : ∃ (m : Nat) (es : List (List T)), n = m + 1 ∧ cs = [.slice (es.map (elemT P e))] ∧ elemT P t cs = .slice (es.map (elemT P e)) ∧ es.length ≤ maxLen ∧ ∀ x ∈ es, Typ P m e x := by
  cases n with
  | zero => exact h.elim
  | succ n =>
    simp only [Typ, hu] at h
    obtain ⟨es, rfl, hl, he⟩ := h
    exact ⟨n, es, rfl, rfl, by simp [elemT, hu], hl, he⟩

theorem typ_struct {n : Nat} {t : TypeId} {fs : Array Field} {cs : List T} (hu : P.underlying t = some (.struct fs)) (h : Typ P n t cs) : ∃ m, n = m + 1 ∧ elemT P t cs = .agg cs ∧ segs (Typ P m) (fs.toList.map (·.type)) cs := by
  cases n with
  | zero => exact h.elim
  | succ n =>
    simp only [Typ, hu] at h
    exact ⟨n, rfl, by simp [elemT, hu], h⟩

theorem u8_wf {m : Int} (h : (Lit.int .u8 m).wf = true) : 0 ≤ m ∧ m ≤ 255 := by
  simpa [Lit.wf, IntKind.min, IntKind.max, IntKind.signed, IntKind.bits] using h

def TypAll (P : Program) : List TypeId → List T → Prop
  | [], xs => xs = []
  | t :: ts, xs => ∃ x r, xs = x :: r ∧ (∃ n cs, x = elemT P t cs ∧ Typ P n t cs) ∧ TypAll P ts r

theorem rowArgs_rep {Ts : List TypeId} (hc : closedT P Ts = true) {r : Reach} {b0 : Nat} : ∀ (ts : List TypeId) (vs : List Value) (ds : List (DataW H)) (ps : List MemPlace), ts.all (Ts.contains ·) = true → (∀ (j : Nat) t v, ts[j]? = some t → vs[j]? = some v → Value.okWide P w r b0 t v) →
    DataW.TrodAll enc P w 0 spare true ts vs ds ps → ∃ xs, TypAll P ts xs ∧ xs.length = vs.length ∧ ∀ (j : Nat) x v, xs[j]? = some x → vs[j]? = some v → RepT (G0 w).rd x v
  | [], vs, ds, ps, _, _, h => by
    obtain ⟨rfl, rfl, rfl⟩ := trodAll_nil h
    exact ⟨[], rfl, rfl, by simp⟩
  | t :: ts, vs, ds, ps, ha, hv, h => by
    obtain ⟨v0, vs0, d0, ds0, p0, q0, rfl, rfl, rfl, h0, r0⟩ := trodAll_cons h
    simp only [List.all_cons, Bool.and_eq_true, List.contains_iff_mem] at ha
    obtain ⟨n, cs, g1, g2⟩ := arg_rep hc ha.1 (hv 0 t v0 rfl rfl) h0
    obtain ⟨xs, e1, e2, e3⟩ := rowArgs_rep hc ts vs0 ds0 q0 ha.2 (fun j t v hj hk => hv (j + 1) t v (by simpa using hj) (by simpa using hk)) r0
    refine ⟨_ :: xs, ⟨_, _, rfl, ⟨n, cs, rfl, g1⟩, e1⟩, by simp [e2], fun j x v hj hk => ?_⟩
    cases j with
    | zero => simp at hj hk; subst hj hk; exact g2
    | succ j => simp at hj hk; exact e3 j x v hj hk

theorem args_stay {W W' : World} (hl : laidOutB P = true) (hb : Below W.heap.size W W') : ∀ (ts : List TypeId) (vs : List Value) (ds : List (DataW H)) (ps : List MemPlace), (∀ x ∈ ps, x.block < W.heap.size) → ts.all (fun t => P.readableRec t && decide (t < P.types.size)) = true →
    DataW.TrodAll enc P W 0 (fun _ => true) true ts vs ds ps → DataW.TrodAll enc P W' 0 (fun b => decide (b < W.heap.size)) true ts vs ds ps
  | [], vs, ds, ps, _, _, h => by
    obtain ⟨rfl, rfl, rfl⟩ := trodAll_nil h
    exact trodAll_mk0
  | t :: ts, vs, ds, ps, hlt, ha, h => by
    obtain ⟨v0, vs0, d0, ds0, p0, q0, rfl, rfl, rfl, h0, r0⟩ := trodAll_cons h
    simp only [List.all_cons, Bool.and_eq_true, decide_eq_true_eq] at ha
    exact trodAll_cons_mk (Below.trod hl ha.1.1 ha.1.2 h0 hb (fun x hx => hlt x (List.mem_append_left _ hx))) (args_stay hl hb ts vs0 ds0 q0 (fun x hx => hlt x (List.mem_append_right _ hx)) ha.2 r0)

/-- A law's contract, out of one over trees. -/
theorem law_contract {f : FuncId} {fn : Func} {s : ChangeSpec} {tb : TypeId} {Ts : List TypeId} (hres : fn.resultTypes = #[tb]) (htb : P.underlying tb = some .bool) (hl : laidOutB P = true) (hrd : fn.params.toList.all (fun t => P.readableRec t && decide (t < P.types.size)) = true)
    (hv : s.vars = []) (hs : ∀ ds : List (DataW H), ds.length = fn.params.size → (s.fn H ds).results = [.lit (.bool true)] ∧ (s.fn H ds).args = ds ∧ (s.fn H ds).vars = []) (hc : closedT P Ts = true) (hp : fn.params.toList.all (Ts.contains ·) = true)
    (hf : ∀ xs, TypAll P fn.params.toList xs → Fn P f [] (xs.map .p) (.p (.bool true)) []) (W : World) (base : Nat) (args : Array Value) (ds gs : List (DataW H)) (before : List MemPlace)
    (hval : ∀ (j : Nat) t v, fn.params[j]? = some t → args[j]? = some v → Value.okWide P W .any base t v) (hW : DataW.Whole enc P fn.params.toList s.vars false W args.toList ds gs before) :
    Calls P f args W fun e W' => ∃ v, e = .returned v ∧ s.post enc P fn false true false false W args v W' := by
  have hW' := hW
  obtain ⟨p, q, hA, hV, rfl, _, _⟩ := hW
  rw [hv] at hV
  obtain ⟨rfl, rfl⟩ := trodVars_none hV
  obtain ⟨xs, h1, h2, h3⟩ := rowArgs_rep hc _ _ _ _ hp (fun j t v hj hk => hval j t v (by simpa using hj) (by simpa using hk)) hA
  have hds : ds.length = fn.params.size := by simpa using (trodAll_length hA).2
  obtain ⟨s1, s2, s3⟩ := hs ds hds
  refine ((hf xs h1).2 W (G0 W) args (inv0 W) ⟨by simpa using h2.symm, fun j x hj => ?_⟩).mono ?_
  · simp only [List.getElem?_map, Option.map_eq_some_iff] at hj
    obtain ⟨t, ht, rfl⟩ := hj
    have hlt : j < args.size := by have := (List.getElem?_eq_some_iff.1 ht).1; simp at h2; omega
    refine .p _ _ (h3 j t _ ht ?_)
    simp [Array.getD_eq_getD_getElem?, Array.getElem?_eq_getElem hlt]
  · rintro e W' ⟨v, G', rfl, hr, _, hm⟩
    have hb := move_below hm
    have : v = .bool true := repA_bool.1 hr
    subst this
    refine ⟨_, rfl, ds, [], _, [], p, [], hW', ?_, ?_, ?_, hb.frame _, fun h => by cases h⟩
    · rw [List.append_nil, s1, hres]
      exact trodAll_cons_mk (shut_bool htb _) trodAll_mk0
    · rw [List.append_nil, s2]
      exact args_stay hl hb _ _ _ _ (fun x hx => hW'.lt x (by simpa using hx)) hrd hA
    · rw [List.append_nil, s3, hv]
      exact rfl

end Go.Abs
