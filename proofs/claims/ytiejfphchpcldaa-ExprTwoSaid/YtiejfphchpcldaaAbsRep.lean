/- What represents a tree, kind by kind. -/
import Derived.Test.YtiejfphchpcldaaAbsOps
namespace Go.Abs

theorem repA_p {G : Gh} {t : T} {v : Value} : RepA G (.p t) v ↔ RepT G.rd t v := ⟨fun h => by cases h; assumption, fun h => .p t v h⟩
theorem repT_int {rd : Rd} {k : IntKind} {n : Int} {v : Value} : RepT rd (.int k n) v ↔ v = .int k n := ⟨fun h => by cases h; rfl, fun h => h ▸ .int k n⟩
theorem repT_bool {rd : Rd} {b : Bool} {v : Value} : RepT rd (.bool b) v ↔ v = .bool b := ⟨fun h => by cases h; rfl, fun h => h ▸ .bool b⟩
theorem repT_str {rd : Rd} {s : List UInt8} {v : Value} : RepT rd (.str s) v ↔ v = .string ⟨s.toArray⟩ ∧ s.length ≤ maxLen :=
  ⟨fun h => by cases h; exact ⟨rfl, by assumption⟩, fun ⟨h, hl⟩ => h ▸ .str s hl⟩
theorem repT_raw {rd : Rd} {x v : Value} : RepT rd (.raw x) v ↔ v = x ∧ scalar x = true :=
  ⟨fun h => by cases h; exact ⟨rfl, by assumption⟩, fun ⟨h, hl⟩ => by subst h; exact .raw _ hl⟩

/-- A slice of trees: its length, and that it fits. -/
theorem RepT.slice_form {rd : Rd} {es : List T} {v : Value} (h : RepT rd (.slice es) v) : ∃ a cap, v = .slice a es.length cap ∧ es.length ≤ cap ∧ es.length ≤ maxLen := by
  cases h with
  | nil a cap => exact ⟨a, cap, rfl, Nat.zero_le _, Nat.zero_le _⟩
  | slice _ b o cap s val hs hr hv hk hl hc => exact ⟨_, cap, rfl, hc, hl⟩

theorem RepT.scalar_of {rd : Rd} {t : T} {v : Value} (h : RepT rd t v) (hn : ∀ cs, t ≠ .agg cs) : scalar v = true := by
  cases h with
  | agg cs vs => exact absurd rfl (hn cs)
  | raw v h => exact h
  | _ => rfl

/-- What a value's cells are. -/
theorem RepA.cells {G : Gh} {x : AV} {v : Value} (h : RepA G x v) (hs : x.storable = true) :
    v.cells.size = x.cells.length ∧ ∀ j c, x.cells[j]? = some c → RepA G c (v.cells.getD j undef) ∧ scalar (v.cells.getD j undef) = true := by
  have one : ∀ {y : AV} {u : Value}, RepA G y u → scalar u = true → u.cells = #[u] → y.cells = [y] →
      u.cells.size = y.cells.length ∧ ∀ j c, y.cells[j]? = some c → RepA G c (u.cells.getD j undef) ∧ scalar (u.cells.getD j undef) = true := by
    intro y u r s e1 e2
    rw [e1, e2]
    refine ⟨rfl, fun j c hj => ?_⟩
    cases j with
    | zero => simp at hj; subst hj; simpa using ⟨r, s⟩
    | succ j => simp at hj
  cases h with
  | top v => simp [AV.storable] at hs
  | tup cs vs hn hv => simp [AV.storable] at hs
  | full es a h => exact one (.full es a h) rfl rfl rfl
  | own id es a a' cap cap' n s h hl hn he hz => exact one (.own id es a a' cap cap' n s h hl hn he hz) rfl rfl rfl
  | bptr id off b hl => exact one (.bptr id off b hl) rfl rfl rfl
  | mclo f caps vs hn hv => exact one (.mclo f caps vs hn hv) rfl rfl rfl
  | nils cap => exact one (.nils cap) rfl rfl rfl
  | nns es a cap h => exact one (.nns es a cap h) rfl rfl rfl
  | msl id ver s off len a a' a2 cap cap' ver' c2 hl hn he hc hm hz h2 ha => exact one (.msl id ver s off len a a' a2 cap cap' ver' c2 hl hn he hc hm hz h2 ha) rfl rfl rfl
  | mptr id ver s i off b o a a' cap cap' ver' hl hn he hi ha => exact one (.mptr id ver s i off b o a a' cap cap' ver' hl hn he hi ha) rfl rfl rfl
  | agg cs vs hn hv hk => exact ⟨hn, fun j c hj => ⟨hv j c hj, hk j c hj⟩⟩
  | p t v h =>
    cases h with
    | agg cs vs hn hv hk =>
      refine ⟨by simpa [AV.cells, T.cells, Value.cells] using hn, fun j c hj => ?_⟩
      simp only [AV.cells, T.cells, List.getElem?_map, Option.map_eq_some_iff] at hj
      obtain ⟨c', hc', rfl⟩ := hj
      exact ⟨.p _ _ (hv j c' hc'), hk j c' hc'⟩
    | bool b => exact one (.p _ _ (.bool b)) rfl rfl rfl
    | int k n => exact one (.p _ _ (.int k n)) rfl rfl rfl
    | str s hl => exact one (.p _ _ (.str s hl)) rfl rfl rfl
    | raw v h =>
      refine one (.p _ _ (.raw _ h)) h ?_ rfl
      cases v <;> first | rfl | simp [scalar] at h
    | nil a cap => exact one (.p _ _ (.nil a cap)) rfl rfl rfl
    | slice es b o cap s val hz hr hv hk hl hc => exact one (.p _ _ (.slice es b o cap s val hz hr hv hk hl hc)) rfl rfl rfl
    | imm cs off b o val hr hv hk => exact one (.p _ _ (.imm cs off b o val hr hv hk)) rfl rfl rfl
    | func f caps vs hn hv => exact one (.p _ _ (.func f caps vs hn hv)) rfl rfl rfl

theorem RepA.cellT {G : Gh} {x : AV} {v : Value} {t : T} (h : RepA G x v) (e : x.cellT = some t) : RepT G.rd t v := by
  cases h with
  | p t v h => simp [AV.cellT] at e; exact e ▸ h
  | full es a h => simp [AV.cellT] at e; exact e ▸ h
  | own id es a a' cap cap' n s h hl hn he hs => simp [AV.cellT] at e; exact e ▸ h
  | nils cap => simp [AV.cellT] at e; subst e; exact .nil none cap
  | nns es a cap h => simp [AV.cellT] at e; exact e ▸ h
  | _ => simp [AV.cellT] at e

theorem allT_spec : ∀ {cs : List AV} {ts : List T}, allT cs = some ts → ts.length = cs.length ∧ ∀ (j : Nat) (t : T), ts[j]? = some t → ∃ c : AV, cs[j]? = some c ∧ c.cellT = some t
  | [], ts, h => by simp [allT] at h; subst h; simp
  | v :: r, ts, h => by
    simp only [allT] at h
    cases h1 : v.cellT with
    | none => simp [h1] at h
    | some t =>
      cases h2 : allT r with
      | none => simp [h1, h2] at h
      | some us =>
        simp [h1, h2] at h
        subst h
        obtain ⟨hl, hr⟩ := allT_spec h2
        refine ⟨by simp [hl], fun j u hj => ?_⟩
        cases j with
        | zero => simp at hj; subst hj; exact ⟨v, rfl, h1⟩
        | succ j => simp at hj; simpa using hr j u hj

theorem RepA.toT {G : Gh} {x : AV} {v : Value} {t : T} (h : RepA G x v) (e : x.toT = some t) : RepT G.rd t v := by
  cases h with
  | agg cs vs hn hv hk =>
    simp only [AV.toT] at e
    cases h1 : allT cs with
    | none => simp [h1] at e
    | some ts =>
      simp [h1] at e
      subst e
      obtain ⟨hl, hr⟩ := allT_spec h1
      refine .agg ts vs (hn.trans hl.symm) (fun j t hj => ?_) (fun j t hj => ?_)
      · obtain ⟨c, hc, ht⟩ := hr j t hj; exact (hv j c hc).cellT ht
      · obtain ⟨c, hc, ht⟩ := hr j t hj; exact hk j c hc
  | p t v h => exact (RepA.p t v h).cellT e
  | full es a h => exact (RepA.full es a h).cellT e
  | own id es a a' cap cap' n s h hl hn he hs => exact (RepA.own id es a a' cap cap' n s h hl hn he hs).cellT e
  | bptr id off b hl => simp [AV.toT, AV.cellT] at e
  | mclo f caps vs hn hv => simp [AV.toT, AV.cellT] at e
  | top v => simp [AV.toT, AV.cellT] at e
  | tup cs vs hn hv => simp [AV.toT, AV.cellT] at e
  | nils cap => exact (RepA.nils cap).cellT e
  | nns es a cap h => exact (RepA.nns es a cap h).cellT e
  | msl id ver s off len a a' a2 cap cap' ver' c2 hl hn he hc hm hz h2 ha => simp [AV.toT, AV.cellT] at e
  | mptr id ver s i off b o a a' cap cap' ver' hl hn he hi ha => simp [AV.toT, AV.cellT] at e

theorem toTs_spec : ∀ {cs : List AV} {ts : List T}, toTs cs = some ts → ts.length = cs.length ∧ ∀ (j : Nat) (t : T), ts[j]? = some t → ∃ c : AV, cs[j]? = some c ∧ c.toT = some t
  | [], ts, h => by simp [toTs] at h; subst h; simp
  | v :: r, ts, h => by
    simp only [toTs] at h
    cases h1 : v.toT with
    | none => simp [h1] at h
    | some t =>
      cases h2 : toTs r with
      | none => simp [h1, h2] at h
      | some us =>
        simp [h1, h2] at h
        subst h
        obtain ⟨hl, hr⟩ := toTs_spec h2
        refine ⟨by simp [hl], fun j u hj => ?_⟩
        cases j with
        | zero => simp at hj; subst hj; exact ⟨v, rfl, h1⟩
        | succ j => simp at hj; simpa using hr j u hj

theorem RepA.pur {G : Gh} {x y : AV} {v : Value} (h : RepA G x v) (e : x.pur = some y) {G' : Gh} (hr : ∀ b o c, G.rd b o = some c → G'.rd b o = some c) : RepA G' y v := by
  have plain : ∀ {z : AV} {u : Value} {t : T}, RepA G z u → z.toT = some t → RepA G' (.p t) u := fun r e => .p _ _ ((r.toT e).mono hr)
  cases x with
  | tup vs =>
    simp only [AV.pur] at e
    cases h1 : toTs vs with
    | none => simp [h1] at e
    | some ts =>
      simp [h1] at e
      subst e
      obtain ⟨hl, hs⟩ := toTs_spec h1
      cases h with
      | tup cs vs' hn hv =>
        refine .tup _ _ (by simp [hn, hl]) (fun j c hj => ?_)
        simp only [List.getElem?_map, Option.map_eq_some_iff] at hj
        obtain ⟨t, ht, rfl⟩ := hj
        obtain ⟨c, hc, hct⟩ := hs j t ht
        exact plain (hv j c hc) hct
  | _ =>
    simp only [AV.pur] at e
    split at e
    · simp at e; subst e; exact plain h (by assumption)
    · simp at e

theorem repA_ofConst (G : Gh) (v : Value) : RepA G (ofConst v) v := by
  unfold ofConst
  split
  · exact .p _ _ (.bool _)
  · exact .p _ _ (.int _ _)
  · rename_i s
    split
    · rename_i hl
      have : Value.string s = .string ⟨s.data.toList.toArray⟩ := by simp
      rw [this]
      exact .p _ _ (.str _ (by unfold maxLen; omega))
    · exact .top _
  · exact .full [] none (.nil none 0)
  · exact .p _ _ (.raw _ rfl)
  · exact .p _ _ (.raw _ rfl)
  · exact .p _ _ (.raw _ rfl)
  · exact .p _ _ (.raw _ rfl)
  · exact .top _

/-- The slots. -/
def RepTm (G : Gh) (t : List AV) (tm : Array Value) : Prop := tm.size = t.length ∧ ∀ i, RepA G (t.getD i .top) (tm.getD i undef)

theorem RepTm.rho {G : Gh} {t : List AV} {a : Act} (h : RepTm G t a.tmps) (x : Operand) : RepA G (rho t x) (a.eval x) := by
  cases x with
  | tmp i => exact h.2 i
  | const v => exact repA_ofConst G v
  | func f => exact .p _ _ (.func f [] #[] rfl (by simp))
  | global g => exact .top _

theorem RepTm.mono {G G' : Gh} (g : Grow G G') {t : List AV} {tm : Array Value} (h : RepTm G t tm) : RepTm G' t tm := ⟨h.1, fun i => (h.2 i).mono g⟩

def setD (t : List AV) (d : Option Nat) (v : AV) : List AV :=
  match d with
  | some i => t.set i v
  | none => t

theorem RepTm.put {G : Gh} {t : List AV} {a : Act} (h : RepTm G t a.tmps) (d : Option Tmp) {x : AV} {v : Value} (r : RepA G x v) : RepTm G (setD t d x) (a.put d v).tmps := by
  cases d with
  | none => exact h
  | some d =>
    refine ⟨by simp [setD, Act.put, h.1], fun i => ?_⟩
    simp only [setD, Act.put, List.getD_eq_getElem?_getD, Array.getD_eq_getD_getElem?, List.getElem?_set, Array.getElem?_setIfInBounds]
    by_cases hi : d = i
    · subst hi
      simp only [if_true]
      by_cases hd : d < t.length
      · simp [hd, h.1, r]
      · simp [hd, h.1]; exact .top _
    · simp only [hi, if_false]
      have := h.2 i
      simpa [List.getD_eq_getElem?_getD, Array.getD_eq_getD_getElem?] using this

end Go.Abs
