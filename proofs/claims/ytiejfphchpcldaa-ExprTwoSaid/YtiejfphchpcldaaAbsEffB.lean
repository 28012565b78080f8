/- Appending, closures, and the whole class of operations that turn objects. -/
import Derived.Test.YtiejfphchpcldaaAbsApp
namespace Go.Abs

variable {P : Program}

/-- What is appended. -/
def Src (P : Program) (s : Nat) (ms : List T) (w : World) (G : Gh) (v : Value) : Prop :=
  (Builtin.lenOf v).run P w = .ok ms.length w ∧ ∃ us : List Value, (∀ w' : World, w'.heap = w.heap → (Builtin.firstCells s ms.length v).run P w' = .ok us.toArray w') ∧ Flat G.rd s ms us ∧ ∀ u ∈ us, scalar u = true

theorem src_slice {w : World} {G : Gh} {H : List Ob} (hi : Inv w G H) {ms : List T} {s : Nat} {v : Value} (hr : RepT G.rd (.slice ms) v) (hs : ∀ e ∈ ms, e.cells.length = s) : Src P s ms w G v := by
  obtain ⟨a, cap, rfl, _, _⟩ := hr.slice_form
  exact ⟨rfl, firstCells_slice (P := P) hi hr hs⟩

theorem src_row {w : World} {G : Gh} {H : List Ob} (hi : Inv w G H) {id ver s off len : Nat} {es : List T} {v : Value} (ho : H[id]? = some (.mrow ver s es) ∨ H[id]? = some (.frow ver s es)) (hle : off + len ≤ es.length) (hr : RepA G (.msl id ver s off len) v) :
    Src P s ((es.drop off).take len) w G v := by
  have hn : ((es.drop off).take len).length = len := by simp; omega
  cases hr with
  | msl _ _ _ _ _ a a' a2 cap cap' ver' c2 hl hv he hc hm hz h2 ha =>
    obtain ⟨rfl, _, h3, h4, h5⟩ := row_view hi ho hl
    obtain ⟨rfl, rfl⟩ := he rfl
    refine ⟨by rw [hn]; rfl, ?_⟩
    rw [hn]
    by_cases h0 : len = 0
    · subst h0
      refine ⟨[], fun w' _ => ?_, ⟨by simp, fun i j e c he => by simp at he⟩, by simp⟩
      cases a2 with
      | none => rfl
      | some a => simp [Builtin.firstCells, loadCells, loadCellsFrom]
    · obtain ⟨b, o, f, rfl, hf⟩ := h5 (by omega)
      have ha := ha (by omega)
      subst ha
      simp only [Option.map_some, addr_add]
      have look : ∀ i e, ((es.drop off).take len)[i]? = some e → es[off + i]? = some e := by
        intro i e he
        rw [List.getElem?_take] at he
        split at he
        · rwa [List.getElem?_drop] at he
        · simp at he
      exact firstCells_row (fun i j => f (off + i) j) hn (fun e he => h4 e (List.mem_of_mem_drop (List.mem_of_mem_take he))) (fun i j e c he hc => by
        have := hf (off + i) j e c (look i e he) hc
        rw [Nat.add_mul, ← Nat.add_assoc] at this
        exact this)

theorem src_str {w : World} {G : Gh} {l : List UInt8} : Src P 1 (l.map byteT) w G (.string ⟨l.toArray⟩) := by
  refine ⟨by simp [Builtin.lenOf, ByteArray.size], ?_⟩
  obtain ⟨us, _, h2, h3⟩ := firstCells_str (P := P) (w := w) G.rd l
  refine ⟨us, fun w' _ => ?_, h2, h3⟩
  obtain ⟨us', g1, g2, _⟩ := firstCells_str (P := P) (w := w') G.rd l
  have : us' = us := by
    apply List.ext_getElem?
    intro k
    have e1 := g2.1
    have e2 := h2.1
    simp at e1 e2
    rcases Nat.lt_or_ge k l.length with hk | hk
    · have he : (l.map byteT)[k]? = some (byteT l[k]) := by simp [List.getElem?_eq_getElem hk]
      obtain ⟨v1, a1, b1, _⟩ := g2.2 k 0 _ (byteT l[k]) he rfl
      obtain ⟨v2, a2, b2, _⟩ := h2.2 k 0 _ (byteT l[k]) he rfl
      simp at a1 a2
      rw [a1, a2, repT_int.1 b1, repT_int.1 b2]
    · rw [List.getElem?_eq_none (by omega), List.getElem?_eq_none (by omega)]
  rw [this] at g1
  simpa using g1

theorem dom_at {H : List Ob} {G G1 : Gh} {id : Nat} {l l' : Loc} (h : G.loc id = some l) (e : G1.loc = G.loc := by rfl) : Dom H G (G1.withLoc id l') := by
  intro j _ hj
  simp only [Gh.withLoc]
  rw [if_neg (fun hx => by subst hx; rw [h] at hj; simp at hj), e]
  exact hj

theorem append_exec {o : Oper} {x y : Operand} {t u : TypeId} (hop : o.op = .call { callee := .builtin .append, args := #[x, y], argTypes := #[t, u] }) {a : Act} {w w' : World} {v : Value}
    (h : (Builtin.append_ #[t, u] o.type #[a.eval x, a.eval y]).run P w = .ok v w') : (execOp a.eval o).run P w = .ok (.value v) w' := by
  unfold execOp; rw [hop]
  simp only [resolve, Sem.run_bind, Sem.run_pure, Result.andThen, invoke, builtin]
  have : (#[x, y] : Array Operand).map a.eval = #[a.eval x, a.eval y] := by simp
  rw [this, h]

theorem appendTo_sound {o : Oper} {x y : Operand} {t u e : TypeId} {d : TypeDesc} {i : TypeInfo} (hop : o.op = .call { callee := .builtin .append, args := #[x, y], argTypes := #[t, u] })
    (ht : P.underlying t = some (.slice e)) (hu : P.underlying u = some d) (hd : (∃ e', d = .slice e') ∨ d = .string) (hi : P.info? e = some i) (hz : zeroOk i = true) (heb : i.bytes ≤ 2 ^ 20)
    {ρ : Operand → AV} {ms : List T} {H : List Ob} {K : AV → List Ob → Prop}
    (hsrc : (∀ e ∈ ms, e.cells.length = i.size) → ∀ (a : Act) (w : World) (G : Gh), Inv w G H → RepA G (ρ y) (a.eval y) → Src P i.size ms w G (a.eval y)) (h : aAppendTo i.size i.bytes (ρ x) ms H K) :
    ∃ r H', K r H' ∧ Does P o ρ r H H' := by
  obtain ⟨z, hzz, hzs⟩ : ∃ z, i.zero = some z ∧ z.cells.size = i.size := by
    unfold zeroOk at hz
    split at hz
    · rename_i z hz'; exact ⟨z, hz', by simpa using hz⟩
    · simp at hz
  have memx : x ∈ o.op.operands := by rw [hop]; simp [Op.operands, Call.operands]
  have memy : y ∈ o.op.operands := by rw [hop]; simp [Op.operands, Call.operands]
  have hzc : ∀ k, (Builtin.zeroCells z.cells k).size = k * i.size := by intro k; simp [Builtin.zeroCells, hzs]
  -- a new block that holds all
  have fresh : ∀ {rd : Rd} {es : List T} {vs us : List Value} {c' : Nat} {w w' : World} {G : Gh}, Inv w G H → G.rd = rd → Flat rd i.size es vs → Flat rd i.size ms us → appendable i.size i.bytes es ms → es.length + ms.length ≤ c' →
      w'.heap = w.heap.push (.cells (vs.toArray ++ us.toArray ++ Builtin.zeroCells z.cells (c' - (es.length + ms.length))) e) →
      ∃ (cs : Array Value) (r : Nat → Option Value), w'.heap = w.heap.push (.cells cs e) ∧ (∀ o c, r o = some c → cs[o]? = some c) ∧ c' * i.size ≤ cs.size ∧ (∀ k, (es.length + ms.length) * i.size ≤ k → r k = none) ∧
        ∀ rd', (∀ b o c, rd b o = some c → rd' b o = some c) → (∀ o, rd' w.heap.size o = r o) → RepT rd' (.slice (es ++ ms)) (.slice (some ⟨w.heap.size, 0, none⟩) (es.length + ms.length) c') := by
    intro rd es vs us c' w w' G hinv hrd f1 f2 hap hc hh
    refine ⟨_, fun k => if k < (es.length + ms.length) * i.size then (vs.toArray ++ us.toArray ++ Builtin.zeroCells z.cells (c' - (es.length + ms.length)))[k]? else none, hh, fun k c hk => ?_, ?_, fun k hk => ?_, fun rd' hmono hnew => ?_⟩
    · simp only [] at hk
      split at hk
      · exact hk
      · simp at hk
    · simp only [Array.size_append, List.size_toArray, hzc, f1.1, f2.1]
      rw [← Nat.add_mul, ← Nat.add_mul]
      exact Nat.mul_le_mul_right _ (by omega)
    · simp only []
      rw [if_neg (by omega)]
    · have hf := (f1.append f2).mono hmono
      have := hf.rep (b := w.heap.size) (o := 0) (cap := c') (fun e he => by
          rcases List.mem_append.1 he with h | h
          · exact hap.1 e h
          · exact hap.2.1 e h) (fun k v hk => by
          have hlt : k < (es.length + ms.length) * i.size := by
            have := (List.getElem?_eq_some_iff.1 hk).1
            simp [f1.1, f2.1] at this
            rw [Nat.add_mul]; exact this
          rw [Nat.zero_add, hnew]
          simp only [if_pos hlt]
          rw [Array.getElem?_append_left (by simp [f1.1, f2.1]; rw [← Nat.add_mul]; exact hlt)]
          simpa using hk) (by
          have h3 := hap.2.2
          have : es.length + ms.length ≤ (es.length + ms.length) * (i.bytes + 1) := Nat.le_mul_of_pos_right _ (by omega)
          simp only [List.length_append]
          unfold maxLen
          omega) (by simpa using hc)
      simpa using this
  unfold aAppendTo at h
  split at h
  · -- a slice whose capacity is its length
    rename_i es hx0
    split at h
    · -- a row that is to be written
      obtain ⟨⟨rfl, hap⟩, hk⟩ := h
      refine ⟨_, _, hk, does_run fun a w G hinv hx => ?_⟩
      have rx := hx x memx
      obtain ⟨hlen, us, hus, fu, hsc⟩ := hsrc hap.2.1 a w G hinv (hx y memy)
      rw [hx0] at rx
      obtain ⟨ad, ev⟩ : ∃ ad, a.eval x = .slice ad 0 0 := by
        generalize a.eval x = v at rx
        cases rx with
        | full _ ad h => exact ⟨ad, rfl⟩
      by_cases hm : ms.length = 0
      · have hms : ms = [] := List.eq_nil_of_length_eq_zero hm
        subst hms
        have hus0 : us = [] := List.eq_nil_of_length_eq_zero (by simpa using fu.1)
        subst hus0
        have hrun := append_room_run (P := P) (ty := o.type) ht hu hd hi (a := ad) (n := 0) (cap := 0) (m := 0) (x := a.eval y) (w := w) (w' := w) (us := []) hlen (Nat.le_refl _) (hus w rfl)
          (by cases ad <;> rfl)
        obtain ⟨i1, s1⟩ := add_loc hinv (.mrow ad 0 0 i.size) (.mrow 0 i.size []) (by cases ad <;> simp [Loc.blk]) ⟨⟨rfl, rfl, Nat.le_refl _, by simp⟩, fun h => absurd h (Nat.lt_irrefl _)⟩
        refine ⟨.slice ad 0 0, w, _, append_exec hop (by rw [ev]; exact hrun), ?_, ⟨i1, s1⟩, fun id hid h => by simp only [Gh.withLoc]; rw [if_neg (by omega)]; exact h⟩
        exact .msl _ 0 i.size 0 0 ad ad ad 0 0 0 0 (by simp [Gh.withLoc]) (Nat.le_refl _) (fun _ => ⟨rfl, rfl⟩) (Nat.le_refl _) (Nat.zero_le _) (fun h => absurd h (Nat.lt_irrefl _)) rfl (fun h => absurd h (Nat.lt_irrefl _))
      · obtain ⟨c', hc', hrun⟩ := append_grow_run (P := P) (ty := o.type) ht hu hd hi hzz (a := ad) (n := 0) (cap := 0) (m := ms.length) (x := a.eval y) (w := w) (vs := []) (us := us) hlen (by omega) (by simpa using hap.2.2) heb
          (fun w' _ => by cases ad <;> simp [Builtin.firstCells, loadCells, loadCellsFrom]) hus
        have hh : ({ w with heap := w.heap.push (.cells (([] : List Value).toArray ++ us.toArray ++ Builtin.zeroCells z.cells (c' - (0 + ms.length))) e), drawn := w.drawn + 1 } : World).heap = w.heap.push (.cells (([] : List Value).toArray ++ us.toArray ++ Builtin.zeroCells z.cells (c' - (0 + ms.length))) e) := rfl
        generalize hcs : ([] : List Value).toArray ++ us.toArray ++ Builtin.zeroCells z.cells (c' - (0 + ms.length)) = cs at hrun hh
        have hcsz : c' * i.size ≤ cs.size := by
          rw [← hcs]
          simp only [Array.size_append, List.size_toArray, hzc, fu.1]
          simp only [List.length_nil, Nat.zero_add]
          rw [← Nat.add_mul]
          exact Nat.mul_le_mul_right _ (by omega)
        have hl : Holds { w with heap := w.heap.push (.cells cs e), drawn := w.drawn + 1 } ((G.withRd w.heap.size (fun _ => none)).withLoc H.length (.mrow (some ⟨w.heap.size, 0, none⟩) c' 0 i.size)) (.mrow (some ⟨w.heap.size, 0, none⟩) c' 0 i.size) (.mrow 0 i.size ms) := by
          refine ⟨⟨rfl, rfl, by omega, hap.2.1⟩, fun _ => ⟨w.heap.size, 0, rfl, ⟨cs, e, by simp, by omega, fun k j e' c he hc => ?_⟩, fun o' => by simp [Gh.withLoc, Gh.withRd]⟩⟩
          obtain ⟨v, g1, g2, g3⟩ := fu.2 k j e' c he hc
          have hget : cs.getD (0 + k * i.size + j) undef = v := by
            rw [← hcs, Array.getD_eq_getD_getElem?, Array.getElem?_append_left (by
              have := (List.getElem?_eq_some_iff.1 g1).1
              simp; omega)]
            simp [g1]
          rw [hget]
          exact ⟨g2.mono (fun b o c e => by
            have := hinv.rd_lt e
            simp only [Gh.withLoc, Gh.withRd]
            rw [if_neg (by omega)]
            exact e), g3⟩
        obtain ⟨i1, s1⟩ := alloc_obj hinv hh ⟨rfl, rfl, rfl⟩ (fun _ => none) (fun _ _ h => by simp at h) (.mrow (some ⟨w.heap.size, 0, none⟩) c' 0 i.size) (.mrow 0 i.size ms) (fun b hb => by
          simp only [Loc.blk] at hb
          split at hb
          · simpa using hb.symm
          · simp at hb) hl
        refine ⟨_, _, _, append_exec hop (by rw [ev]; exact hrun), ?_, ⟨i1, s1⟩, dom_new _ _ _⟩
        rw [Nat.zero_add]
        refine .msl _ 0 i.size 0 ms.length (some ⟨w.heap.size, 0, none⟩) (some ⟨w.heap.size, 0, none⟩) _ c' c' 0 c' (by simp only [Gh.withLoc, if_true]) (Nat.le_refl _) (fun _ => ⟨rfl, rfl⟩) (by omega) ?_ (fun _ => ⟨_, _, rfl⟩) rfl (fun _ => by simp [addr_add])
        have h3 := hap.2.2
        simp only [List.length_nil, Nat.zero_add] at h3
        have : ms.length ≤ ms.length * (i.bytes + 1) := Nat.le_mul_of_pos_right _ (by omega)
        unfold maxLen
        omega
    obtain ⟨hap, hk⟩ := h
    refine ⟨_, _, hk, does_run fun a w G hinv hx => ?_⟩
    have rx := hx x memx
    obtain ⟨hlen, us, hus, fu, hsc⟩ := hsrc hap.2.1 a w G hinv (hx y memy)
    rw [hx0] at rx
    obtain ⟨ad, ev, hr⟩ : ∃ ad, a.eval x = .slice ad es.length es.length ∧ RepT G.rd (.slice es) (.slice ad es.length es.length) := by
      generalize a.eval x = v at rx
      cases rx with
      | full _ ad h => exact ⟨ad, rfl, h⟩
    obtain ⟨vs, hvs, fv, _⟩ := firstCells_slice (P := P) hinv hr hap.1
    by_cases hm : ms.length = 0
    · have hms : ms = [] := List.eq_nil_of_length_eq_zero hm
      subst hms
      have hus0 : us = [] := List.eq_nil_of_length_eq_zero (by simpa using fu.1)
      subst hus0
      have hrun := append_room_run (P := P) (ty := o.type) ht hu hd hi (a := ad) (n := es.length) (cap := es.length) (m := 0) (x := a.eval y) (w := w) (w' := w) (us := []) hlen (Nat.le_refl _) (hus w rfl)
        (by cases ad <;> rfl)
      obtain ⟨i1, s1⟩ := add_loc hinv (.row ad es.length es.length i.size) (.row es.length i.size) (by cases ad <;> simp [Loc.blk]) ⟨rfl, rfl, Nat.le_refl _, fun h => absurd h (Nat.lt_irrefl _)⟩
      refine ⟨.slice ad es.length es.length, w, _, append_exec hop (by rw [ev]; exact hrun), ?_, ⟨by simpa using i1, s1⟩, fun id hid h => by simp only [Gh.withLoc]; rw [if_neg (by omega)]; exact h⟩
      simp only [List.append_nil]
      exact .own _ es ad ad es.length es.length es.length i.size hr (by simp [Gh.withLoc]) (Nat.le_refl _) (fun _ => ⟨rfl, rfl⟩) hap.1
    · obtain ⟨c', hc', hrun⟩ := append_grow_run (P := P) (ty := o.type) ht hu hd hi hzz (a := ad) (n := es.length) (cap := es.length) (m := ms.length) (x := a.eval y) (w := w) (vs := vs) (us := us) hlen (by omega) hap.2.2 heb hvs hus
      obtain ⟨cs, r, hh, hr1, hsz, hsp, hrep⟩ := fresh (w' := { w with heap := w.heap.push (.cells (vs.toArray ++ us.toArray ++ Builtin.zeroCells z.cells (c' - (es.length + ms.length))) e), drawn := w.drawn + 1 }) hinv rfl fv fu hap hc' rfl
      have hl : Holds { w with heap := w.heap.push (.cells (vs.toArray ++ us.toArray ++ Builtin.zeroCells z.cells (c' - (es.length + ms.length))) e), drawn := w.drawn + 1 }
          ((G.withRd w.heap.size r).withLoc H.length (.row (some ⟨w.heap.size, 0, none⟩) c' (es.length + ms.length) i.size)) (.row (some ⟨w.heap.size, 0, none⟩) c' (es.length + ms.length) i.size) (.row (es.length + ms.length) i.size) := by
        refine ⟨rfl, rfl, hc', fun _ => ⟨w.heap.size, 0, rfl, ⟨cs, e, (0, 0), by rw [hh]; simp, by omega⟩, fun k h1 h2 => ⟨?_, ?_⟩⟩⟩
        · unfold World.frozen?
          rw [hh]; simp
        · simp only [Gh.withLoc, Gh.withRd, if_true, Nat.zero_add]
          exact hsp k h1
      obtain ⟨i1, s1⟩ := alloc_obj hinv hh ⟨rfl, rfl, rfl⟩ r hr1 _ _ (fun b hb => by
        simp only [Loc.blk] at hb
        split at hb
        · simpa using hb.symm
        · simp at hb) hl
      refine ⟨_, _, _, append_exec hop (by rw [ev]; exact hrun), ?_, ⟨i1, s1⟩, dom_new _ _ _⟩
      have hr2 := hrep _ s1.grow.rd (fun o => by simp [Gh.withLoc, Gh.withRd])
      have hlen2 : es.length + ms.length = (es ++ ms).length := by simp
      rw [hlen2] at hr2 ⊢
      exact .own _ _ _ (some ⟨w.heap.size, 0, none⟩) _ c' (es ++ ms).length i.size hr2 (by simp only [Gh.withLoc, if_true]) (Nat.le_refl _) (fun _ => ⟨rfl, rfl⟩) (fun e he => by
          rcases List.mem_append.1 he with h | h
          · exact hap.1 e h
          · exact hap.2.1 e h)
  · -- a row that is written
    rename_i id ver s' len hx0
    split at h
    · rename_i v2 s2 es hob
      obtain ⟨⟨rfl, rfl, rfl, hle⟩, hap, hk⟩ := h
      refine ⟨_, _, hk, does_run fun a w G hinv hx => ?_⟩
      have rx := hx x memx
      obtain ⟨hlen, us, hus, fu, hsc⟩ := hsrc hap.2.1 a w G hinv (hx y memy)
      rw [hx0] at rx
      have htl : (es.take len).length = len := by simp; omega
      have hmax : len + ms.length ≤ maxLen := by
        have h3 := hap.2.2
        rw [htl] at h3
        have : len + ms.length ≤ (len + ms.length) * (i.bytes + 1) := Nat.le_mul_of_pos_right _ (by omega)
        unfold maxLen
        omega
      obtain ⟨ad, a0, cap, ev, hloc, hcap, had⟩ : ∃ ad a0 cap, a.eval x = .slice ad len cap ∧ G.loc id = some (.mrow a0 cap v2 i.size) ∧ len ≤ cap ∧ (0 < cap → ad = a0) := by
        generalize a.eval x = v at rx
        cases rx with
        | msl _ _ _ _ _ a1 a' a2 cap cap' ver' c2 hl hn he hc hm hz h2 ha =>
          obtain ⟨rfl, _⟩ := row_view hinv (.inl hob) hl
          obtain ⟨rfl, rfl⟩ := he rfl
          refine ⟨a2, a1, cap, by rw [h2, Nat.sub_zero], hl, by omega, fun h => ?_⟩
          rw [ha h]
          obtain ⟨b, o', rfl⟩ := hz h
          simp [addr_add]
      obtain ⟨_, _, h3, h4, h5⟩ := row_view hinv (.inl hob) hloc
      have hsizes : ∀ e ∈ es.take len ++ ms, e.cells.length = i.size := fun e he => by
        rcases List.mem_append.1 he with h | h
        · exact hap.1 e h
        · exact hap.2.1 e h
      have dom : ∀ l', Dom H G (G.withLoc id l') := fun l' j hj h => by
        simp only [Gh.withLoc]
        rw [if_neg (fun e => by subst e; rw [hloc] at h; simp at h)]
        exact h
      have mk : ∀ (G' : Gh) (ad' : Option Addr) (c' : Nat), G'.loc id = some (.mrow ad' c' (v2 + 1) i.size) → len + ms.length ≤ c' → (0 < c' → ∃ b o, ad' = some ⟨b, o, none⟩) → ∀ ad2, (0 < c' → ad2 = ad') → RepA G' (.msl id (v2 + 1) i.size 0 (len + ms.length)) (.slice ad2 (len + ms.length) c') := by
        intro G' ad' c' hl hc hz ad2 h2
        refine .msl id (v2 + 1) i.size 0 _ ad' ad' ad2 c' c' (v2 + 1) c' hl (Nat.le_refl _) (fun _ => ⟨rfl, rfl⟩) (by omega) hmax hz rfl (fun h => ?_)
        rw [h2 h]
        obtain ⟨b, o', rfl⟩ := hz h
        simp [addr_add]
      obtain ⟨ob, ho2, hh2⟩ := hinv.obj id _ hloc
      rw [hob] at ho2; simp at ho2; subst ho2
      obtain ⟨_, hh3⟩ := hh2
      by_cases hm : ms.length = 0
      · have hms : ms = [] := List.eq_nil_of_length_eq_zero hm
        subst hms
        have hus0 : us = [] := List.eq_nil_of_length_eq_zero (by simpa using fu.1)
        subst hus0
        have hrun := append_room_run (P := P) (ty := o.type) ht hu hd hi (a := ad) (n := len) (cap := cap) (m := 0) (x := a.eval y) (w := w) (w' := w) (us := []) hlen hcap (hus w rfl)
          (by cases ad <;> rfl)
        obtain ⟨i1, s1⟩ := set_mrow hinv (a' := a0) (cap' := cap) (v' := v2 + 1) (es' := es.take len ++ []) hloc (Nat.lt_succ_self _) (Same.refl w) (Nat.le_refl _) (fun _ _ _ => rfl) (fun b hb => .inl (by simp only [Gh.blk, hloc, Option.bind_some]; cases a0 <;> exact hb)) hinv.rd (by
          refine ⟨⟨rfl, rfl, by simp; omega, hsizes⟩, fun hc => ?_⟩
          obtain ⟨b, o', e1, ⟨cs, ty, e2, e3, e4⟩, e5⟩ := hh3 hc
          refine ⟨b, o', e1, ⟨cs, ty, e2, e3, fun k j e c he hc => e4 k j e c ?_ hc⟩, e5⟩
          rw [List.append_nil, List.getElem?_take] at he
          split at he
          · exact he
          · simp at he)
        exact ⟨_, w, _, append_exec hop (by rw [ev]; exact hrun), mk _ a0 cap (by simp [Gh.withLoc]) (by simpa using hcap) (fun h => let ⟨b, o', _, e, _⟩ := h5 h; ⟨b, o', e⟩) ad had, ⟨i1, s1⟩, dom _⟩
      · by_cases hroom : len + ms.length ≤ cap
        · obtain ⟨b, o', e1, ⟨cs, ty, e2, e3, e4⟩, e5⟩ := hh3 (by omega)
          have had := had (by omega)
          subst had
          subst e1
          have hmul : (len + ms.length) * i.size ≤ cap * i.size := Nat.mul_le_mul_right _ hroom
          rw [Nat.add_mul] at hmul
          have hul : us.length = ms.length * i.size := fu.1
          have hst := storeCells_run (P := P) (b := b) (o := o' + len * i.size) (ty := ty) us w cs 0 e2 (by omega) hsc
          have hrun := append_room_run (P := P) (ty := o.type) ht hu hd hi (a := some ⟨b, o', none⟩) (n := len) (cap := cap) (m := ms.length) (x := a.eval y) (w := w)
            (w' := { w with heap := w.heap.setIfInBounds b (.cells (setR cs (o' + len * i.size + 0) us) ty (0, 0)) }) (us := us) hlen hroom (hus w rfl)
            (by simp only [addr_add]; exact hst)
          have hwr := write_mrow hinv (v' := v2 + 1) (es' := es.take len ++ ms) (w' := { w with heap := w.heap.setIfInBounds b (.cells (setR cs (o' + len * i.size + 0) us) ty (0, 0)) }) hloc hob (by omega) (Nat.le_succ _) e2 rfl ⟨rfl, rfl, rfl⟩
            (by rw [setR_size]; exact e3) (by simp; omega) hsizes (fun k j e c he hc => by
              have hg : (setR cs (o' + len * i.size + 0) us).getD (o' + k * i.size + j) undef = if o' + len * i.size ≤ o' + k * i.size + j ∧ o' + k * i.size + j < o' + len * i.size + us.length then us.getD (o' + k * i.size + j - (o' + len * i.size)) undef else cs.getD (o' + k * i.size + j) undef := by
                rw [Array.getD_eq_getD_getElem?, setR_get _ _ _ _ (by omega)]
                simp only [Nat.add_zero]
                split <;> simp [Array.getD_eq_getD_getElem?]
              rw [hg]
              have hj : j < i.size := by
                have := (List.getElem?_eq_some_iff.1 hc).1
                rwa [hsizes e (List.mem_of_getElem? he)] at this
              rcases Nat.lt_or_ge k len with hk' | hk'
              · rw [List.getElem?_append_left (by omega), List.getElem?_take, if_pos hk'] at he
                have : (k + 1) * i.size ≤ len * i.size := Nat.mul_le_mul_right _ hk'
                rw [Nat.add_mul] at this
                rw [if_neg (by omega)]
                exact e4 k j e c he hc
              · rw [List.getElem?_append_right (by omega), htl] at he
                obtain ⟨v, g1, g2, g3⟩ := fu.2 (k - len) j e c he hc
                have hkl : k * i.size = len * i.size + (k - len) * i.size := by rw [← Nat.add_mul]; congr 1; omega
                have hkm : (k - len + 1) * i.size ≤ ms.length * i.size := Nat.mul_le_mul_right _ (List.getElem?_eq_some_iff.1 he).1
                rw [Nat.add_mul] at hkm
                rw [if_pos (by omega), show o' + k * i.size + j - (o' + len * i.size) = (k - len) * i.size + j by omega, List.getD_eq_getElem?_getD, g1]
                exact ⟨g2, g3⟩) e5
          exact ⟨_, _, _, append_exec hop (by rw [ev]; exact hrun), mk _ _ cap (by simp [Gh.withLoc]) hroom (fun _ => ⟨_, _, rfl⟩) _ (fun _ => rfl), hwr, dom _⟩
        · -- elsewhere
          obtain ⟨vs, hvs, fv, _⟩ : ∃ vs : List Value, (∀ w' : World, w'.heap = w.heap → (Builtin.firstCells i.size len (.slice ad len cap)).run P w' = .ok vs.toArray w') ∧ Flat G.rd i.size (es.take len) vs ∧ ∀ u ∈ vs, scalar u = true := by
            by_cases h0 : len = 0
            · subst h0
              refine ⟨[], fun w' _ => ?_, ⟨by simp, fun i j e c he => by simp at he⟩, by simp⟩
              cases ad with
              | none => rfl
              | some a => simp [Builtin.firstCells, loadCells, loadCellsFrom]
            · obtain ⟨b, o', f, e1, hf⟩ := h5 (by omega)
              have had := had (by omega)
              subst had
              subst e1
              exact firstCells_row f htl hap.1 (fun k j e c he hc => by
                rw [List.getElem?_take] at he
                split at he
                · exact hf k j e c he hc
                · simp at he)
          obtain ⟨c', hc', hrun⟩ := append_grow_run (P := P) (ty := o.type) ht hu hd hi hzz (a := ad) (n := len) (cap := cap) (m := ms.length) (x := a.eval y) (w := w) (vs := vs) (us := us) hlen hroom (by have := hap.2.2; rwa [htl] at this) heb hvs hus
          have fl := fv.append fu
          generalize hcs : vs.toArray ++ us.toArray ++ Builtin.zeroCells z.cells (c' - (len + ms.length)) = cs at hrun
          have hcsz : c' * i.size ≤ cs.size := by
            rw [← hcs]
            simp only [Array.size_append, List.size_toArray, hzc, fu.1, fv.1, htl]
            rw [← Nat.add_mul, ← Nat.add_mul]
            exact Nat.mul_le_mul_right _ (by omega)
          obtain ⟨i1, s1⟩ := set_mrow hinv (w' := { w with heap := w.heap.push (.cells cs e), drawn := w.drawn + 1 }) (a' := some ⟨w.heap.size, 0, none⟩) (cap' := c') (v' := v2 + 1) (es' := es.take len ++ ms) hloc (Nat.lt_succ_self _) ⟨rfl, rfl, rfl⟩ (by simp)
            (fun k hk _ => by simp only [Array.getElem?_push]; rw [if_neg (by omega)]) (fun b hb => .inr (by
              simp only [Loc.blk] at hb
              split at hb
              · simp at hb; omega
              · simp at hb)) (fun b o c e => by
              rw [cell_push (w := w) (ob := .cells cs _) rfl (hinv.rd_lt e)]
              exact hinv.rd b o c e) (by
            refine ⟨⟨rfl, rfl, by simp; omega, hsizes⟩, fun _ => ⟨w.heap.size, 0, rfl, ⟨cs, e, by simp, by omega, fun k j e' c he hc => ?_⟩, fun o' => ?_⟩⟩
            · obtain ⟨v, g1, g2, g3⟩ := fl.2 k j e' c he hc
              have hget : cs.getD (0 + k * i.size + j) undef = v := by
                have hlt := (List.getElem?_eq_some_iff.1 g1).1
                simp at hlt
                rw [← hcs, Array.getD_eq_getD_getElem?, Array.getElem?_append_left (by simp; omega), Nat.zero_add]
                rw [show vs.toArray ++ us.toArray = (vs ++ us).toArray by simp]
                simp only [List.getElem?_toArray, g1]
                rfl
              rw [hget]
              exact ⟨g2, g3⟩
            · show G.rd w.heap.size o' = none
              cases e6 : G.rd w.heap.size o' with
              | none => rfl
              | some c => have := hinv.rd_lt e6; omega)
          exact ⟨_, _, _, append_exec hop (by rw [ev]; exact hrun), mk _ _ c' (by simp [Gh.withLoc]) hc' (fun _ => ⟨_, _, rfl⟩) _ (fun _ => rfl), ⟨i1, s1⟩, dom _⟩
    · exact h.elim
  · -- a row of its own
    rename_i id es hx0
    split at h
    · rename_i n s' hob
      obtain ⟨⟨rfl, rfl⟩, hap, hk⟩ := h
      refine ⟨_, _, hk, does_run fun a w G hinv hx => ?_⟩
      have rx := hx x memx
      obtain ⟨hlen, us, hus, fu, hsc⟩ := hsrc hap.2.1 a w G hinv (hx y memy)
      rw [hx0] at rx
      obtain ⟨ad, cap, ev, hr, hloc⟩ : ∃ ad cap, a.eval x = .slice ad es.length cap ∧ RepT G.rd (.slice es) (.slice ad es.length cap) ∧ G.loc id = some (.row ad cap es.length i.size) := by
        generalize a.eval x = v at rx
        cases rx with
        | own _ _ ad a' cap cap' n s h hl hn he hs =>
          obtain ⟨ob, ho, hh⟩ := hinv.obj id _ hl
          rw [hob] at ho; simp at ho; subst ho
          obtain ⟨rfl, rfl, _, _⟩ := hh
          obtain ⟨rfl, rfl⟩ := he rfl
          exact ⟨ad, cap, rfl, h, hl⟩
      obtain ⟨ob, ho, hh⟩ := hinv.obj id _ hloc
      rw [hob] at ho; simp at ho; subst ho
      obtain ⟨_, _, hncap, hspare⟩ := hh
      have hidl := hinv.loc_lt hloc
      have hsizes : ∀ e ∈ es ++ ms, e.cells.length = i.size := fun e he => by
        rcases List.mem_append.1 he with h | h
        · exact hap.1 e h
        · exact hap.2.1 e h
      have hmax : es.length + ms.length ≤ maxLen := by
        have h3 := hap.2.2
        have : es.length + ms.length ≤ (es.length + ms.length) * (i.bytes + 1) := Nat.le_mul_of_pos_right _ (by omega)
        unfold maxLen
        omega
      by_cases hm : ms.length = 0
      · have hms : ms = [] := List.eq_nil_of_length_eq_zero hm
        subst hms
        have hus0 : us = [] := List.eq_nil_of_length_eq_zero (by simpa using fu.1)
        subst hus0
        have hrun := append_room_run (P := P) (ty := o.type) ht hu hd hi (a := ad) (n := es.length) (cap := cap) (m := 0) (x := a.eval y) (w := w) (w' := w) (us := []) hlen hncap (hus w rfl)
          (by cases ad <;> rfl)
        have hset : H.set id (.row (es.length + ([] : List T).length) i.size) = H := by
          apply List.ext_getElem?
          intro j
          by_cases hj : id = j
          · subst hj; simp [hidl] at hob ⊢; exact hob.symm
          · rw [List.getElem?_set_ne hj]
        refine ⟨.slice ad es.length cap, w, G, append_exec hop (by rw [ev]; exact hrun), ?_, ⟨by rw [hset]; exact hinv, .refl w G⟩, fun _ _ h => h⟩
        simp only [List.append_nil]
        exact .own _ es ad ad cap cap es.length i.size hr hloc (Nat.le_refl _) (fun _ => ⟨rfl, rfl⟩) hap.1
      · by_cases hroom : es.length + ms.length ≤ cap
        · obtain ⟨b, of, hb, ⟨cs, ty, fr, hcs, hcz⟩, hsp⟩ := hspare (by omega)
          subst hb
          have hmul : (es.length + ms.length) * i.size ≤ cap * i.size := Nat.mul_le_mul_right _ hroom
          rw [Nat.add_mul] at hmul
          have hul : us.length = ms.length * i.size := fu.1
          have hst := storeCells_run' (P := P) (b := b) (o := of + es.length * i.size) (ty := ty) (fr := fr) us w cs 0 hcs (by omega) hsc (fun k _ hk => by
            have := (hsp (es.length * i.size + k) (by omega) (by omega)).1
            unfold World.frozen? at this
            simp only [hcs] at this
            rw [← Nat.add_assoc] at this
            exact this)
          have hrun := append_room_run (P := P) (ty := o.type) ht hu hd hi (a := some ⟨b, of, none⟩) (n := es.length) (cap := cap) (m := ms.length) (x := a.eval y) (w := w)
            (w' := { w with heap := w.heap.setIfInBounds b (.cells (setR cs (of + es.length * i.size + 0) us) ty fr) }) (us := us) hlen hroom (hus w rfl)
            (by simp only [addr_add]; exact hst)
          have hgr := grow_row hinv (w' := { w with heap := w.heap.setIfInBounds b (.cells (setR cs (of + es.length * i.size + 0) us) ty fr) }) hloc (n' := es.length + ms.length) (by omega) hroom hcs rfl ⟨rfl, rfl, rfl⟩ (setR_size _ _ _)
            (fun k hk => by
              rw [setR_get _ _ _ _ (by omega), if_neg (by rw [Nat.add_mul] at hk; omega)])
          obtain ⟨i1, s1⟩ := hgr
          refine ⟨_, _, _, append_exec hop (by rw [ev]; exact hrun), ?_, ⟨i1, s1⟩, dom_at hloc⟩
          have hlen2 : es.length + ms.length = (es ++ ms).length := by simp
          generalize hG : ((({ G with rd := fun b' k => if b' = b ∧ of + es.length * i.size ≤ k ∧ k < of + (es.length + ms.length) * i.size then (setR cs (of + es.length * i.size + 0) us)[k]? else G.rd b' k } : Gh).withLoc id (.row (some ⟨b, of, none⟩) cap (es.length + ms.length) i.size))) = G' at s1 ⊢
          have erd : ∀ k, of + es.length * i.size ≤ k → k < of + (es.length + ms.length) * i.size → G'.rd b k = (setR cs (of + es.length * i.size + 0) us)[k]? := by
            intro k h1 h2
            rw [← hG]
            show (if b = b ∧ of + es.length * i.size ≤ k ∧ k < of + (es.length + ms.length) * i.size then _ else _) = _
            rw [if_pos ⟨rfl, h1, h2⟩]
          have eloc : G'.loc id = some (.row (some ⟨b, of, none⟩) cap (es.length + ms.length) i.size) := by rw [← hG]; simp [Gh.withLoc]
          have hnew : ∀ k v, us[k]? = some v → G'.rd b (of + es.length * i.size + k) = some v := by
            intro k v hk
            have hk' := (List.getElem?_eq_some_iff.1 hk).1
            rw [erd _ (by omega) (by rw [Nat.add_mul]; omega), setR_get _ _ _ _ (by omega), if_pos (by omega)]
            rw [show of + es.length * i.size + k - (of + es.length * i.size + 0) = k by omega]
            exact hk
          have hrep : RepT G'.rd (.slice (es ++ ms)) (.slice (some ⟨b, of, none⟩) (es ++ ms).length cap) := by
            have hbase : ∃ val : Nat → Nat → Value, (∀ i' j e c, es[i']? = some e → e.cells[j]? = some c → G.rd b (of + i' * i.size + j) = some (val i' j) ∧ RepT G.rd c (val i' j) ∧ scalar (val i' j) = true) := by
              by_cases h0 : es = []
              · exact ⟨fun _ _ => undef, fun i' j e c he => by rw [h0] at he; simp at he⟩
              · clear hrun hst i1 s1 ev
                generalize hv : Value.slice (some ⟨b, of, none⟩) es.length cap = v at hr
                generalize hes : es = es' at hr
                cases hr with
                | nil => exact absurd hes h0
                | slice _ b' o' cap' s'' val hs' hrd hvv hk' hl' hc' =>
                  subst hes
                  injection hv with e1 e2 e3
                  injection e1 with e1
                  injection e1 with e4 e5
                  subst e4 e5
                  have hne : 0 < es.length := List.length_pos_iff.2 h0
                  have hss : s'' = i.size := by rw [← hs' _ (List.getElem_mem hne), hap.1 _ (List.getElem_mem hne)]
                  subst hss
                  exact ⟨val, fun i' j e c he hc => ⟨hrd i' j e c he hc, hvv i' j e c he hc, hk' i' j e c he hc⟩⟩
            obtain ⟨val, hval⟩ := hbase
            have look : ∀ (i' j : Nat) (e c : T), (es ++ ms)[i']? = some e → e.cells[j]? = some c → (i' < es.length ∧ es[i']? = some e) ∨ (es.length ≤ i' ∧ ms[i' - es.length]? = some e) := by
              intro i' j e c he _
              rcases Nat.lt_or_ge i' es.length with h | h
              · rw [List.getElem?_append_left h] at he; exact .inl ⟨h, he⟩
              · rw [List.getElem?_append_right h] at he; exact .inr ⟨h, he⟩
            have hidx : ∀ i' j, es.length ≤ i' → of + i' * i.size + j = of + es.length * i.size + ((i' - es.length) * i.size + j) := by
              intro i' j h
              have : i' * i.size = es.length * i.size + (i' - es.length) * i.size := by rw [← Nat.add_mul]; congr 1; omega
              omega
            refine .slice _ b of cap i.size (fun i' j => if i' < es.length then val i' j else us.getD ((i' - es.length) * i.size + j) undef) hsizes (fun i' j e c he hc => ?_) (fun i' j e c he hc => ?_) (fun i' j e c he hc => ?_) (by simpa using hmax) (by simpa using hroom)
            · rcases look i' j e c he hc with ⟨h, he'⟩ | ⟨h, he'⟩
              · simp only [h, if_true]
                exact s1.grow.rd _ _ _ (hval i' j e c he' hc).1
              · obtain ⟨v, g1, _, _⟩ := fu.2 _ j e c he' hc
                simp only [show ¬ i' < es.length by omega, if_false]
                rw [hidx i' j h, List.getD_eq_getElem?_getD, g1]
                exact hnew _ _ g1
            · rcases look i' j e c he hc with ⟨h, he'⟩ | ⟨h, he'⟩
              · simp only [h, if_true]
                exact (hval i' j e c he' hc).2.1.mono s1.grow.rd
              · obtain ⟨v, g1, g2, _⟩ := fu.2 _ j e c he' hc
                simp only [show ¬ i' < es.length by omega, if_false]
                rw [List.getD_eq_getElem?_getD, g1]
                exact g2.mono s1.grow.rd
            · rcases look i' j e c he hc with ⟨h, he'⟩ | ⟨h, he'⟩
              · simp only [h, if_true]
                exact (hval i' j e c he' hc).2.2
              · obtain ⟨v, g1, _, g3⟩ := fu.2 _ j e c he' hc
                simp only [show ¬ i' < es.length by omega, if_false]
                rw [List.getD_eq_getElem?_getD, g1]
                exact g3
          rw [hlen2]
          exact .own _ _ _ (some ⟨b, of, none⟩) _ cap (es ++ ms).length i.size hrep (by rw [eloc, hlen2]) (Nat.le_refl _) (fun _ => ⟨rfl, rfl⟩) hsizes
        · obtain ⟨vs, hvs, fv, _⟩ := firstCells_slice (P := P) hinv hr hap.1
          obtain ⟨c', hc', hrun⟩ := append_grow_run (P := P) (ty := o.type) ht hu hd hi hzz (a := ad) (n := es.length) (cap := cap) (m := ms.length) (x := a.eval y) (w := w) (vs := vs) (us := us) hlen hroom hap.2.2 heb hvs hus
          obtain ⟨cs, r, hh, hr1, hsz, hsp, hrep⟩ := fresh (w' := { w with heap := w.heap.push (.cells (vs.toArray ++ us.toArray ++ Builtin.zeroCells z.cells (c' - (es.length + ms.length))) e), drawn := w.drawn + 1 }) hinv rfl fv fu hap hc' rfl
          obtain ⟨i1, s1⟩ := move_row hinv hloc hh ⟨rfl, rfl, rfl⟩ r hr1 (cap' := c') (n' := es.length + ms.length) (by omega) hc' hsz hsp
          refine ⟨_, _, _, append_exec hop (by rw [ev]; exact hrun), ?_, ⟨i1, s1⟩, dom_at hloc⟩
          have hr2 := hrep _ s1.grow.rd (fun o => by simp [Gh.withLoc, Gh.withRd])
          have hlen2 : es.length + ms.length = (es ++ ms).length := by simp
          rw [hlen2] at hr2 ⊢
          exact .own _ _ _ (some ⟨w.heap.size, 0, none⟩) _ c' (es ++ ms).length i.size hr2 (by simp only [Gh.withLoc, if_true]) (Nat.le_refl _) (fun _ => ⟨rfl, rfl⟩) hsizes
    · exact h.elim
  · exact h.elim

/- Closures. -/
theorem freeze_one {w : World} {G : Gh} {H : List Ob} (hi : Inv w G H) {id b : Nat} {cells : List AV} {ts : List T} (hl : G.loc id = some (.box b)) (ho : H[id]? = some (.box cells)) (ht : allT cells = some ts) :
    ∃ G', Inv w G' (H.set id (.fz ts)) ∧ Step w G w G' ∧ G'.loc = G.loc ∧ ∀ off, RepT G'.rd (.imm ts off) (.pointer (some ⟨b, off, none⟩)) := by
  obtain ⟨ob, ho', hh⟩ := hi.obj id _ hl
  rw [ho] at ho'; simp at ho'; subst ho'
  obtain ⟨cs, ty, e1, e2, e3, e4⟩ := hh
  have hidl := hi.loc_lt hl
  have hb : b < w.heap.size := (Array.getElem?_eq_some_iff.1 e1).1
  have hblk : G.blk id = some b := by simp [Gh.blk, hl, Loc.blk]
  obtain ⟨htl, hts⟩ := allT_spec ht
  have hrd : ∀ b' o c, G.rd b' o = some c → (G.withRd b (fun o => cs[o]?)).rd b' o = some c := by
    intro b' o c e
    simp only [Gh.withRd]
    rw [if_neg (fun h => by subst h; rw [e4] at e; simp at e)]
    exact e
  have hg : Grow G (G.withRd b (fun o => cs[o]?)) := ⟨hrd, fun _ l e => ⟨l, e, .refl l⟩⟩
  have cell : ∀ j t, ts[j]? = some t → ∃ v, (G.withRd b (fun o => cs[o]?)).rd b j = some v ∧ RepT (G.withRd b (fun o => cs[o]?)).rd t v ∧ scalar v = true := by
    intro j t hj
    obtain ⟨c, hc, hct⟩ := hts j t hj
    have hlt : j < cs.size := by have := (List.getElem?_eq_some_iff.1 hc).1; omega
    obtain ⟨r1, r2⟩ := e3 j c hc
    have ev : cs.getD j undef = cs[j] := by simp [Array.getD_eq_getD_getElem?, Array.getElem?_eq_getElem hlt]
    rw [ev] at r1 r2
    exact ⟨cs[j], by simp [Gh.withRd, Array.getElem?_eq_getElem hlt], (r1.cellT hct).mono hrd, r2⟩
  refine ⟨G.withRd b (fun o => cs[o]?), ⟨fun b' o c e => ?_, fun j l e => ?_, hi.dis⟩, fun n => ⟨rfl, rfl, rfl, Nat.le_refl _, fun _ _ _ => rfl, hrd, fun b' o c e => ?_, fun _ _ l e => ⟨l, e, .refl l⟩, fun id _ e => .inr ⟨id, e⟩⟩, rfl, fun off => ?_⟩
  · simp only [Gh.withRd] at e
    split at e
    · rename_i h
      subst h
      unfold World.cell?
      simp [e1, e]
    · exact hi.rd b' o c e
  · by_cases hj : j = id
    · subst hj
      rw [show (G.withRd b (fun o => cs[o]?)).loc j = some (.box b) from hl] at e
      simp at e
      subst e
      exact ⟨.fz ts, by simp [hidl], hb, cell⟩
    · obtain ⟨ob, ho2, hh2⟩ := hi.obj j l e
      refine ⟨ob, by rw [List.getElem?_set_ne (fun h => hj h.symm)]; exact ho2, hh2.keep hg (Nat.le_refl _) (fun k hk => ⟨rfl, fun o h => ?_⟩)⟩
      simp only [Gh.withRd]
      rw [if_neg (fun h => ?_)]
      · exact h
      · subst h
        refine hj (hi.dis j id k ?_ hblk)
        show (G.loc j).bind Loc.blk = some k
        rw [show G.loc j = some l from e]
        exact hk
  · simp only [Gh.withRd] at e
    split at e
    · rename_i h; exact .inr (.inr ⟨id, by rw [h]; exact hblk⟩)
    · exact .inl e
  · have := RepT.imm (rd := (G.withRd b (fun o => cs[o]?)).rd) ts off b 0 (fun j => ((G.withRd b (fun o => cs[o]?)).rd b j).getD undef) (fun j c hj => by
        obtain ⟨v, h1, _, _⟩ := cell j c hj
        rw [Nat.zero_add, h1]; rfl) (fun j c hj => by
        obtain ⟨v, h1, h2, _⟩ := cell j c hj
        rw [h1]; exact h2) (fun j c hj => by
        obtain ⟨v, h1, _, h3⟩ := cell j c hj
        rw [h1]; exact h3)
    simpa using this

theorem freeze_sound : ∀ (caps : List AV) (H : List Ob) (K : List T → List Ob → Prop), aFreeze caps H K →
    ∃ cs H', K cs H' ∧ cs.length = caps.length ∧ ∀ (w : World) (G : Gh) (vs : List Value), Inv w G H → vs.length = caps.length → (∀ (j : Nat) (c : AV) (v : Value), caps[j]? = some c → vs[j]? = some v → RepA G c v) →
      ∃ G', Inv w G' H' ∧ Step w G w G' ∧ G'.loc = G.loc ∧ ∀ (j : Nat) (c : T) (v : Value), cs[j]? = some c → vs[j]? = some v → RepT G'.rd c v
  | [], H, K, h => ⟨[], H, h, rfl, fun w G vs hi _ _ => ⟨G, hi, .refl w G, rfl, fun j c v hc => by simp at hc⟩⟩
  | x :: r, H, K, h => by
    have go : ∀ (ts : List T) (off : Nat) (H1 : List Ob), aFreeze r H1 (fun cs H' => K (.imm ts off :: cs) H') →
        (∀ (w : World) (G : Gh) (v : Value), Inv w G H → RepA G x v → ∃ G1, Inv w G1 H1 ∧ Step w G w G1 ∧ G1.loc = G.loc ∧ RepT G1.rd (.imm ts off) v) →
        ∃ cs H', K cs H' ∧ cs.length = (x :: r).length ∧ ∀ (w : World) (G : Gh) (vs : List Value), Inv w G H → vs.length = (x :: r).length → (∀ (j : Nat) (c : AV) (v : Value), (x :: r)[j]? = some c → vs[j]? = some v → RepA G c v) →
          ∃ G', Inv w G' H' ∧ Step w G w G' ∧ G'.loc = G.loc ∧ ∀ (j : Nat) (c : T) (v : Value), cs[j]? = some c → vs[j]? = some v → RepT G'.rd c v := by
      intro ts off H1 h1 h2
      obtain ⟨cs, H', hk, hl, hrest⟩ := freeze_sound r H1 _ h1
      refine ⟨.imm ts off :: cs, H', hk, by simp [hl], fun w G vs hi hvl hv => ?_⟩
      cases vs with
      | nil => simp at hvl
      | cons v vs =>
        obtain ⟨G1, i1, s1, l1, r1⟩ := h2 w G v hi (hv 0 x v rfl rfl)
        obtain ⟨G2, i2, s2, l2, r2⟩ := hrest w G1 vs i1 (by simpa using hvl) (fun j c u hc hu => (hv (j + 1) c u (by simpa using hc) (by simpa using hu)).mono s1.grow)
        refine ⟨G2, i2, s1.trans s2, l2.trans l1, fun j c u hc hu => ?_⟩
        cases j with
        | zero => simp at hc hu; subst hc hu; exact r1.mono s2.grow.rd
        | succ j => simp at hc hu; exact r2 j c u hc hu
    unfold aFreeze at h
    split at h
    · rename_i heq; simp at heq
    · rename_i id off r' heq
      simp at heq
      obtain ⟨rfl, rfl⟩ := heq
      split at h
      · rename_i cells hob
        split at h
        · rename_i ts hts
          refine go ts off _ h (fun w G v hi rx => ?_)
          cases rx with
          | bptr _ _ b hl =>
            obtain ⟨G', h1, h2, h4, h3⟩ := freeze_one hi hl hob hts
            exact ⟨G', h1, h2, h4, h3 off⟩
        · exact h.elim
      · rename_i ts hob
        refine go ts off _ h (fun w G v hi rx => ?_)
        cases rx with
        | bptr _ _ b hl =>
          obtain ⟨ob, ho, hh⟩ := hi.obj id _ hl
          rw [hob] at ho; simp at ho; subst ho
          obtain ⟨_, e2⟩ := hh
          refine ⟨G, hi, .refl w G, rfl, ?_⟩
          have := RepT.imm (rd := G.rd) ts off b 0 (fun j => (G.rd b j).getD undef) (fun j c hj => by
              obtain ⟨v, h1, _, _⟩ := e2 j c hj
              rw [Nat.zero_add, h1]; rfl) (fun j c hj => by
              obtain ⟨v, h1, h2, _⟩ := e2 j c hj
              rw [h1]; exact h2) (fun j c hj => by
              obtain ⟨v, h1, _, h3⟩ := e2 j c hj
              rw [h1]; exact h3)
          simpa using this
      · exact h.elim
    · rename_i ts off r' heq
      simp at heq
      obtain ⟨rfl, rfl⟩ := heq
      exact go ts off _ h (fun w G v hi rx => ⟨G, hi, .refl w G, rfl, repA_p.1 rx⟩)
    · exact h.elim

theorem boxes_spec : ∀ {xs : List AV} {l : List (Nat × Nat)}, boxes xs = some l → l.length = xs.length ∧ ∀ (j : Nat) (c : Nat × Nat), l[j]? = some c → xs[j]? = some (.bptr c.1 c.2)
  | [], l, h => by simp [boxes] at h; subst h; simp
  | x :: r, l, h => by
    unfold boxes at h
    split at h
    · rename_i heq; simp at heq
    · rename_i id off r' heq
      simp at heq
      obtain ⟨rfl, rfl⟩ := heq
      split at h
      · rename_i l' hl
        simp at h
        subst h
        obtain ⟨h1, h2⟩ := boxes_spec hl
        refine ⟨by simp [h1], fun j c hj => ?_⟩
        cases j with
        | zero => simp at hj; subst hj; rfl
        | succ j => simp at hj; simpa using h2 j c hj
      · simp at h
    · simp at h

theorem makeFunc_sound {o : Oper} {f : FuncId} {first caps : Array Operand} (hop : o.op = .makeFunc (.func f) first caps) (hf : first.toList = []) {ρ : Operand → AV} {H : List Ob} {K : AV → List Ob → Prop}
    (h : aMakeFunc f (caps.toList.map ρ) H K) : ∃ r H', K r H' ∧ Does P o ρ r H H' := by
  have ef : first = #[] := by apply Array.ext'; simpa using hf
  subst ef
  unfold aMakeFunc at h
  split at h
  · rename_i c cs hmo hbx
    obtain ⟨hl, hs⟩ := boxes_spec hbx
    refine ⟨_, _, h, does_quiet fun a w G hinv hx => ⟨.func (.func f) #[] (caps.map a.eval), ?_, .mclo f (c :: cs) _ (by simp only [Array.size_map]; rw [hl]; simp) (fun j d hj => ?_)⟩⟩
    · unfold execOp; rw [hop]
      simp only [Instr.makeFunc, Sem.run_bind, Sem.run_pure, Result.andThen]
      simp
    · have e := hs j d hj
      simp only [List.getElem?_map, Option.map_eq_some_iff] at e
      obtain ⟨y, hy, ey⟩ := e
      have hj' : j < caps.size := by
        have := (List.getElem?_eq_some_iff.1 hy).1
        simpa using this
      have hcj : caps[j] = y := by
        rw [Array.getElem?_toList, Array.getElem?_eq_getElem hj'] at hy
        simpa using hy
      have rx := hx y (by
        rw [hop]
        have : y ∈ caps := hcj ▸ Array.getElem_mem hj'
        simp [Op.operands, this])
      rw [ey] at rx
      have ev : (caps.map a.eval).getD j undef = a.eval y := by
        simp [Array.getD_eq_getD_getElem?, hj', hcj]
      rw [ev]
      generalize a.eval y = u at rx
      cases rx with
      | bptr _ _ b hb => exact ⟨b, hb, rfl⟩
  obtain ⟨cs, H', hk, hl, hrest⟩ := freeze_sound _ _ _ h
  refine ⟨_, _, hk, does_run fun a w G hinv hx => ?_⟩
  obtain ⟨G', i1, s1, l1, r1⟩ := hrest w G (caps.toList.map a.eval) hinv (by simp) (fun j c v hc hv => by
    simp only [List.getElem?_map, Option.map_eq_some_iff] at hc hv
    obtain ⟨y, hy, rfl⟩ := hc
    obtain ⟨y', hy', rfl⟩ := hv
    rw [hy] at hy'; simp at hy'; subst hy'
    refine hx y ?_
    rw [hop]
    have : y ∈ caps := by
      have := List.mem_of_getElem? hy
      simpa using this
    simp [Op.operands, this])
  refine ⟨.func (.func f) #[] (caps.map a.eval), w, G', ?_, .p _ _ (.func f cs _ (by simp [hl]) (fun j c hj => ?_)), ⟨i1, s1⟩, fun id _ h => by rw [l1]; exact h⟩
  · unfold execOp; rw [hop]
    simp only [Instr.makeFunc, Sem.run_bind, Sem.run_pure, Result.andThen]
    simp
  · have hj' : j < caps.size := by
      have := (List.getElem?_eq_some_iff.1 hj).1
      simp at hl
      omega
    have hcj : caps[j]? = some caps[j] := Array.getElem?_eq_getElem hj'
    have := r1 j c (a.eval caps[j]) hj (by simp [hcj])
    simpa [Array.getD_eq_getD_getElem?, hcj] using this

/-- The whole class. -/
theorem sound_E {draw : Bool} {ρ : Operand → AV} {o : Oper} {H : List Ob} {K : AV → List Ob → Prop} (hc : cls draw o.op = .eff) (h : aE P ρ o.op H K) : ∃ r H', K r H' ∧ DoesW P o ρ r H H' ∧ (draw = true → Does P o ρ r H H') := by
  have strong : (∃ r H', K r H' ∧ Does P o ρ r H H') → ∃ r H', K r H' ∧ DoesW P o ρ r H H' ∧ (draw = true → Does P o ρ r H H') :=
    fun ⟨r, H', h1, h2⟩ => ⟨r, H', h1, h2.weak, fun _ => h2⟩
  obtain ⟨op, hop⟩ : ∃ op, o.op = op := ⟨_, rfl⟩
  rw [hop] at h
  cases op with
  | store t x v =>
    simp only [aE] at h
    split at h
    · rename_i i hi; exact strong (store_sound hop hi h)
    · exact h.elim
  | box t x => exact strong (box_sound hop h)
  | makeFunc fn first caps =>
    simp only [aE] at h
    split at h
    · rename_i f hf
      exact strong (makeFunc_sound hop hf h)
    · exact h.elim
  | call c =>
    obtain ⟨callee, args, argTypes⟩ := c
    cases callee with
    | value f =>
      obtain ⟨r, H', h1, h2⟩ := call_sound hop h
      refine ⟨r, H', h1, h2, fun hd => ?_⟩
      rw [hop, hd] at hc
      simp [cls] at hc
    | invoke r m => simp [aE] at h
    | builtin b =>
      cases b <;> try (simp [aE] at h; done)
      simp only [aE] at h
      split at h
      · rename_i x y t u hx0 ht0
        have ea : args = #[x, y] := by apply Array.ext'; simpa using hx0
        have et : argTypes = #[t, u] := by apply Array.ext'; simpa using ht0
        subst ea et
        split at h
        · rename_i e e' ht hu
          split at h
          · rename_i i hi
            split at h
            · rename_i hz
              simp only [Bool.and_eq_true, decide_eq_true_eq] at hz
              simp only [aAppend] at h
              split at h
              · rename_i id ver s' off len hy
                split at h
                · rename_i v2 s2 es hob
                  obtain ⟨⟨rfl, rfl, hle⟩, h⟩ := h
                  refine strong (appendTo_sound hop ht hu (.inl ⟨_, rfl⟩) hi hz.1 hz.2 (fun hs a w G hinv ry => ?_) h)
                  rw [hy] at ry
                  by_cases hl0 : len = 0
                  · subst hl0
                    generalize a.eval y = u at ry ⊢
                    cases ry with
                    | msl _ _ _ _ _ a a' a2 cap cap' ver' c2 hl hv he hc hm hz h2 ha =>
                      rw [List.take_zero]
                      refine ⟨rfl, [], fun w' _ => ?_, ⟨by simp, fun i j e c he => by simp at he⟩, by simp⟩
                      cases a2 with
                      | none => rfl
                      | some a => simp [Builtin.firstCells, loadCells, loadCellsFrom]
                  · have hsz : i.size = s2 := by
                      have hlt : off < es.length := by omega
                      have hm : es[off] ∈ (es.drop off).take len := by
                        refine List.mem_of_getElem? (i := 0) ?_
                        rw [List.getElem?_take, if_pos (by omega), List.getElem?_drop, Nat.add_zero, List.getElem?_eq_getElem hlt]
                      rw [← hs _ hm]
                      generalize a.eval y = u at ry
                      cases ry with
                      | msl _ _ _ _ _ a a' a2 cap cap' ver' c2 hl hv he hc hm hz h2 ha =>
                        exact (row_view hinv (.inl hob) hl).2.2.2.1 _ (List.getElem_mem hlt)
                    rw [hsz]
                    exact src_row hinv (.inl hob) hle ry
                · rename_i v2 s2 es hob
                  obtain ⟨⟨rfl, rfl, hle⟩, h⟩ := h
                  refine strong (appendTo_sound hop ht hu (.inl ⟨_, rfl⟩) hi hz.1 hz.2 (fun hs a w G hinv ry => ?_) h)
                  rw [hy] at ry
                  by_cases hl0 : len = 0
                  · subst hl0
                    generalize a.eval y = u at ry ⊢
                    cases ry with
                    | msl _ _ _ _ _ a a' a2 cap cap' ver' c2 hl hv he hc hm hz h2 ha =>
                      rw [List.take_zero]
                      refine ⟨rfl, [], fun w' _ => ?_, ⟨by simp, fun i j e c he => by simp at he⟩, by simp⟩
                      cases a2 with
                      | none => rfl
                      | some a => simp [Builtin.firstCells, loadCells, loadCellsFrom]
                  · have hsz : i.size = s2 := by
                      have hlt : off < es.length := by omega
                      have hm : es[off] ∈ (es.drop off).take len := by
                        refine List.mem_of_getElem? (i := 0) ?_
                        rw [List.getElem?_take, if_pos (by omega), List.getElem?_drop, Nat.add_zero, List.getElem?_eq_getElem hlt]
                      rw [← hs _ hm]
                      generalize a.eval y = u at ry
                      cases ry with
                      | msl _ _ _ _ _ a a' a2 cap cap' ver' c2 hl hv he hc hm hz h2 ha =>
                        exact (row_view hinv (.inr hob) hl).2.2.2.1 _ (List.getElem_mem hlt)
                    rw [hsz]
                    exact src_row hinv (.inr hob) hle ry
                · exact h.elim
              split at h
              · rename_i ms hms
                exact strong (appendTo_sound hop ht hu (.inl ⟨_, rfl⟩) hi hz.1 hz.2 (fun hs a w G hinv ry => src_slice hinv (ry.elems hms) hs) h)
              · exact h.elim
            · exact h.elim
          · exact h.elim
        · rename_i e ht hu
          split at h
          · rename_i i hi
            split at h
            · rename_i hz
              simp only [Bool.and_eq_true, decide_eq_true_eq, beq_iff_eq] at hz
              simp only [aAppend] at h
              split at h
              · rename_i l hy
                refine strong (appendTo_sound hop ht hu (.inr rfl) hi hz.1.1 hz.2 (fun hs a w G hinv ry => ?_) h)
                rw [hy] at ry
                rw [(repA_str.1 ry).1, hz.1.2]
                exact src_str
              · exact h.elim
            · exact h.elim
          · exact h.elim
        · exact h.elim
      · exact h.elim
  | _ => rw [hop] at hc; simp [cls] at hc

end Go.Abs
