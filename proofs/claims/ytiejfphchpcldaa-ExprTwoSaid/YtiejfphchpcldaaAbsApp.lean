/- Appending. -/
import Derived.Test.YtiejfphchpcldaaAbsEff
namespace Go.Abs

variable {P : Program}

/-- The cells of a row of trees, one behind the other. -/
def Flat (rd : Rd) (s : Nat) (es : List T) (vs : List Value) : Prop :=
  vs.length = es.length * s ∧ ∀ (i j : Nat) (e c : T), es[i]? = some e → e.cells[j]? = some c → ∃ v, vs[i * s + j]? = some v ∧ RepT rd c v ∧ scalar v = true

theorem Flat.mono {rd rd' : Rd} (h : ∀ b o c, rd b o = some c → rd' b o = some c) {s : Nat} {es : List T} {vs : List Value} (f : Flat rd s es vs) : Flat rd' s es vs :=
  ⟨f.1, fun i j e c he hc => let ⟨v, h1, h2, h3⟩ := f.2 i j e c he hc; ⟨v, h1, h2.mono h, h3⟩⟩

theorem Flat.append {rd : Rd} {s : Nat} {es ms : List T} {vs us : List Value} (f : Flat rd s es vs) (g : Flat rd s ms us) : Flat rd s (es ++ ms) (vs ++ us) := by
  refine ⟨by simp [f.1, g.1, Nat.add_mul], fun i j e c he hc => ?_⟩
  rcases Nat.lt_or_ge i es.length with h | h
  · rw [List.getElem?_append_left h] at he
    obtain ⟨v, h1, h2, h3⟩ := f.2 i j e c he hc
    refine ⟨v, ?_, h2, h3⟩
    rw [List.getElem?_append_left (List.getElem?_eq_some_iff.1 h1).1]
    exact h1
  · rw [List.getElem?_append_right h] at he
    obtain ⟨v, h1, h2, h3⟩ := g.2 _ j e c he hc
    refine ⟨v, ?_, h2, h3⟩
    have hm : i * s = es.length * s + (i - es.length) * s := by rw [← Nat.add_mul]; congr 1; omega
    rw [List.getElem?_append_right (by rw [f.1, hm]; omega), f.1, hm]
    rw [show es.length * s + (i - es.length) * s + j - es.length * s = (i - es.length) * s + j by omega]
    exact h1

theorem Flat.rep {rd : Rd} {s : Nat} {es : List T} {vs : List Value} (f : Flat rd s es vs) (hs : ∀ e ∈ es, e.cells.length = s) {b o : Nat} (hrd : ∀ (k : Nat) (v : Value), vs[k]? = some v → rd b (o + k) = some v) {cap : Nat}
    (hl : es.length ≤ maxLen) (hc : es.length ≤ cap) : RepT rd (.slice es) (.slice (some ⟨b, o, none⟩) es.length cap) := by
  refine .slice es b o cap s (fun i j => vs.getD (i * s + j) undef) hs (fun i j e c he hc => ?_) (fun i j e c he hc => ?_) (fun i j e c he hc => ?_) hl hc
  · obtain ⟨v, h1, _, _⟩ := f.2 i j e c he hc
    rw [List.getD_eq_getElem?_getD, h1, Nat.add_assoc]
    exact hrd _ _ h1
  · obtain ⟨v, h1, h2, _⟩ := f.2 i j e c he hc
    rw [List.getD_eq_getElem?_getD, h1]
    exact h2
  · obtain ⟨v, h1, _, h3⟩ := f.2 i j e c he hc
    rw [List.getD_eq_getElem?_getD, h1]
    exact h3

theorem firstCells_slice {w : World} {G : Gh} {H : List Ob} (hi : Inv w G H) {es : List T} {s : Nat} {a : Option Addr} {cap : Nat} (hr : RepT G.rd (.slice es) (.slice a es.length cap)) (hs : ∀ e ∈ es, e.cells.length = s) :
    ∃ vs : List Value, (∀ w' : World, w'.heap = w.heap → (Builtin.firstCells s es.length (.slice a es.length cap)).run P w' = .ok vs.toArray w') ∧ Flat G.rd s es vs ∧ ∀ u ∈ vs, scalar u = true := by
  by_cases h0 : es = []
  · subst h0
    refine ⟨[], fun w' _ => ?_, ⟨by simp, fun i j e c he => by simp at he⟩, by simp⟩
    cases a with
    | none => rfl
    | some a => simp [Builtin.firstCells, loadCells, loadCellsFrom]
  · generalize hv : Value.slice a es.length cap = v at hr
    generalize hes : es = es' at hr
    cases hr with
    | nil => exact absurd hes h0
    | slice _ b o cap' s' val hs' hrd hvv hk hl hc =>
      subst hes
      injection hv with e1 e2 e3
      subst e1
      have hne : 0 < es.length := List.length_pos_iff.2 h0
      have hss : s' = s := by rw [← hs' _ (List.getElem_mem hne), hs _ (List.getElem_mem hne)]
      subst hss
      have look : ∀ k, k < es.length * s' → ∃ e c, es[k / s']? = some e ∧ e.cells[k % s']? = some c := by
        intro k hk
        have hpos : 0 < s' := by
          rcases Nat.eq_zero_or_pos s' with h | h
          · subst h; simp at hk
          · exact h
        have h1 : k / s' < es.length := Nat.div_lt_of_lt_mul (by rw [Nat.mul_comm]; exact hk)
        have h2 : k % s' < (es[k / s']).cells.length := by rw [hs _ (List.getElem_mem h1)]; exact Nat.mod_lt _ hpos
        exact ⟨es[k / s'], (es[k / s']).cells[k % s'], List.getElem?_eq_getElem h1, List.getElem?_eq_getElem h2⟩
      refine ⟨(List.range (es.length * s')).map (fun k => val (k / s') (k % s')), fun w' hw => ?_, ⟨by simp, fun i j e c he hc => ?_⟩, fun u hu => ?_⟩
      · simp only [Builtin.firstCells]
        refine run_loadCells w' ⟨b, o, none⟩ _ _ (fun k hk => ?_)
        obtain ⟨e, c, he, hc⟩ := look k hk
        have := (inv_same hi hw).rd _ _ _ (hrd _ _ e c he hc)
        rw [addr_add]
        rw [← this]
        congr 2
        have := Nat.div_add_mod k s'
        rw [Nat.mul_comm] at this
        omega
      · have hj : j < s' := by
          have := (List.getElem?_eq_some_iff.1 hc).1
          rwa [hs e (List.mem_of_getElem? he)] at this
        have hi' : i < es.length := (List.getElem?_eq_some_iff.1 he).1
        have hlt : i * s' + j < es.length * s' := by
          have : (i + 1) * s' ≤ es.length * s' := Nat.mul_le_mul_right _ hi'
          rw [Nat.add_mul] at this
          omega
        have hd : (i * s' + j) / s' = i := by
          rw [Nat.add_comm, Nat.add_mul_div_right _ _ (by omega), Nat.div_eq_of_lt hj]; omega
        have hm : (i * s' + j) % s' = j := by
          rw [Nat.add_comm, Nat.add_mul_mod_self_right, Nat.mod_eq_of_lt hj]
        exact ⟨val i j, by simp [hlt, hd, hm], hvv i j e c he hc, hk i j e c he hc⟩
      · simp only [List.mem_map, List.mem_range] at hu
        obtain ⟨k, hk', rfl⟩ := hu
        obtain ⟨e, c, he, hc⟩ := look k hk'
        exact hk _ _ e c he hc

theorem firstCells_str {w : World} (rd : Rd) (l : List UInt8) :
    ∃ vs : List Value, (Builtin.firstCells 1 l.length (.string ⟨l.toArray⟩)).run P w = .ok vs.toArray w ∧ Flat rd 1 (l.map byteT) vs ∧ ∀ u ∈ vs, scalar u = true := by
  refine ⟨l.map fun b => .int .u8 b.toNat, ?_, ⟨by simp, fun i j e c he hc => ?_⟩, fun u hu => ?_⟩
  · simp only [Builtin.firstCells, Sem.run_pure]
    congr 1
    apply Array.ext'
    simp [ByteArray.data_extract]
  · simp only [List.getElem?_map, Option.map_eq_some_iff] at he
    obtain ⟨b, hb, rfl⟩ := he
    have hj : j = 0 := by
      have := (List.getElem?_eq_some_iff.1 hc).1
      simp [byteT, T.cells] at this
      exact this
    subst hj
    simp [byteT, T.cells] at hc
    subst hc
    exact ⟨.int .u8 b.toNat, by simp [hb], .int _ _, rfl⟩
  · simp only [List.mem_map] at hu
    obtain ⟨b, _, rfl⟩ := hu
    rfl

theorem growBy_le (n : Nat) : ∀ (r c : Nat), c ≤ 2 * n + 768 → Builtin.growBy n r c ≤ 2 * n + 768
  | 0, c, h => h
  | r + 1, c, h => by
    simp only [Builtin.growBy]
    split
    · exact h
    · exact growBy_le n r _ (by omega)

theorem nextslicecap_le (n c : Nat) (h : c < n) : Builtin.nextslicecap n c ≤ 2 * n + 768 := by
  unfold Builtin.nextslicecap
  split
  · omega
  · split
    · omega
    · exact growBy_le n 4 c (by omega)

/-- What an append comes to where there is no room. -/
theorem append_grow_run {t u e : TypeId} {d : TypeDesc} {i : TypeInfo} {ty : TypeId} (ht : P.underlying t = some (.slice e)) (hu : P.underlying u = some d) (hd : (∃ e', d = .slice e') ∨ d = .string) (hi : P.info? e = some i) {z : Value} (hz : i.zero = some z)
    {a : Option Addr} {n cap m : Nat} {x : Value} {w : World} {vs us : List Value} (hlen : (Builtin.lenOf x).run P w = .ok m w) (hno : ¬ n + m ≤ cap)
    (hbig : (n + m) * (i.bytes + 1) ≤ 2 ^ 40) (heb : i.bytes ≤ 2 ^ 20)
    (hv : ∀ w' : World, w'.heap = w.heap → (Builtin.firstCells i.size n (.slice a n cap)).run P w' = .ok vs.toArray w') (hus : ∀ w' : World, w'.heap = w.heap → (Builtin.firstCells i.size m x).run P w' = .ok us.toArray w') :
    ∃ c', n + m ≤ c' ∧ (Builtin.append_ #[t, u] ty #[.slice a n cap, x]).run P w =
      .ok (.slice (some ⟨w.heap.size, 0, none⟩) (n + m) c') { w with heap := w.heap.push (.cells (vs.toArray ++ us.toArray ++ Builtin.zeroCells z.cells (c' - (n + m))) e), drawn := w.drawn + 1 } := by
  refine ⟨(Question.appendCap (n + m) cap e).cut (w.tape w.drawn (.appendCap (n + m) cap e)), by simp only [Question.cut]; exact Nat.le_add_right _ _, ?_⟩
  have hnm : n + m ≤ 2 ^ 40 := Nat.le_trans (Nat.le_mul_of_pos_right _ (by omega)) hbig
  have h63 : ¬ (9223372036854775807 < ((n : Int) + (m : Int))) := by omega
  have h48 : ¬ 281474976710656 < Builtin.nextslicecap (n + m) cap * i.bytes := by
    have h1 := nextslicecap_le (n + m) cap (by omega)
    have h2 : Builtin.nextslicecap (n + m) cap * i.bytes ≤ (2 * (n + m) + 768) * i.bytes := Nat.mul_le_mul_right _ h1
    have h3 : (2 * (n + m) + 768) * i.bytes = 2 * ((n + m) * i.bytes) + 768 * i.bytes := by rw [Nat.add_mul, Nat.mul_assoc]
    have h4 : (n + m) * i.bytes ≤ 2 ^ 40 := Nat.le_trans (Nat.mul_le_mul_left _ (by omega)) hbig
    omega
  have hv' := hv w.drew rfl
  have hus' := hus w.drew rfl
  rcases hd with ⟨e', rfl⟩ | rfl
  · simp [Builtin.append_, run_underlying' ht, run_underlying' hu, sizeOf, typeInfo, zeroValue, hi, hz, hlen, hno, h63, h48, Question.forced, hv', hus', newRow]
    rw [show ∀ R : Array Value, vs.toArray ++ (us.toArray ++ R) = (vs ++ us).toArray ++ R from fun R => by apply Array.ext'; simp]
    rfl
  · simp [Builtin.append_, run_underlying' ht, run_underlying' hu, sizeOf, typeInfo, zeroValue, hi, hz, hlen, hno, h63, h48, Question.forced, hv', hus', newRow]
    rw [show ∀ R : Array Value, vs.toArray ++ (us.toArray ++ R) = (vs ++ us).toArray ++ R from fun R => by apply Array.ext'; simp]
    rfl

/-- .. and where there is. -/
theorem append_room_run {t u e : TypeId} {d : TypeDesc} {i : TypeInfo} {ty : TypeId} (ht : P.underlying t = some (.slice e)) (hu : P.underlying u = some d) (hd : (∃ e', d = .slice e') ∨ d = .string) (hi : P.info? e = some i)
    {a : Option Addr} {n cap m : Nat} {x : Value} {w w' : World} {us : List Value} (hlen : (Builtin.lenOf x).run P w = .ok m w) (hno : n + m ≤ cap) (hus : (Builtin.firstCells i.size m x).run P w = .ok us.toArray w)
    (hst : match a with | some a => (storeCells (a.add (n * i.size)) us).run P w = .ok () w' | none => w' = w) :
    (Builtin.append_ #[t, u] ty #[.slice a n cap, x]).run P w = .ok (.slice a (n + m) cap) w' := by
  rcases hd with ⟨e', rfl⟩ | rfl <;> cases a with
  | none =>
    simp only [] at hst
    subst hst
    simp [Builtin.append_, run_underlying' ht, run_underlying' hu, sizeOf, typeInfo, hi, hlen, hno, hus]
  | some a =>
    simp only [] at hst
    simp [Builtin.append_, run_underlying' ht, run_underlying' hu, sizeOf, typeInfo, hi, hlen, hno, hus, hst]

/-- Cells stored one behind the other, into cells that may be written. -/
theorem storeCells_run' {b o : Nat} {ty : TypeId} {fr : Nat × Nat} : ∀ (vs : List Value) (w : World) (cs : Array Value) (i : Nat), w.heap[b]? = some (.cells cs ty fr) → o + i + vs.length ≤ cs.size → (∀ v ∈ vs, scalar v = true) →
    (∀ k, i ≤ k → k < i + vs.length → (decide (fr.1 ≤ o + k) && decide (o + k < fr.2)) = false) →
    (storeCells ⟨b, o, none⟩ vs i).run P w = .ok () { w with heap := w.heap.setIfInBounds b (.cells (setR cs (o + i) vs) ty fr) }
  | [], w, cs, i, hb, _, _, _ => by
    simp only [storeCells, Sem.run_pure, setR]
    congr 1
    have hlt : b < w.heap.size := (Array.getElem?_eq_some_iff.1 hb).1
    have hv : w.heap[b] = .cells cs ty fr := (Array.getElem?_eq_some_iff.1 hb).2
    have : w.heap.setIfInBounds b (.cells cs ty fr) = w.heap := by
      apply Array.ext_getElem?
      intro j
      rw [Array.getElem?_setIfInBounds]
      split
      · rename_i h; subst h; simp [hlt, hv]
      · rfl
    rw [this]
  | v :: vs, w, cs, i, hb, hl, hs, hf => by
    simp only [List.length_cons] at hl hf
    have hv : v.oneCell' = true := by
      have := hs v (by simp)
      cases v <;> first | rfl | simp [scalar] at this
    have hcell : w.cell? ⟨b, o + i, none⟩ = some cs[o + i] := by
      unfold World.cell?
      simp [hb, Array.getElem?_eq_getElem (show o + i < cs.size by omega)]
    have hfr : w.frozen? ⟨b, o + i, none⟩ = false := by
      unfold World.frozen?
      simp only [hb]
      exact hf i (Nat.le_refl _) (by omega)
    have hlt : b < w.heap.size := (Array.getElem?_eq_some_iff.1 hb).1
    simp only [storeCells, Sem.run_bind, addr_add, run_store P w _ v _ hv, hcell, hfr, Bool.false_eq_true, if_false, Result.andThen]
    rw [setCell_heap hb]
    rw [storeCells_run' (ty := ty) (fr := fr) vs _ (cs.setIfInBounds (o + i) v) (i + 1) (by simp [hlt]) (by simp; omega) (fun u hu => hs u (by simp [hu])) (fun k h1 h2 => hf k (by omega) (by omega))]
    simp only [setR, Nat.add_assoc]
    congr 2
    apply Array.ext_getElem?
    intro j
    simp only [Array.getElem?_setIfInBounds, Array.size_setIfInBounds]
    by_cases h : b = j
    · rw [if_pos h, if_pos h]
    · rw [if_neg h, if_neg h, if_neg h]

/-- A new object over what is there already. -/
theorem add_loc {w : World} {G : Gh} {H : List Ob} (hi : Inv w G H) (l : Loc) (ob : Ob) (hb : l.blk = none) (hl : Holds w (G.withLoc H.length l) l ob) :
    Inv w (G.withLoc H.length l) (H ++ [ob]) ∧ Step w G w (G.withLoc H.length l) := by
  have hn : G.loc H.length = none := hi.loc_none (Nat.le_refl _)
  have hg : Grow G (G.withLoc H.length l) := by
    refine ⟨fun _ _ _ e => e, fun id l' e => ⟨l', ?_, .refl l'⟩⟩
    have : id ≠ H.length := Nat.ne_of_lt (hi.loc_lt e)
    simp only [Gh.withLoc, if_neg this]
    exact e
  have hcase : ∀ id b, (G.withLoc H.length l).blk id = some b → G.blk id = some b := by
    intro id b e
    simp only [Gh.blk, Gh.withLoc] at e
    split at e
    · simp [hb] at e
    · exact e
  refine ⟨⟨hi.rd, fun id l' e => ?_, fun i j b e1 e2 => hi.dis i j b (hcase i b e1) (hcase j b e2)⟩, fun n => ⟨rfl, rfl, rfl, Nat.le_refl _, fun _ _ _ => rfl, fun _ _ _ e => e, fun _ _ _ e => .inl e, fun id _ l' e => hg.loc id l' e, fun id b e => .inr ⟨id, hcase id b e⟩⟩⟩
  simp only [Gh.withLoc] at e
  split at e
  · rename_i h
    subst h
    simp at e; subst e
    exact ⟨ob, by simp, hl⟩
  · obtain ⟨ob', ho, hl'⟩ := hi.obj id l' e
    refine ⟨ob', ?_, hl'.keep hg (Nat.le_refl _) (fun b _ => ⟨rfl, fun _ h => h⟩)⟩
    rw [List.getElem?_append_left (hi.loc_lt e)]
    exact ho

/-- What a row that is written holds, wherever it lies. -/
theorem row_view {w : World} {G : Gh} {H : List Ob} (hi : Inv w G H) {id ver s : Nat} {es : List T} (ho : H[id]? = some (.mrow ver s es) ∨ H[id]? = some (.frow ver s es)) {a : Option Addr} {cap v3 s3 : Nat} (hl : G.loc id = some (.mrow a cap v3 s3)) :
    v3 = ver ∧ s3 = s ∧ es.length ≤ cap ∧ (∀ e ∈ es, e.cells.length = s) ∧ (0 < cap → ∃ (b o : Nat) (f : Nat → Nat → Value), a = some ⟨b, o, none⟩ ∧
      ∀ i j e c, es[i]? = some e → e.cells[j]? = some c → w.cell? ⟨b, o + i * s + j, none⟩ = some (f i j) ∧ RepT G.rd c (f i j) ∧ scalar (f i j) = true) := by
  obtain ⟨ob, ho2, hh⟩ := hi.obj id _ hl
  rcases ho with ho | ho
  · rw [ho] at ho2; simp at ho2; subst ho2
    obtain ⟨⟨rfl, rfl, h1, h2⟩, h3⟩ := hh
    refine ⟨rfl, rfl, h1, h2, fun hc => ?_⟩
    obtain ⟨b, o, e1, ⟨cs, ty, e2, e3, e4⟩, _⟩ := h3 hc
    refine ⟨b, o, fun i j => cs.getD (o + i * s3 + j) undef, e1, fun i j e c he hcj => ⟨?_, e4 i j e c he hcj⟩⟩
    have hj : j < s3 := by
      have := (List.getElem?_eq_some_iff.1 hcj).1
      rwa [h2 e (List.mem_of_getElem? he)] at this
    have hi3 : i < cap := by have := (List.getElem?_eq_some_iff.1 he).1; omega
    have hmul : (i + 1) * s3 ≤ cap * s3 := Nat.mul_le_mul_right _ hi3
    rw [Nat.add_mul] at hmul
    have hlt : o + i * s3 + j < cs.size := by omega
    unfold World.cell?
    simp [e2, Array.getElem?_eq_getElem hlt, Array.getD_eq_getD_getElem?]
  · rw [ho] at ho2; simp at ho2; subst ho2
    obtain ⟨⟨rfl, rfl, h1, h2⟩, h3⟩ := hh
    refine ⟨rfl, rfl, h1, h2, fun hc => ?_⟩
    obtain ⟨b, o, e1, _, e4⟩ := h3 hc
    refine ⟨b, o, fun i j => (G.rd b (o + i * s3 + j)).getD undef, e1, fun i j e c he hcj => ?_⟩
    obtain ⟨u, g1, g2, g3⟩ := e4 i j e c he hcj
    have e5 : (G.rd b (o + i * s3 + j)).getD undef = u := by rw [g1]; rfl
    simp only [e5]
    exact ⟨hi.rd _ _ _ g1, g2, g3⟩

/-- The first cells of a part of a row. -/
theorem firstCells_row {w : World} {rd : Rd} {b o n s cap : Nat} {ms : List T} (f : Nat → Nat → Value) (hn : ms.length = n) (hs : ∀ e ∈ ms, e.cells.length = s)
    (h : ∀ i j e c, ms[i]? = some e → e.cells[j]? = some c → w.cell? ⟨b, o + i * s + j, none⟩ = some (f i j) ∧ RepT rd c (f i j) ∧ scalar (f i j) = true) :
    ∃ vs : List Value, (∀ w' : World, w'.heap = w.heap → (Builtin.firstCells s n (.slice (some ⟨b, o, none⟩) n cap)).run P w' = .ok vs.toArray w') ∧ Flat rd s ms vs ∧ ∀ u ∈ vs, scalar u = true := by
  subst hn
  have look : ∀ k, k < ms.length * s → ∃ e c, ms[k / s]? = some e ∧ e.cells[k % s]? = some c := by
    intro k hk
    have hpos : 0 < s := by
      rcases Nat.eq_zero_or_pos s with h | h
      · subst h; simp at hk
      · exact h
    have h1 : k / s < ms.length := Nat.div_lt_of_lt_mul (by rw [Nat.mul_comm]; exact hk)
    have h2 : k % s < (ms[k / s]).cells.length := by rw [hs _ (List.getElem_mem h1)]; exact Nat.mod_lt _ hpos
    exact ⟨ms[k / s], (ms[k / s]).cells[k % s], List.getElem?_eq_getElem h1, List.getElem?_eq_getElem h2⟩
  refine ⟨(List.range (ms.length * s)).map (fun k => f (k / s) (k % s)), fun w' hw => ?_, ⟨by simp, fun i j e c he hc => ?_⟩, fun u hu => ?_⟩
  · simp only [Builtin.firstCells]
    refine run_loadCells w' ⟨b, o, none⟩ _ _ (fun k hk => ?_)
    obtain ⟨e, c, he, hc⟩ := look k hk
    have := (h _ _ e c he hc).1
    rw [addr_add]
    unfold World.cell? at this ⊢
    rw [hw, ← this]
    have := Nat.div_add_mod k s
    rw [Nat.mul_comm] at this
    rw [show o + k = o + k / s * s + k % s by omega]
  · have hj : j < s := by
      have := (List.getElem?_eq_some_iff.1 hc).1
      rwa [hs e (List.mem_of_getElem? he)] at this
    have hi' : i < ms.length := (List.getElem?_eq_some_iff.1 he).1
    have hlt : i * s + j < ms.length * s := by
      have : (i + 1) * s ≤ ms.length * s := Nat.mul_le_mul_right _ hi'
      rw [Nat.add_mul] at this
      omega
    have hd : (i * s + j) / s = i := by
      rw [Nat.add_comm, Nat.add_mul_div_right _ _ (by omega), Nat.div_eq_of_lt hj]; omega
    have hm : (i * s + j) % s = j := by
      rw [Nat.add_comm, Nat.add_mul_mod_self_right, Nat.mod_eq_of_lt hj]
    exact ⟨f i j, by simp [hlt, hd, hm], (h i j e c he hc).2.1, (h i j e c he hc).2.2⟩
  · simp only [List.mem_map, List.mem_range] at hu
    obtain ⟨k, hk', rfl⟩ := hu
    obtain ⟨e, c, he, hc⟩ := look k hk'
    exact (h _ _ e c he hc).2.2

/-- A row that is written has a new version, may lie elsewhere. -/
theorem set_mrow {w w' : World} {G : Gh} {H : List Ob} (hi : Inv w G H) {id cap cap' v v' s : Nat} {a a' : Option Addr} {es' : List T} (hl : G.loc id = some (.mrow a cap v s)) (hv : v < v') (hs : Same w w') (hsize : w.heap.size ≤ w'.heap.size)
    (hother : ∀ k, k < w.heap.size → G.blk id ≠ some k → w'.heap[k]? = w.heap[k]?) (hnb : ∀ b, Loc.blk (.mrow a' cap' v' s) = some b → G.blk id = some b ∨ w.heap.size ≤ b) (hrd : ∀ b o c, G.rd b o = some c → w'.cell? ⟨b, o, none⟩ = some c)
    (hh : Holds w' (G.withLoc id (.mrow a' cap' v' s)) (.mrow a' cap' v' s) (.mrow v' s es')) :
    Inv w' (G.withLoc id (.mrow a' cap' v' s)) (H.set id (.mrow v' s es')) ∧ Step w G w' (G.withLoc id (.mrow a' cap' v' s)) := by
  have hidl : id < H.length := hi.loc_lt hl
  have hg : Grow G (G.withLoc id (.mrow a' cap' v' s)) := by
    refine ⟨fun _ _ _ e => e, fun j l e => ?_⟩
    simp only [Gh.withLoc]
    by_cases hj : j = id
    · subst hj
      rw [hl] at e; simp at e; subst e
      rw [if_pos rfl]
      exact ⟨_, rfl, .mrow _ _ _ _ _ _ _ (by omega) (fun h => by omega)⟩
    · rw [if_neg hj]
      exact ⟨l, e, .refl l⟩
  have hcase : ∀ j k, (G.withLoc id (.mrow a' cap' v' s)).blk j = some k → (j = id ∧ w.heap.size ≤ k) ∨ G.blk j = some k := by
    intro j k e
    simp only [Gh.blk, Gh.withLoc] at e
    split at e
    · rename_i hj
      subst hj
      rcases hnb k (by simpa using e) with h | h
      · exact .inr h
      · exact .inl ⟨rfl, h⟩
    · exact .inr e
  refine ⟨⟨fun b o c e => hrd b o c e, fun j l e => ?_, fun i j k e1 e2 => ?_⟩, fun n => ⟨hs.os, hs.tape, hs.output, hsize, fun k hk hn => hother k hk (hn id), fun _ _ _ h => h, fun _ _ _ h => .inl h, fun j _ l h => hg.loc j l h, fun j k h => ?_⟩⟩
  · by_cases hj : j = id
    · subst hj
      simp [Gh.withLoc] at e; subst e
      exact ⟨.mrow v' s es', by simp [hidl], hh⟩
    · simp [Gh.withLoc, hj] at e
      obtain ⟨ob, ho2, hh2⟩ := hi.obj j l e
      refine ⟨ob, by rw [List.getElem?_set_ne (fun h => hj h.symm)]; exact ho2, hh2.keep hg hsize (fun k hk => ?_)⟩
      have hjk : G.blk j = some k := by simp [Gh.blk, e, hk]
      exact ⟨hother k (hi.blk_lt hjk) (fun h => hj (hi.dis j id k hjk h)), fun _ h => h⟩
  · rcases hcase i k e1 with ⟨h1, h2⟩ | h1 <;> rcases hcase j k e2 with ⟨h3, h4⟩ | h3
    · omega
    · have := hi.blk_lt h3; omega
    · have := hi.blk_lt h1; omega
    · exact hi.dis i j k h1 h3
  · rcases hcase j k h with ⟨_, h2⟩ | h2
    · exact .inl h2
    · exact .inr ⟨j, h2⟩

/-- A row that has moved to a new block. -/
theorem move_row {w w' : World} {G : Gh} {H : List Ob} (hi : Inv w G H) {id : Nat} {a : Option Addr} {cap n s : Nat} (hloc : G.loc id = some (.row a cap n s)) {cs : Array Value} {ty : TypeId} (hh : w'.heap = w.heap.push (.cells cs ty)) (hs : Same w w')
    (r : Nat → Option Value) (hr : ∀ o c, r o = some c → cs[o]? = some c) {cap' n' : Nat} (hn : n < n') (hc : n' ≤ cap') (hsz : cap' * s ≤ cs.size) (hsp : ∀ k, n' * s ≤ k → r k = none) :
    Inv w' ((G.withRd w.heap.size r).withLoc id (.row (some ⟨w.heap.size, 0, none⟩) cap' n' s)) (H.set id (.row n' s)) ∧ Step w G w' ((G.withRd w.heap.size r).withLoc id (.row (some ⟨w.heap.size, 0, none⟩) cap' n' s)) := by
  obtain ⟨i1, s1⟩ := alloc_step hi hh hs r hr
  have hsize : w'.heap.size = w.heap.size + 1 := by rw [hh]; simp
  have hidl := hi.loc_lt hloc
  generalize hG : (G.withRd w.heap.size r).withLoc id (.row (some ⟨w.heap.size, 0, none⟩) cap' n' s) = G'
  have erd : G'.rd = (G.withRd w.heap.size r).rd := by rw [← hG]; rfl
  have eloc : ∀ j, G'.loc j = if j = id then some (.row (some ⟨w.heap.size, 0, none⟩) cap' n' s) else G.loc j := by intro j; rw [← hG]; rfl
  have hgrow : ∀ j l, G.loc j = some l → ∃ l', G'.loc j = some l' ∧ l.le l' := by
    intro j l e
    rw [eloc]
    split
    · rename_i h
      subst h
      rw [hloc] at e; simp at e; subst e
      exact ⟨_, rfl, .row _ _ _ _ _ _ _ (by omega) (fun h => by omega)⟩
    · exact ⟨l, e, .refl l⟩
  have hg : Grow G G' := ⟨fun b o c e => by rw [erd]; exact s1.grow.rd b o c e, hgrow⟩
  have hcase : ∀ j b, G'.blk j = some b → (j = id ∧ b = w.heap.size) ∨ (j ≠ id ∧ G.blk j = some b) := by
    intro j b e
    unfold Gh.blk at e
    rw [eloc] at e
    split at e
    · rename_i h
      simp only [Option.bind_some, Loc.blk] at e
      split at e
      · simp at e; exact .inl ⟨h, e.symm⟩
      · simp at e
    · rename_i h; exact .inr ⟨h, e⟩
  refine ⟨⟨fun b o c e => i1.rd b o c (by rw [← erd]; exact e), fun j l e => ?_, fun i j b e1 e2 => ?_⟩, fun m => ⟨hs.os, hs.tape, hs.output, by omega, (s1 m).keep, hg.rd, fun b o c e => (s1 m).rdn b o c (by rw [← erd]; exact e), fun j _ l e => hgrow j l e, fun j b e => ?_⟩⟩
  · rw [eloc] at e
    split at e
    · rename_i h
      subst h
      simp at e; subst e
      refine ⟨.row n' s, by simp [hidl], rfl, rfl, hc, fun hlt => ⟨w.heap.size, 0, rfl, ⟨cs, ty, (0, 0), by rw [hh]; simp, by omega⟩, fun k h1 h2 => ⟨?_, ?_⟩⟩⟩
      · unfold World.frozen?
        simp [hh]
      · rw [erd]
        simp only [Gh.withRd, if_true, Nat.zero_add]
        exact hsp k h1
    · rename_i hj
      obtain ⟨ob, ho, hl⟩ := i1.obj j l e
      refine ⟨ob, by rw [List.getElem?_set_ne (fun h => hj h.symm)]; exact ho, hl.keep ⟨fun b o c e => by rw [erd]; exact e, hgrow⟩ (Nat.le_refl _) (fun b _ => ⟨rfl, fun o h => by rw [erd]; exact h⟩)⟩
  · rcases hcase i b e1 with ⟨h1, h2⟩ | ⟨h1, h2⟩ <;> rcases hcase j b e2 with ⟨h3, h4⟩ | ⟨h3, h4⟩
    · omega
    · have := hi.blk_lt h4; omega
    · have := hi.blk_lt h2; omega
    · exact hi.dis i j b h2 h4
  · rcases hcase j b e with ⟨_, h2⟩ | ⟨_, h2⟩
    · exact .inl (by omega)
    · exact .inr ⟨j, h2⟩

/-- A row that has grown where it lies. -/
theorem grow_row {w w' : World} {G : Gh} {H : List Ob} (hi : Inv w G H) {id b o cap n s : Nat} (hloc : G.loc id = some (.row (some ⟨b, o, none⟩) cap n s)) {n' : Nat} (hn : n < n') (hc : n' ≤ cap)
    {cs cs' : Array Value} {ty : TypeId} {fr : Nat × Nat} (hb : w.heap[b]? = some (.cells cs ty fr)) (hh : w'.heap = w.heap.setIfInBounds b (.cells cs' ty fr)) (hs : Same w w') (hsz : cs'.size = cs.size)
    (hsame : ∀ k, ¬ (o + n * s ≤ k ∧ k < o + n' * s) → cs'[k]? = cs[k]?) :
    Inv w' (({ G with rd := fun b' k => if b' = b ∧ o + n * s ≤ k ∧ k < o + n' * s then cs'[k]? else G.rd b' k } : Gh).withLoc id (.row (some ⟨b, o, none⟩) cap n' s)) (H.set id (.row n' s)) ∧
    Step w G w' (({ G with rd := fun b' k => if b' = b ∧ o + n * s ≤ k ∧ k < o + n' * s then cs'[k]? else G.rd b' k } : Gh).withLoc id (.row (some ⟨b, o, none⟩) cap n' s)) := by
  obtain ⟨ob, ho, hh'⟩ := hi.obj id _ hloc
  have hidl := hi.loc_lt hloc
  cases ob with
  | box _ => exact hh'.elim
  | fz _ => exact hh'.elim
  | mrow _ _ _ => exact hh'.elim
  | frow _ _ _ => exact hh'.elim
  | mode => exact hh'.elim
  | row n0 s0 =>
    obtain ⟨rfl, rfl, _, hsp⟩ := hh'
    obtain ⟨b0, o0, ha, ⟨cs0, ty0, fr0, e5, e6⟩, e7⟩ := hsp (by omega)
    simp at ha
    obtain ⟨rfl, rfl⟩ := ha
    rw [hb] at e5; simp at e5
    obtain ⟨rfl, rfl, rfl⟩ := e5
    have hblt : b < w.heap.size := (Array.getElem?_eq_some_iff.1 hb).1
    have hmul : n' * s ≤ cap * s := Nat.mul_le_mul_right _ hc
    have hother : ∀ k, k ≠ b → w'.heap[k]? = w.heap[k]? := fun k hk => by rw [hh, Array.getElem?_setIfInBounds, if_neg (fun e => hk e.symm)]
    have hhere : w'.heap[b]? = some (.cells cs' ty fr) := by rw [hh]; simp [hblt]
    have hblk : G.blk id = some b := by simp only [Gh.blk, hloc, Option.bind_some, Loc.blk]; rw [if_pos (by omega)]
    have hspare : ∀ k, o + n * s ≤ k → k < o + n' * s → G.rd b k = none := by
      intro k h1 h2
      have := (e7 (k - o) (by omega) (by omega)).2
      rwa [show o + (k - o) = k by omega] at this
    generalize hG : (({ G with rd := fun b' k => if b' = b ∧ o + n * s ≤ k ∧ k < o + n' * s then cs'[k]? else G.rd b' k } : Gh).withLoc id (.row (some ⟨b, o, none⟩) cap n' s)) = G'
    have erd : ∀ b' k, G'.rd b' k = if b' = b ∧ o + n * s ≤ k ∧ k < o + n' * s then cs'[k]? else G.rd b' k := by intro b' k; rw [← hG]; rfl
    have eloc : ∀ j, G'.loc j = if j = id then some (.row (some ⟨b, o, none⟩) cap n' s) else G.loc j := by intro j; rw [← hG]; rfl
    have hrd : ∀ b' k c, G.rd b' k = some c → G'.rd b' k = some c := by
      intro b' k c e
      rw [erd]
      split
      · rename_i h
        obtain ⟨rfl, h1, h2⟩ := h
        rw [hspare k h1 h2] at e; simp at e
      · exact e
    have hgrow : ∀ j l, G.loc j = some l → ∃ l', G'.loc j = some l' ∧ l.le l' := by
      intro j l e
      rw [eloc]
      split
      · rename_i h
        subst h
        rw [hloc] at e; simp at e; subst e
        exact ⟨_, rfl, .row _ _ _ _ _ _ _ (by omega) (fun h => by omega)⟩
      · exact ⟨l, e, .refl l⟩
    have hcase : ∀ j b', G'.blk j = some b' → G.blk j = some b' := by
      intro j b' e
      unfold Gh.blk at e
      rw [eloc] at e
      split at e
      · rename_i h
        subst h
        simp only [Option.bind_some, Loc.blk] at e
        split at e
        · simp at e; rw [← e]; exact hblk
        · simp at e
      · exact e
    refine ⟨⟨fun b' k c e => ?_, fun j l e => ?_, fun i j b' e1 e2 => hi.dis i j b' (hcase i b' e1) (hcase j b' e2)⟩,
      fun m => ⟨hs.os, hs.tape, hs.output, by rw [hh]; simp, fun k hk hno => hother k (fun e => hno id (e ▸ hblk)), hrd, fun b' k c e => ?_, fun j _ l e => hgrow j l e, fun j b' e => .inr ⟨j, hcase j b' e⟩⟩⟩
    · rw [erd] at e
      split at e
      · rename_i h
        obtain ⟨rfl, _, _⟩ := h
        unfold World.cell?
        simp [hhere, e]
      · rename_i h
        have h1 := hi.rd b' k c e
        by_cases hbb : b' = b
        · subst hbb
          unfold World.cell? at h1 ⊢
          simp only [hhere, hb] at h1 ⊢
          simp only [Option.isSome_none, Bool.false_eq_true, if_false] at h1 ⊢
          rw [hsame k (fun hk => h ⟨rfl, hk⟩)]
          exact h1
        · unfold World.cell? at h1 ⊢
          simpa [hother b' hbb] using h1
    · rw [eloc] at e
      split at e
      · rename_i h
        subst h
        simp at e; subst e
        refine ⟨.row n' s, by simp [hidl], rfl, rfl, hc, fun hlt => ⟨b, o, rfl, ⟨cs', ty, fr, hhere, by omega⟩, fun k h1 h2 => ?_⟩⟩
        have hk1 : n * s ≤ k := Nat.le_trans (Nat.mul_le_mul_right _ (by omega)) h1
        obtain ⟨g1, g2⟩ := e7 k hk1 h2
        refine ⟨?_, ?_⟩
        · unfold World.frozen? at g1 ⊢
          simp only [hb] at g1
          simp only [hhere]
          exact g1
        · rw [erd, if_neg (by omega)]
          exact g2
      · rename_i hj
        obtain ⟨ob, ho2, hl⟩ := hi.obj j l e
        refine ⟨ob, by rw [List.getElem?_set_ne (fun h => hj h.symm)]; exact ho2, hl.keep ⟨hrd, hgrow⟩ (by rw [hh]; simp) (fun k hk => ?_)⟩
        have hkb : k ≠ b := by
          intro h
          subst h
          exact hj (hi.dis j id k (by simp [Gh.blk, e, hk]) hblk)
        exact ⟨hother k hkb, fun o' h => by rw [erd, if_neg (fun hx => hkb hx.1)]; exact h⟩
    · rw [erd] at e
      split at e
      · rename_i h
        exact .inr (.inr ⟨id, by rw [h.1]; exact hblk⟩)
      · exact .inl e

end Go.Abs
