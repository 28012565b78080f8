/- Rows that are no longer written; answers with the objects that go with them. -/
import Derived.Test.YtiejfphchpcldaaAbsCode
import Derived.Test.YtiejfphchpcldaaAbsFrame
namespace Go.Abs

variable {P : Program}

/-- A part of a row that is no longer written is a tree. -/
def AV.unm1 (id ver : Nat) (es : List T) : AV → AV
  | .msl i v s off len => if i = id ∧ v = ver ∧ off + len ≤ es.length then .p (.slice ((es.drop off).take len)) else .msl i v s off len
  | x => x

def AV.unm (id ver : Nat) (es : List T) : AV → AV
  | .tup vs => .tup (vs.map (AV.unm1 id ver es))
  | .agg cs => .agg (cs.map (AV.unm1 id ver es))
  | x => x.unm1 id ver es

theorem unm_of {G G' : Gh} (g : Grow G G') {id ver : Nat} {es : List T} (hh : ∀ s off len v, RepA G' (.msl id ver s off len) v → off + len ≤ es.length → RepT G'.rd (.slice ((es.drop off).take len)) v) {x : AV} {v : Value} (r : RepA G x v) : RepA G' (x.unm id ver es) v := by
  have one : ∀ {y : AV} {u : Value}, RepA G' y u → RepA G' (y.unm1 id ver es) u := by
    intro y u r
    unfold AV.unm1
    split
    · split
      · rename_i h
        obtain ⟨rfl, rfl, h3⟩ := h
        exact .p _ _ (hh _ _ _ _ r h3)
      · exact r
    · exact r
  have r := r.mono g
  cases x with
  | tup vs =>
    cases r with
    | tup _ us hn hv =>
      refine .tup _ us (by simpa using hn) (fun j c hj => ?_)
      simp only [List.getElem?_map, Option.map_eq_some_iff] at hj
      obtain ⟨c', hc', rfl⟩ := hj
      exact one (hv j c' hc')
  | agg cs =>
    cases r with
    | agg _ us hn hv hk =>
      refine .agg _ us (by simpa using hn) (fun j c hj => ?_) (fun j c hj => ?_) <;>
      · simp only [List.getElem?_map, Option.map_eq_some_iff] at hj
        obtain ⟨c', hc', rfl⟩ := hj
        first | exact one (hv j c' hc') | exact hk j c' hc'
  | _ => exact one r

/-- What a frozen row's parts are. -/
theorem frow_part {w : World} {G : Gh} {H : List Ob} (hi : Inv w G H) {id ver s0 : Nat} {es : List T} (ho : H[id]? = some (.frow ver s0 es)) {s off len : Nat} {v : Value} (r : RepA G (.msl id ver s off len) v) (hle : off + len ≤ es.length) : RepT G.rd (.slice ((es.drop off).take len)) v := by
  have hn : ((es.drop off).take len).length = len := by simp; omega
  cases r with
  | msl _ _ _ _ _ a a' a2 cap cap' ver' c2 hl hv he hc hm hz h2 ha =>
    obtain ⟨ob, ho2, hh⟩ := hi.obj id _ hl
    rw [ho] at ho2; simp at ho2; subst ho2
    obtain ⟨⟨rfl, rfl, h3, h4⟩, h5⟩ := hh
    obtain ⟨rfl, rfl⟩ := he rfl
    by_cases h0 : len = 0
    · subst h0
      rw [List.take_zero]
      exact .nil _ _
    · obtain ⟨b, o, rfl, _, h7⟩ := h5 (by omega)
      have ha := ha (by omega)
      subst ha
      simp only [Option.map_some, addr_add]
      have look : ∀ i e, ((es.drop off).take len)[i]? = some e → es[off + i]? = some e := by
        intro i e he
        rw [List.getElem?_take] at he
        split at he
        · rwa [List.getElem?_drop] at he
        · simp at he
      have hidx : ∀ i j, o + (off + i) * s + j = o + off * s + i * s + j := by intro i j; rw [Nat.add_mul]; omega
      have := RepT.slice (rd := G.rd) ((es.drop off).take len) b (o + off * s) c2 s (fun i j => (G.rd b (o + (off + i) * s + j)).getD undef) (fun e he => h4 e (List.mem_of_mem_drop (List.mem_of_mem_take he)))
        (fun i j e c he hc => by
          obtain ⟨u, g1, _, _⟩ := h7 (off + i) j e c (look i e he) hc
          rw [← hidx, g1]; rfl)
        (fun i j e c he hc => by
          obtain ⟨u, g1, g2, _⟩ := h7 (off + i) j e c (look i e he) hc
          rw [g1]; exact g2)
        (fun i j e c he hc => by
          obtain ⟨u, g1, _, g3⟩ := h7 (off + i) j e c (look i e he) hc
          rw [g1]; exact g3) (by omega) (by omega)
      rwa [hn] at this

theorem freeze_row {w : World} {G : Gh} {H : List Ob} (hi : Inv w G H) {id ver s : Nat} {es : List T} (ho : H[id]? = some (.mrow ver s es)) :
    ∃ G', Inv w G' (H.set id (.frow ver s es)) ∧ Step w G w G' ∧ ∀ x v, RepA G x v → RepA G' (x.unm id ver es) v := by
  have hidl : id < H.length := (List.getElem?_eq_some_iff.1 ho).1
  have hset : (H.set id (.frow ver s es))[id]? = some (.frow ver s es) := by simp [hidl]
  suffices h : ∃ G', Inv w G' (H.set id (.frow ver s es)) ∧ Step w G w G' by
    obtain ⟨G', i1, s1⟩ := h
    exact ⟨G', i1, s1, fun x v r => unm_of s1.grow (fun s off len u r hle => frow_part i1 hset r hle) r⟩
  have other : ∀ {G' : Gh}, Grow G G' → G'.loc = G.loc → (∀ b o c, G'.rd b o = some c → w.cell? ⟨b, o, none⟩ = some c) → (∀ k, G.blk id ≠ some k → ∀ o, G.rd k o = none → G'.rd k o = none) → (∀ l, G.loc id = some l → Holds w G' l (.frow ver s es)) → Inv w G' (H.set id (.frow ver s es)) := by
    intro G' g hloc hrd hno hh
    refine ⟨hrd, fun j l e => ?_, fun i j b e1 e2 => hi.dis i j b (by unfold Gh.blk at e1 ⊢; rwa [hloc] at e1) (by unfold Gh.blk at e2 ⊢; rwa [hloc] at e2)⟩
    rw [hloc] at e
    by_cases hj : j = id
    · subst hj; exact ⟨_, hset, hh l e⟩
    · obtain ⟨ob, ho2, hh2⟩ := hi.obj j l e
      refine ⟨ob, by rw [List.getElem?_set_ne (fun h => hj h.symm)]; exact ho2, hh2.keep g (Nat.le_refl _) (fun k hk => ⟨rfl, hno k (fun h => hj (hi.dis j id k (by simp [Gh.blk, e, hk]) h))⟩)⟩
  cases hl : G.loc id with
  | none => exact ⟨G, other (Grow.refl G) rfl hi.rd (fun _ _ _ h => h) (fun l e => by rw [hl] at e; simp at e), .refl w G⟩
  | some l =>
    obtain ⟨ob, ho2, hh⟩ := hi.obj id l hl
    rw [ho] at ho2; simp at ho2; subst ho2
    cases l with
    | box b => exact hh.elim
    | row a cap n s' => exact hh.elim
    | mrow a cap v s' =>
      obtain ⟨h1, h2⟩ := hh
      by_cases hcap : 0 < cap
      · obtain ⟨b, o, rfl, ⟨cs, ty, e1, e2, e3⟩, e4⟩ := h2 hcap
        have hb : b < w.heap.size := (Array.getElem?_eq_some_iff.1 e1).1
        have hblk : G.blk id = some b := by simp [Gh.blk, hl, Loc.blk, hcap]
        have hrd : ∀ b' o c, G.rd b' o = some c → (G.withRd b (fun o => cs[o]?)).rd b' o = some c := by
          intro b' o c e
          simp only [Gh.withRd]
          rw [if_neg (fun h => by subst h; rw [e4] at e; simp at e)]
          exact e
        have hg : Grow G (G.withRd b (fun o => cs[o]?)) := ⟨hrd, fun _ l e => ⟨l, e, .refl l⟩⟩
        refine ⟨G.withRd b (fun o => cs[o]?), other hg rfl (fun b' o' c e => ?_) (fun k hk o' h => ?_) (fun l e => ?_), fun n => ⟨rfl, rfl, rfl, Nat.le_refl _, fun _ _ _ => rfl, hrd, fun b' o' c e => ?_, fun _ _ l e => ⟨l, e, .refl l⟩, fun j _ e => .inr ⟨j, e⟩⟩⟩
        · simp only [Gh.withRd] at e
          split at e
          · rename_i h
            subst h
            unfold World.cell?
            simp [e1, e]
          · exact hi.rd b' o' c e
        · simp only [Gh.withRd]
          rw [if_neg (fun e => by subst e; exact hk hblk)]
          exact h
        · rw [hl] at e; simp at e; subst e
          refine ⟨h1, fun _ => ⟨b, o, rfl, hb, fun i j e c he hc => ?_⟩⟩
          obtain ⟨g1, g2⟩ := e3 i j e c he hc
          have hj : j < s' := by
            have := (List.getElem?_eq_some_iff.1 hc).1
            rwa [h1.2.2.2 e (List.mem_of_getElem? he)] at this
          have hi3 : i < cap := by have := (List.getElem?_eq_some_iff.1 he).1; have := h1.2.2.1; omega
          have hmul : (i + 1) * s' ≤ cap * s' := Nat.mul_le_mul_right _ hi3
          rw [Nat.add_mul] at hmul
          have hlt : o + i * s' + j < cs.size := by omega
          have ev : cs.getD (o + i * s' + j) undef = cs[o + i * s' + j] := by simp [Array.getD_eq_getD_getElem?, Array.getElem?_eq_getElem hlt]
          rw [ev] at g1 g2
          exact ⟨_, by simp [Gh.withRd, Array.getElem?_eq_getElem hlt], g1.mono hrd, g2⟩
        · simp only [Gh.withRd] at e
          split at e
          · rename_i h; exact .inr (.inr ⟨id, by rw [h]; exact hblk⟩)
          · exact .inl e
      · refine ⟨G, other (Grow.refl G) rfl hi.rd (fun _ _ _ h => h) (fun l e => ?_), .refl w G⟩
        rw [hl] at e; simp at e; subst e
        exact ⟨h1, fun h => absurd h hcap⟩

theorem callDoes_freeze {fv : AV} {args : List AV} {r : AV} {H H' : List Ob} {id ver s : Nat} {es : List T} (ho : H[id]? = some (.mrow ver s es)) (h : CallDoes P (fv.unm id ver es) (args.map (AV.unm id ver es)) r (H.set id (.frow ver s es)) H') : CallDoes P fv args r H H' := by
  intro w G u vs hi rf rl
  obtain ⟨G', i1, s1, c1⟩ := freeze_row hi ho
  obtain ⟨g, cs, e1, e2, e3⟩ := h w G' u vs i1 (c1 _ _ rf) ⟨by simpa using rl.1, fun j x hj => by
    simp only [List.getElem?_map, Option.map_eq_some_iff] at hj
    obtain ⟨y, hy, rfl⟩ := hj
    exact c1 _ _ (rl.2 j y hy)⟩
  refine ⟨g, cs, e1, e2, e3.mono ?_⟩
  rintro e w' ⟨v, G2, rfl, hr, hi2, s2⟩
  exact ⟨v, G2, rfl, hr, hi2, s1.trans s2⟩

end Go.Abs
