/- Functions. -/
import Derived.Test.YtiejfphchpcldaaAbsFreeze
namespace Go.Abs

variable {P : Program}

def aRes (P : Program) : List ResultVar → List AV → List Ob → (List AV → Prop) → Prop
  | [], _, _, K => K []
  | .tmp u :: r, t, H, K => aRes P r t H fun vs => K (t.getD u .top :: vs)
  | .cell u ty :: r, t, H, K => match P.underlying ty, P.info? ty with
    | some d, some i => match aggD d || i.size == 1 with
      | true => aLoad (aggD d) i.size (t.getD u .top) H fun v => aRes P r t H fun vs => K (v :: vs)
      | false => False
    | _, _ => False

def tupOf : List AV → AV
  | [v] => v
  | vs => .tup vs

/-- An answer, with the objects that go with it. -/
def Gives (n : Nat) (v : AV) (H : List Ob) (r : AV) (Hout : List Ob) : Prop := ∀ (w : World) (G : Gh) (u : Value), Inv w G H → RepA G v u → ∃ G', Inv w G' Hout ∧ RepA G' r u ∧ Move n w G w G'

def aEnd (P : Program) (rs : List ResultVar) (n : Nat) (r : AV) (Hout : List Ob) (e : AExit) (t : List AV) (H : List Ob) : Prop :=
  match e with
  | .exit _ => False
  | _ => aRes P rs t H fun vs => Gives n (tupOf vs) H r Hout

def aBody (P : Program) (ann : Nat → List Nat) (fn : Func) (Hin : List Ob) (args : List AV) (r : AV) (Hout : List Ob) : Prop :=
  match fn.body with
  | some c => awp P ann c (args ++ List.replicate (fn.ntmps - args.length) .top) Hin (aEnd P fn.results.toList Hin.length r Hout)
  | none => False

theorem aLoad_value {agg : Bool} {s : Nat} {x : AV} {H : List Ob} {K : AV → Prop} (hz : agg = true ∨ s = 1) (h : aLoad agg s x H K) :
    ∃ r, K r ∧ ∀ (w : World) (G : Gh) (v : Value), Inv w G H → RepA G x v → ∃ b o f, v = .pointer (some ⟨b, o, none⟩) ∧ (∀ j, j < s → w.cell? ⟨b, o + j, none⟩ = some (f j)) ∧
      RepA G r (if agg then .agg ((List.range s).map f).toArray else f 0) := by
  unfold aLoad at h
  split at h
  · rename_i id off
    split at h
    · rename_i cells hob
      obtain ⟨h1, h2⟩ := h
      refine ⟨_, h2, fun w G v hinv rx => ?_⟩
      cases rx with
      | bptr _ _ b hl =>
        obtain ⟨ob, ho, hh⟩ := hinv.obj id _ hl
        rw [hob] at ho; simp at ho; subst ho
        obtain ⟨cs, ty, e1, e2, e3, e4⟩ := hh
        refine ⟨b, off, fun j => cs.getD (off + j) undef, rfl, fun j hj => ?_, ?_⟩
        · have hlt : off + j < cs.size := by omega
          unfold World.cell?
          simp [e1, Array.getElem?_eq_getElem hlt, Array.getD_eq_getD_getElem?]
        · cases hb : agg with
          | true => exact range_rep h1 (fun j c hj => e3 _ c hj)
          | false =>
            have hs : s = 1 := by
              rcases hz with h | h
              · rw [hb] at h; simp at h
              · exact h
            simpa using (e3 off (cells.getD off .top) (lt_get (by omega) _)).1
    · rename_i cs hob
      obtain ⟨h1, h2⟩ := h
      refine ⟨_, h2, fun w G v hinv rx => ?_⟩
      cases rx with
      | bptr _ _ b hl =>
        obtain ⟨ob, ho, hh⟩ := hinv.obj id _ hl
        rw [hob] at ho; simp at ho; subst ho
        obtain ⟨e1, e2⟩ := hh
        refine ⟨b, off, fun j => (G.rd b (off + j)).getD undef, rfl, fun j hj => ?_, .p _ _ ?_⟩
        · obtain ⟨v, g1, g2, g3⟩ := e2 (off + j) _ (lt_get (by omega) default)
          rw [hinv.rd _ _ _ g1]
          show some v = some ((G.rd b (off + j)).getD undef)
          rw [g1]; rfl
        · cases hb : agg with
          | true =>
            refine range_repT h1 (fun j c hj => ?_)
            obtain ⟨v, g1, g2, g3⟩ := e2 _ c hj
            show RepT G.rd c ((G.rd b (off + j)).getD undef) ∧ scalar ((G.rd b (off + j)).getD undef) = true
            rw [g1]; exact ⟨g2, g3⟩
          | false =>
            have hs : s = 1 := by
              rcases hz with h | h
              · rw [hb] at h; simp at h
              · exact h
            obtain ⟨v, g1, g2, g3⟩ := e2 off (cs.getD off default) (lt_get (by omega) _)
            simp only [Bool.false_eq_true, if_false, Nat.add_zero, g1, Option.getD_some]
            exact g2
    · exact h.elim
  · rename_i cs off
    obtain ⟨h1, h2⟩ := h
    refine ⟨_, h2, fun w G v hinv rx => ?_⟩
    have rx := repA_p.1 rx
    cases rx with
    | imm _ _ b o' val hr hv hk =>
      refine ⟨b, o' + off, fun j => val (off + j), rfl, fun j hj => ?_, .p _ _ ?_⟩
      · rw [Nat.add_assoc]
        exact hinv.rd _ _ _ (hr (off + j) _ (lt_get (by omega) default))
      · cases hb : agg with
        | true => exact range_repT h1 (fun j c hj => ⟨hv _ c hj, hk _ c hj⟩)
        | false =>
          have hs : s = 1 := by
            rcases hz with h | h
            · rw [hb] at h; simp at h
            · exact h
          exact hv off (cs.getD off default) (lt_get (by omega) _)
  · rename_i id ver s' i off
    have row : ∀ {es : List T} {v2 s2 : Nat}, (H[id]? = some (.mrow v2 s2 es) ∨ H[id]? = some (.frow v2 s2 es)) → ((v2 = ver ∧ s2 = s' ∧ i < es.length ∧ off + s ≤ s') ∧ K (.p (if agg then .agg (((es.getD i default).cells.drop off).take s) else (es.getD i default).cells.getD off default))) →
        ∃ r, K r ∧ ∀ (w : World) (G : Gh) (v : Value), Inv w G H → RepA G (.mptr id ver s' i off) v → ∃ b o f, v = .pointer (some ⟨b, o, none⟩) ∧ (∀ j, j < s → w.cell? ⟨b, o + j, none⟩ = some (f j)) ∧ RepA G r (if agg then .agg ((List.range s).map f).toArray else f 0) := by
      intro es v2 s2 hob h
      obtain ⟨⟨rfl, rfl, h4, h5⟩, h2⟩ := h
      refine ⟨_, h2, fun w G v hinv rx => ?_⟩
      cases rx with
      | mptr _ _ _ _ _ b o a a' cap cap' ver' hl hn he hi ha =>
        obtain ⟨rfl, _, h6, h7, h8⟩ := row_view hinv hob hl
        obtain ⟨rfl, rfl⟩ := he rfl
        obtain ⟨b', o', f, e1, hf⟩ := h8 (by omega)
        rw [ha] at e1
        simp at e1
        obtain ⟨rfl, rfl⟩ := e1
        have hei := lt_get h4 default
        have hcl := h7 _ (List.mem_of_getElem? hei)
        refine ⟨b, o + i * s2 + off, fun j => f i (off + j), rfl, fun j hj => ?_, .p _ _ ?_⟩
        · rw [Nat.add_assoc]
          exact (hf i (off + j) _ _ hei (lt_get (by omega) default)).1
        · cases hb : agg with
          | true => exact range_repT (by omega) (fun j c hj => (hf i _ _ c hei hj).2)
          | false =>
            have hs : s = 1 := by
              rcases hz with h | h
              · rw [hb] at h; simp at h
              · exact h
            exact (hf i off _ _ hei (lt_get (by omega) default)).2.1
    split at h
    · rename_i hob; exact row (.inl hob) h
    · rename_i hob; exact row (.inr hob) h
    · exact h.elim
  · exact h.elim

def resOne (tm : Array Value) : ResultVar → Sem Value
  | .tmp t => pure (tm.getD t undef)
  | .cell a t => do loadVar t (← asAddr (tm.getD a undef))

theorem res_sound : ∀ (rs : List ResultVar) (t : List AV) (H : List Ob) (K : List AV → Prop), aRes P rs t H K → ∀ (w : World) (G : Gh) (tm : Array Value), Inv w G H → RepTm G t tm →
    ∃ xs vs, K xs ∧ (rs.mapM (resOne tm)).run P w = .ok vs w ∧ vs.length = xs.length ∧ ∀ (j : Nat) (x : AV) (v : Value), xs[j]? = some x → vs[j]? = some v → RepA G x v
  | [], t, H, K, h, w, G, tm, _, _ => ⟨[], [], h, by simp, rfl, fun j x v hx => by simp at hx⟩
  | .tmp u :: r, t, H, K, h, w, G, tm, hi, ht => by
    simp only [aRes] at h
    obtain ⟨xs, vs, h1, h2, h3, h4⟩ := res_sound r t H _ h w G tm hi ht
    refine ⟨_, tm.getD u undef :: vs, h1, ?_, by simp [h3], fun j x v hx hv => ?_⟩
    · rw [List.mapM_cons, Sem.run_bind]
      show (Result.ok (tm.getD u undef) w).andThen _ = _
      simp only [Result.andThen, Sem.run_bind, h2, Sem.run_pure]
    · cases j with
      | zero => simp only [List.getElem?_cons_zero, Option.some.injEq] at hx hv; subst hx hv; exact ht.2 u
      | succ j => simp only [List.getElem?_cons_succ] at hx hv; exact h4 j x v hx hv
  | .cell u ty :: r, t, H, K, h, w, G, tm, hi, ht => by
    simp only [aRes] at h
    split at h
    · rename_i d i hd hinfo
      split at h
      · rename_i hz
        have hz : aggD d = true ∨ i.size = 1 := by simpa using hz
        obtain ⟨x0, hk, hval⟩ := aLoad_value hz h
        obtain ⟨xs, vs, h1, h2, h3, h4⟩ := res_sound r t H _ hk w G tm hi ht
        obtain ⟨b, o, f, ev, hc, hr⟩ := hval w G _ hi (ht.2 u)
        have hrun := loadAt_run (P := P) hd hinfo hz hc
        refine ⟨_, (if aggD d then .agg ((List.range i.size).map f).toArray else f 0) :: vs, h1, ?_, by simp [h3], fun j x v hx hv => ?_⟩
        · have h0 : (resOne tm (.cell u ty)).run P w = .ok (if aggD d then .agg ((List.range i.size).map f).toArray else f 0) w := by
            simp only [resOne, ev, asAddr]
            simp only [Instr.loadAt, Instr.sureAddr] at hrun
            exact hrun
          rw [List.mapM_cons, Sem.run_bind, h0]
          simp only [Result.andThen, Sem.run_bind, h2, Sem.run_pure]
        · cases j with
          | zero => simp only [List.getElem?_cons_zero, Option.some.injEq] at hx hv; subst hx hv; exact hr
          | succ j => simp only [List.getElem?_cons_succ] at hx hv; exact h4 j x v hx hv
      · exact h.elim
    · exact h.elim

theorem results_run {fn : Func} {tm : Array Value} {w : World} {vs : List Value} (h : (fn.results.toList.mapM (resOne tm)).run P w = .ok vs w) :
    (results fn tm).run P w = .ok (if h : vs.toArray.size = 1 then vs.toArray[0] else .tuple vs.toArray) w := by
  have e : results fn tm = (do let vs ← fn.results.mapM (resOne tm); pure (if h : vs.size = 1 then vs[0] else .tuple vs)) := by
    unfold results
    congr 2
  rw [e, Array.mapM_eq_mapM_toList]
  simp only [Sem.run_bind, Sem.run_map, h, Result.andThen]
  rfl

theorem tupOf_rep {G : Gh} {xs : List AV} {vs : List Value} (hl : vs.length = xs.length) (h : ∀ (j : Nat) (x : AV) (v : Value), xs[j]? = some x → vs[j]? = some v → RepA G x v) : RepA G (tupOf xs) (if h : vs.toArray.size = 1 then vs.toArray[0] else .tuple vs.toArray) := by
  have tup : ∀ (xs : List AV) (vs : List Value), vs.length = xs.length → (∀ (j : Nat) (x : AV) (v : Value), xs[j]? = some x → vs[j]? = some v → RepA G x v) → RepA G (.tup xs) (.tuple vs.toArray) := by
    intro xs vs hl h
    refine .tup xs vs.toArray (by simpa using hl) (fun j c hj => ?_)
    have hlt : j < vs.length := by have := (List.getElem?_eq_some_iff.1 hj).1; omega
    have := h j c vs[j] hj (List.getElem?_eq_getElem hlt)
    simpa [Array.getD_eq_getD_getElem?, List.getElem?_eq_getElem hlt] using this
  match xs, vs, hl with
  | [], [], _ => simpa [tupOf] using tup [] [] rfl (fun j x v hx => by simp at hx)
  | [x], [v], _ => simpa [tupOf] using h 0 x v rfl rfl
  | x :: y :: xs, u :: v :: vs, hl => simpa [tupOf] using tup (x :: y :: xs) (u :: v :: vs) hl h

theorem args_tm {G : Gh} {args : List AV} {vs : Array Value} (h : RepL G args vs) (n : Nat) : RepTm G (args ++ List.replicate (n - args.length) .top) (vs ++ Array.replicate (n - vs.size) undef) := by
  refine ⟨by simp [h.1], fun i => ?_⟩
  rcases Nat.lt_or_ge i args.length with hi | hi
  · have e1 : (args ++ List.replicate (n - args.length) AV.top).getD i .top = args[i] := by
      rw [List.getD_eq_getElem?_getD, List.getElem?_append_left hi, List.getElem?_eq_getElem hi]; rfl
    have e2 : (vs ++ Array.replicate (n - vs.size) undef).getD i undef = vs.getD i undef := by
      simp only [Array.getD_eq_getD_getElem?]
      rw [Array.getElem?_append_left (by rw [h.1]; exact hi)]
    rw [e1, e2]
    exact h.2 i _ (List.getElem?_eq_getElem hi)
  · have e1 : (args ++ List.replicate (n - args.length) AV.top).getD i .top = .top := by
      rw [List.getD_eq_getElem?_getD, List.getElem?_append_right hi]
      by_cases hk : i - args.length < n - args.length
      · simp [hk]
      · simp [hk]
    rw [e1]
    exact .top _

/-- A function answers what its body, walked over trees, answers. -/
theorem fn_intro (hm : P.follows .mixedOrders = true) (ann : Nat → List Nat) {f : FuncId} {fn : Func} (hf : P.funcs[f]? = some fn) (hc : callable P f = true) {Hin Hout : List Ob} {args : List AV} {r : AV} (h : aBody P ann fn Hin args r Hout) : Fn P f Hin args r Hout := by
  refine ⟨hc, fun w G vs hi hv => ?_⟩
  unfold aBody at h
  cases hb : fn.body with
  | none => simp [hb] at h
  | some c =>
    simp only [hb] at h
    refine calls_of_wp hf hb ?_
    have ht := args_tm hv fn.ntmps
    refine wp_mono (awp_sound hm ann c _ Hin _ h { tmps := vs ++ Array.replicate (fn.ntmps - vs.size) undef, defers := [] } w G hi ht) ?_
    rintro e a w' ⟨e', t, H, G', her, hk, hi', ht', hd, _, hs⟩
    have fin : aRes P fn.results.toList t H (fun vs => Gives Hin.length (tupOf vs) H r Hout) → a.defers = [] ∧ ∃ v, (results fn a.tmps).run P w' = .ok v w' ∧ ∃ v' G'', Ending.returned v = .returned v' ∧ RepA G'' r v' ∧ Inv w' G'' Hout ∧ Move Hin.length w G w' G'' := by
      intro hres
      obtain ⟨xs, us, h1, h2, h3, h4⟩ := res_sound _ _ _ _ hres w' G' a.tmps hi' ht'
      obtain ⟨G2, i2, r2, m2⟩ := h1 w' G' _ hi' (tupOf_rep h3 h4)
      exact ⟨hd.1, _, results_run h2, _, G2, rfl, r2, i2, (hs _).trans m2⟩
    cases her with
    | normal => exact fin hk
    | ret => exact fin hk
    | exit id => exact hk.elim

/-- A slice that comes in is nil, or is not. -/
theorem fn_nil_cases {f : FuncId} {es : List T} {as : List AV} {r : AV} {Ho : List Ob} (h1 : es = [] → Fn P f [] (.nils :: as) r Ho) (h2 : Fn P f [] (.nns es :: as) r Ho) : Fn P f [] (.p (.slice es) :: as) r Ho := by
  refine ⟨h2.1, fun w G vs hi hv => ?_⟩
  have r0 := repA_p.1 (hv.2 0 _ rfl)
  have tail : ∀ x, RepA G x (vs.getD 0 undef) → RepL G (x :: as) vs := by
    intro x hx
    refine ⟨by simpa using hv.1, fun j c hj => ?_⟩
    cases j with
    | zero => simp at hj; subst hj; exact hx
    | succ j => exact hv.2 (j + 1) c (by simpa using hj)
  generalize hv0 : vs.getD 0 undef = v0 at r0
  cases r0 with
  | nil a cap =>
    cases a with
    | some a => exact h2.2 w G vs hi (tail _ (by rw [hv0]; exact .nns [] a cap (.nil (some a) cap)))
    | none => exact (h1 rfl).2 w G vs hi (tail _ (by rw [hv0]; exact .nils cap))
  | slice es b o cap s val hs hr hv' hk hl hc => exact h2.2 w G vs hi (tail _ (by rw [hv0]; exact .nns es ⟨b, o, none⟩ cap (.slice es b o cap s val hs hr hv' hk hl hc)))

theorem gives_pure {v r : AV} {H : List Ob} (h : v.pur = some r) : Gives 0 v H r [] := by
  intro w G u hi hr
  refine ⟨G.bare, hi.bare, hr.pur h (fun _ _ _ e => e), ⟨rfl, rfl, rfl, Nat.le_refl _, fun _ _ _ => rfl, fun _ _ _ e => e, fun _ _ _ e => .inl e, fun id hid => by omega, fun id b e => by simp [bare_blk] at e⟩⟩

/-- One row goes with the answer. -/
def Gh.only (G : Gh) (id : Nat) : Gh := ⟨G.rd, fun i => if i = 0 then G.loc id else none⟩

theorem only_inv {w : World} {G : Gh} {H : List Ob} (hi : Inv w G H) {id n s : Nat} (ho : H[id]? = some (.row n s)) : Inv w (G.only id) [.row n s] ∧ Move 0 w G w (G.only id) := by
  have hblk : ∀ i b, (G.only id).blk i = some b → i = 0 ∧ G.blk id = some b := by
    intro i b e
    simp only [Gh.blk, Gh.only] at e ⊢
    split at e
    · rename_i h; exact ⟨h, e⟩
    · simp at e
  refine ⟨⟨hi.rd, fun i l e => ?_, fun i j b e1 e2 => by rw [(hblk i b e1).1, (hblk j b e2).1]⟩, ⟨rfl, rfl, rfl, Nat.le_refl _, fun _ _ _ => rfl, fun _ _ _ e => e, fun _ _ _ e => .inl e, fun id hid => by omega, fun i b e => .inr ⟨id, (hblk i b e).2⟩⟩⟩
  simp only [Gh.only] at e
  split at e
  · rename_i h
    subst h
    obtain ⟨ob, ho', hh⟩ := hi.obj id l e
    rw [ho] at ho'; simp at ho'; subst ho'
    refine ⟨.row n s, rfl, ?_⟩
    cases l with
    | box b => exact hh.elim
    | mrow => exact hh.elim
    | row a cap k s' => exact hh
  · simp at e

/-- An answer with the objects that it speaks of. -/
theorem gives_ids {n : Nat} {v r : AV} {H Hout : List Ob} (ids : List Nat) (hv : v = r.ren (renF H ids)) (h0 : ids.take n = List.range n) (hnd : ids.Nodup) (hf : framed (renF H ids) H ids Hout) (hu : r.under ids.length = true) (hb : Hout.all (Ob.below ids.length) = true) :
    Gives n v H r Hout := by
  intro w G u hi hr
  obtain ⟨hlen, hget⟩ := framed_get hf
  have hloc : ∀ i, i < ids.length → (G.part ids).loc i = G.loc (renF H ids i) := by
    intro i h
    simp only [Gh.part, renF, h, if_true]
    rw [List.getD_eq_getElem?_getD, List.getElem?_eq_getElem h]
    rfl
  refine ⟨G.part ids, ⟨hi.rd, fun i l e => ?_, fun i j b e1 e2 => ?_⟩, ?_, ⟨rfl, rfl, rfl, Nat.le_refl _, fun _ _ _ => rfl, fun _ _ _ e => e, fun _ _ _ e => .inl e, fun i hid l e => ?_, fun i b e => ?_⟩⟩
  · obtain ⟨j, h2, h3⟩ := part_loc e
    obtain ⟨o, h4, h5⟩ := hget i j h2
    obtain ⟨ob, h6, h7⟩ := hi.obj j l h3
    rw [h5] at h6; simp at h6; subst h6
    exact ⟨o, h4, unren_holds (G := G) (G0 := G.part ids) (k := ids.length) rfl hloc (List.all_eq_true.1 hb o (List.mem_of_getElem? h4)) h7⟩
  · obtain ⟨x, h2, h3⟩ := part_blk e1
    obtain ⟨y, k2, k3⟩ := part_blk e2
    have := hi.dis _ _ b h3 k3
    subst this
    have a := pos_of hnd h2
    rw [pos_of hnd k2] at a
    simpa using a.symm
  · subst hv
    exact unren_rep (G := G) (G0 := G.part ids) (k := ids.length) rfl hloc hu hr
  · have hid2 : ids[i]? = some i := by
      have h1 : (ids.take n)[i]? = some i := by rw [h0]; simp [hid]
      rw [List.getElem?_take, if_pos hid] at h1
      exact h1
    exact ⟨l, by simp [Gh.part, hid2, e], .refl l⟩
  · obtain ⟨j, _, h3⟩ := part_blk e
    exact .inr ⟨j, h3⟩

/-- A row that is no longer written. -/
theorem gives_freeze {n : Nat} {v r : AV} {H Hout : List Ob} {id ver s : Nat} {es : List T} (ho : H[id]? = some (.mrow ver s es)) (h : Gives n (v.unm id ver es) (H.set id (.frow ver s es)) r Hout) : Gives n v H r Hout := by
  intro w G u hi hr
  obtain ⟨G', i1, s1, c1⟩ := freeze_row hi ho
  obtain ⟨G2, i2, r2, m2⟩ := h w G' u i1 (c1 _ _ hr)
  exact ⟨G2, i2, r2, (s1 n).trans m2⟩

theorem gives_le {n : Nat} {v v' r : AV} {H Hout : List Ob} (hv : v.le v') (h : Gives n v' H r Hout) : Gives n v H r Hout := fun w G u hi hr => h w G u hi (le_rep hv hr)

theorem gives_own {id n s : Nat} {es : List T} {H : List Ob} (ho : H[id]? = some (.row n s)) : Gives 0 (.own id es) H (.own 0 es) [.row n s] := by
  intro w G u hi hr
  obtain ⟨i1, m1⟩ := only_inv hi ho
  refine ⟨_, i1, ?_, m1⟩
  cases hr with
  | own _ _ a a' cap cap' k s' h hl hn he hs => exact .own 0 es a a' cap cap' k s' h (by simp [Gh.only, hl]) hn he hs

theorem gives_own_tup {id n s : Nat} {es : List T} {H : List Ob} {r : List AV} {ts : List T} (ho : H[id]? = some (.row n s)) (hr : toTs r = some ts) : Gives 0 (.tup (.own id es :: r)) H (.tup (.own 0 es :: ts.map .p)) [.row n s] := by
  intro w G u hi hru
  obtain ⟨i1, m1⟩ := only_inv hi ho
  refine ⟨_, i1, ?_, m1⟩
  obtain ⟨hl, hsp⟩ := toTs_spec hr
  cases hru with
  | tup _ vs hn hv =>
    refine .tup _ vs (by simp at hn ⊢; omega) (fun j c hj => ?_)
    cases j with
    | zero =>
      simp at hj; subst hj
      have r0 := hv 0 (.own id es) rfl
      generalize vs.getD 0 undef = v0 at r0
      cases r0 with
      | own _ _ a a' cap cap' k s' h hl hn he hs => exact .own 0 es a a' cap cap' k s' h (by simp [Gh.only, hl]) hn he hs
    | succ j =>
      simp only [List.getElem?_cons_succ, List.getElem?_map, Option.map_eq_some_iff] at hj
      obtain ⟨t, ht, rfl⟩ := hj
      obtain ⟨c, hc, hct⟩ := hsp j t ht
      exact .p _ _ ((hv (j + 1) c (by simpa using hc)).toT hct)

end Go.Abs
