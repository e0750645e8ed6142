/- Maps over the abstract heap. No conditions. -/
import Derived.Test.YtdimikmgkdcglaaA6
import Derived.MapKept
set_option linter.unusedVariables false
set_option linter.unusedSimpArgs false
namespace Go.Proofs.Ytdimikmgkdcglaa
open Go.RowKit Go.MapKept

/-- What the machine does with keys of a type. -/
structure KeyOps (P : Program) (k : TypeId) (kl : Nat) : Prop where
  check : ∀ (w : World) (em : Bool) {v : Value} {ks : List Int}, keyOf v = some ks → ks.length = kl → (Instr.checkKey em 10000 k v).run P w = .ok () w
  find : ∀ (w : World) {x : Value} {ks : List Int}, keyOf x = some ks → ks.length = kl → ∀ es : List MapEntry, (∀ e ∈ es, ∃ l, keyOf e.key = some l ∧ l.length = kl) →
    ((Instr.findKey k x es).run P w = .ok none w ∧ ∀ e ∈ es, keyOf e.key ≠ some ks) ∨ ∃ j e, (Instr.findKey k x es).run P w = .ok (some (j, e.val)) w ∧ es[j]? = some e ∧ keyOf e.key = some ks
  stays : ∀ (w : World) {a b : Value} {ks : List Int}, keyOf a = some ks → keyOf b = some ks → ks.length = kl → (Instr.keyThatStays a b).run P w = .ok b w

/-- Whole numbers as keys. -/
theorem keyOf_one {v : Value} {ks : List Int} (hv : keyOf v = some ks) (hl : ks.length = 1) : ∃ n, v = .int .i64 n ∧ ks = [n] := by
  unfold keyOf at hv
  split at hv
  · injection hv with hv; exact ⟨_, rfl, hv.symm⟩
  · rename_i cs
    cases hm : cs.toList.mapM intOf? with
    | none => simp [hm] at hv
    | some l => simp [hm] at hv; subst hv; simp at hl
  · cases hv

/-- A map that is made. -/
theorem Cfg.newMap {B : Nat} {R : Nat → Prop} {σ : AH} {φ : Pl} {w : World} (hc : Cfg B R σ φ w) {id : Nat} (h0 : σ id = none) (h1 : ∀ n, φ id n = none) (kl : Nat) :
    Cfg B R (σ.set id (.map (fun _ => none) kl)) (φ.put id 0 (w.heap.size, 0)) (w.alloc (.map #[] 0)) ∧ Ext R σ φ w R (σ.set id (.map (fun _ => none) kl)) (φ.put id 0 (w.heap.size, 0)) (w.alloc (.map #[] 0)) :=
  hc.alloc id 0 0 _ _ h0 h1 fun hE => .map (Pl.put_same _ _ _ _) (heap_alloc_at _ _) (by simp) (by simp) (by simp) (by simp)

theorem makeMap_ok {P : Program} {B : Nat} {R : Nat → Prop} {σ : AH} {φ : Pl} {w : World} (hc : Cfg B R σ φ w) (t : TypeId) {id : Nat} (h0 : σ id = none) (h1 : ∀ n, φ id n = none) (kl : Nat) :
    ∃ v φ' w', (Instr.makeMap t none).run P w = .ok v w' ∧ Cfg B R (σ.set id (.map (fun _ => none) kl)) φ' w' ∧ Ext R σ φ w R (σ.set id (.map (fun _ => none) kl)) φ' w' ∧ RV φ' R w' (.mp id) v := by
  obtain ⟨h2, h3⟩ := hc.newMap h0 h1 kl
  refine ⟨.map (some w.heap.size), _, _, ?_, h2, h3, .mp (Pl.put_same _ _ _ _)⟩
  simp [Instr.makeMap, World.alloc_eq]

def tmap (P : Program) (t : TypeId) : Option (TypeId × TypeId) := (P.underlying t).bind fun | .map k e => some (k, e) | _ => none
theorem tmap_spec {P : Program} {t k e : TypeId} (h : tmap P t = some (k, e)) : P.underlying t = some (.map k e) := by
  unfold tmap at h
  cases hu : P.underlying t with
  | none => simp [hu] at h
  | some d => cases d <;> simp [hu] at h; obtain ⟨rfl, rfl⟩ := h; rfl

/-- An abstract key. -/
def aint? : AV → Option Int
  | .sc (.int .i64 n) => some n
  | _ => none
def akey : AV → Option (List Int)
  | .sc (.int .i64 n) => some [n]
  | .ag cs => (cs.mapM aint?).map fun l => 0 :: 0 :: l
  | _ => none

theorem akey_ok {φ : Pl} {R : Nat → Prop} {w : World} {v : AV} {u : Value} (h : RV φ R w v u) {ks : List Int} (hk : akey v = some ks) : keyOf u = some ks := by
  unfold akey at hk
  split at hk
  · cases h; exact hk
  · rename_i cs
    cases h with
    | ag hl h1 hv =>
      rename_i us
      simp only [keyOf]
      have key : ∀ (cs : List AV) (us : List Value) (ks : List Int), us.length = cs.length → (∀ (i : Nat) c u, cs[i]? = some c → us[i]? = some u → RV φ R w c u) → cs.mapM aint? = some ks → us.mapM intOf? = some ks := by
        intro cs
        induction cs with
        | nil => intro us ks hl _ hk; have : us = [] := List.eq_nil_of_length_eq_zero (by simpa using hl); subst this; simpa using hk
        | cons c cs ih =>
          intro us ks hl hv hk
          cases us with
          | nil => simp at hl
          | cons u us =>
            have hcu := hv 0 c u rfl rfl
            simp only [List.mapM_cons] at hk ⊢
            cases hc : aint? c with
            | none => simp [hc] at hk
            | some n =>
              cases hr : cs.mapM aint? with
              | none => simp [hc, hr] at hk
              | some l =>
                simp [hc, hr] at hk
                have h2 := ih us l (by simpa using hl) (fun i c u h1 h2 => hv (i + 1) c u (by simpa using h1) (by simpa using h2)) hr
                have h3 : intOf? u = some n := by
                  unfold aint? at hc
                  split at hc
                  · injection hc with hc; subst hc; cases hcu; rfl
                  · cases hc
                simp [h2, h3, hk]
      cases hm : cs.mapM aint? with
      | none => simp [hm] at hk
      | some l =>
        simp [hm] at hk
        rw [key cs us.toList l (by simpa using hl) (fun i c u h1 h2 => hv i c u h1 (by simpa using h2)) hm]
        simp [hk]
  · cases hk

theorem azero_ok {P : Program} {t : TypeId} {v : AV} (h : azero P t = some v) : ∃ z, tzero P t = some z ∧ ∀ φ R w, RV φ R w v z := by
  unfold azero at h
  cases hz : tzero P t with
  | none => simp [hz] at h
  | some z =>
    refine ⟨z, rfl, ?_⟩
    simp only [hz, Option.bind_some] at h
    split at h
    · rename_i cs
      split at h
      · rename_i hall
        injection h with h
        subst h
        intro φ R w
        refine .ag (by simp) (fun c hc => ?_) (fun i c u hc hu => ?_)
        · obtain ⟨v, _, rfl⟩ := List.mem_map.1 hc
          rfl
        · rw [List.getElem?_map] at hc
          have hu' : cs.toList[i]? = some u := by simpa using hu
          rw [hu'] at hc
          injection hc with hc
          subst hc
          exact .sc ((List.all_eq_true.1 hall) u (List.mem_of_getElem? hu'))
      · cases h
    · cases h
    · rename_i hne1 hne2
      injection h with h
      subst h
      intro φ R w
      refine .sc ?_
      cases z <;> first | rfl | (exfalso; first | exact hne1 _ rfl | exact hne2 _ rfl)

theorem nodup_idx {α : Type} {l : List α} (h : l.Nodup) {i j : Nat} {x : α} (hi : l[i]? = some x) (hj : l[j]? = some x) : i = j :=
  (List.getElem?_inj (List.getElem?_eq_some_iff.1 hi).1 h).1 (hi.trans hj.symm)
theorem gobj_map {P : Program} {w : World} {r : Nat} {es : Array MapEntry} {clock : Nat} (hb : w.heap[r]? = some (.map es clock)) : (getObj r).run P w = .ok (.map es clock) w := by
  simp [getObj, Sem.run, hb]
theorem sobj_map {P : Program} {w : World} {r : Nat} {es : Array MapEntry} {clock : Nat} {o : Obj} (hb : w.heap[r]? = some (.map es clock)) : (setObj r o).run P w = .ok () { w with heap := w.heap.setIfInBounds r o } := by
  simp [setObj, Sem.run, hb]

/-- A look-up. -/
theorem lookup_ok {P : Program} {B : Nat} {R : Nat → Prop} {σ : AH} {φ : Pl} {w : World} (hc : Cfg B R σ φ w) {m x : AV} {um ux : Value} (hm : RV φ R w m um) (hx : RV φ R w x ux) {id : Nat} (hmid : m = .mp id)
    {f : List Int → Option AV} {kl : Nat} (hs : σ id = some (.map f kl)) {ks : List Int} (hk : akey x = some ks) (hkl : ks.length = kl) {t k e : TypeId} (ht : tmap P t = some (k, e)) (hK : KeyOps P k kl) {z : AV} (hz : azero P e = some z) (ok : Bool) :
    ∃ v, (Instr.lookup t um ux ok).run P w = .ok v w ∧ RV φ R w (if ok = true then .tu [(f ks).getD z, .sc (.bool (f ks).isSome)] else (f ks).getD z) v := by
  have htu : ∀ (x : AV) (v : Value) (b : Bool), RV φ R w x v → RV φ R w (.tu [x, .sc (.bool b)]) (.tuple #[v, .bool b]) := fun x v b h => .tu rfl fun i c u h1 h2 => by
    cases i with
    | zero => simp at h1 h2; subst h1; subst h2; exact h
    | succ i => cases i with
      | zero => simp at h1 h2; subst h1; subst h2; exact .sc rfl
      | succ i => simp at h1
  subst hmid
  cases hm with
  | mp h1 =>
    rename_i b cap
    cases hc.ok id _ hs with
    | map hp hb hkk hd hn hf =>
      rename_i b' c' es clock
      rw [h1] at hp
      injection hp with hp
      injection hp with hp
      subst hp
      obtain ⟨zv, hz1, hz2⟩ := azero_ok hz
      have hkx := akey_ok hx hk
      have hu := run_underlying (P := P) (tmap_spec ht) w
      have hg := gobj_map (P := P) hb
      have hch := hK.check w es.isEmpty hkx hkl
      rcases hK.find w hkx hkl es.toList hkk with ⟨h2, h3⟩ | ⟨j, en, h2, h3, h4⟩
      · have hnone : f ks = none := by
          cases hq : f ks with
          | none => rfl
          | some c =>
            obtain ⟨en, h4, h5, _⟩ := hf ks c hq
            exact absurd h5 (h3 en h4)
        rw [hnone]
        cases ok with
        | false => exact ⟨zv, by simp [Instr.lookup, hu, hg, hch, h2, run_zero' hz1], hz2 _ _ _⟩
        | true => exact ⟨.tuple #[zv, .bool false], by simp [Instr.lookup, hu, hg, hch, h2, run_zero' hz1], htu _ _ _ (hz2 _ _ _)⟩
      · have hmem : en ∈ es.toList := List.mem_of_getElem? h3
        cases hq : f ks with
        | none => exact absurd h4 (hn ks hq en hmem)
        | some c =>
          obtain ⟨en', h5, h6, h7⟩ := hf ks c hq
          have : en' = en := by
            obtain ⟨j', h8⟩ := List.mem_iff_getElem?.1 h5
            have hjj : j' = j := by
              refine nodup_idx hd (x := some ks) ?_ ?_
              · rw [List.getElem?_map, h8]; simp [h6]
              · rw [List.getElem?_map, h3]; simp [h4]
            rw [hjj, h3] at h8
            injection h8 with h8
            exact h8.symm
          subst this
          cases ok with
          | false => exact ⟨en'.val, by simp [Instr.lookup, hu, hg, hch, h2], h7⟩
          | true => exact ⟨.tuple #[en'.val, .bool true], by simp [Instr.lookup, hu, hg, hch, h2], htu _ _ _ h7⟩

def mupd (f : List Int → Option AV) (ks : List Int) (v : AV) : List Int → Option AV := fun k => if k = ks then some v else f k

theorem heap_setObj (w : World) (b : Nat) (o : Obj) (hb : b < w.heap.size) : ({ w with heap := w.heap.setIfInBounds b o } : World).heap[b]? = some o := by simp [hb]

/-- A store. -/
theorem mapUpdate_ok {P : Program} {B : Nat} {R : Nat → Prop} {σ : AH} {φ : Pl} {w : World} (hc : Cfg B R σ φ w) {x v : AV} {um ux uv : Value} {id : Nat} (hm : RV φ R w (.mp id) um) (hx : RV φ R w x ux) (hv : RV φ R w v uv)
    {f : List Int → Option AV} {kl : Nat} (hs : σ id = some (.map f kl)) {ks : List Int} (hk : akey x = some ks) (hkl : ks.length = kl) {t k e : TypeId} (ht : tmap P t = some (k, e)) (hK : KeyOps P k kl) :
    ∃ w', (Instr.mapUpdate t um ux uv).run P w = .ok () w' ∧ Cfg B R (σ.set id (.map (mupd f ks v) kl)) φ w' ∧ Ext R σ φ w R (σ.set id (.map (mupd f ks v) kl)) φ w' := by
  have hne : σ id ≠ none := by rw [hs]; simp
  cases hm with
  | mp h1 =>
    rename_i b cap
    cases hc.ok id _ hs with
    | map hp hb hkk hd hn hf =>
      rename_i b' c' es clock
      rw [h1] at hp
      injection hp with hp
      injection hp with hp
      subst hp
      have hlt : b < w.heap.size := hc.lt _ _ _ _ h1
      have hkx := akey_ok hx hk
      have hu := run_underlying (P := P) (tmap_spec ht) w
      have hg := gobj_map (P := P) hb
      have hch := hK.check w false hkx hkl
      have upd : ∀ (es' : Array MapEntry) (clock' : Nat), (∀ en ∈ es'.toList, ∃ ks, keyOf en.key = some ks ∧ ks.length = kl) → (es'.toList.map fun e => keyOf e.key).Nodup →
          (∀ ks', mupd f ks v ks' = none → ∀ e ∈ es'.toList, keyOf e.key ≠ some ks') →
          (∀ ks' c, mupd f ks v ks' = some c → ∃ e, e ∈ es'.toList ∧ keyOf e.key = some ks' ∧ RV φ R w c e.val) →
          Cfg B R (σ.set id (.map (mupd f ks v) kl)) φ { w with heap := w.heap.setIfInBounds b (.map es' clock') } ∧ Ext R σ φ w R (σ.set id (.map (mupd f ks v) kl)) φ { w with heap := w.heap.setIfInBounds b (.map es' clock') } := by
        intro es' clock' k1 k2 k3 k4
        refine hc.upd id _ φ _ (fun _ _ _ => rfl) (fun _ _ h => h) (fun m d e h => ⟨by have := hc.lt _ _ _ _ h; simpa using this, .inr ⟨m, e, h, hne⟩⟩) (fun h => absurd h hne)
          (fun d hd' h => ?_) (by simp) rfl rfl rfl (fun hE => .map h1 (heap_setObj w b _ hlt) k1 k2 k3 (fun ks' c hq => let ⟨e, q1, q2, q3⟩ := k4 ks' c hq; ⟨e, q1, q2, q3.ext hE⟩))
        have hdb : b ≠ d := fun e => h 0 cap (by rw [← e]; exact h1)
        simp [hdb]
      rcases hK.find w hkx hkl es.toList hkk with ⟨h2, h3⟩ | ⟨j, en, h2, h3, h4⟩
      · have hrun : (Instr.mapUpdate t (.map (some b)) ux uv).run P w = .ok () { w with heap := w.heap.setIfInBounds b (.map (es.push { key := ux, val := uv, born := clock }) (clock + 1)) } := by
          simp [Instr.mapUpdate, hu, hg, hch, h2, sobj_map hb]
        refine ⟨_, hrun, upd _ _ ?_ ?_ ?_ ?_⟩
        · intro en hen
          simp only [Array.toList_push, List.mem_append, List.mem_singleton] at hen
          rcases hen with hen | hen
          · exact hkk en hen
          · subst hen; exact ⟨ks, hkx, hkl⟩
        · simp only [Array.toList_push, List.map_append, List.map_cons, List.map_nil]
          rw [List.nodup_append]
          refine ⟨hd, by simp, fun a ha b' hb' => ?_⟩
          simp only [List.mem_singleton] at hb'
          subst hb'
          obtain ⟨en, hen, rfl⟩ := List.mem_map.1 ha
          simp only [hkx]
          exact h3 en hen
        · intro ks' hq en hen
          unfold mupd at hq
          by_cases hkk' : ks' = ks
          · simp [hkk'] at hq
          · rw [if_neg hkk'] at hq
            simp only [Array.toList_push, List.mem_append, List.mem_singleton] at hen
            rcases hen with hen | hen
            · exact hn ks' hq en hen
            · subst hen; simp only [hkx]; intro q; injection q with q; exact hkk' q.symm
        · intro ks' c hq
          unfold mupd at hq
          by_cases hkk' : ks' = ks
          · rw [if_pos hkk'] at hq
            injection hq with hq
            subst hq
            exact ⟨{ key := ux, val := uv, born := clock }, by simp, by rw [hkk']; exact hkx, hv⟩
          · rw [if_neg hkk'] at hq
            obtain ⟨en, q1, q2, q3⟩ := hf ks' c hq
            exact ⟨en, by simp at q1 ⊢; exact .inl q1, q2, q3⟩
      · have hmem : en ∈ es.toList := List.mem_of_getElem? h3
        have hjl : j < es.size := by simpa using (List.getElem?_eq_some_iff.1 h3).1
        have hej : es[j]? = some en := by simpa using h3
        have hgj : es[j] = en := (Array.getElem?_eq_some_iff.1 hej).2
        have hst := hK.stays w h4 hkx hkl
        have hrun : (Instr.mapUpdate t (.map (some b)) ux uv).run P w = .ok () { w with heap := w.heap.setIfInBounds b (.map (es.modify j fun e => { e with key := ux, val := uv }) clock) } := by
          simp [Instr.mapUpdate, hu, hg, hch, h2, hej, hst, sobj_map hb]
        have hlist : (es.modify j fun e => { e with key := ux, val := uv }).toList = es.toList.set j { en with key := ux, val := uv } := by
          apply List.ext_getElem?
          intro i
          simp only [Array.getElem?_toList, Array.getElem?_modify, List.getElem?_set]
          by_cases hij : j = i
          · subst hij; simp [hjl, hgj]
          · simp [hij]
        have hkeys : ((es.modify j fun e => { e with key := ux, val := uv }).toList.map fun e => keyOf e.key) = es.toList.map fun e => keyOf e.key := by
          rw [hlist]
          apply List.ext_getElem?
          intro i
          simp only [List.getElem?_map, List.getElem?_set]
          by_cases hij : j = i
          · subst hij
            simp [hjl, hkx, h4, hgj]
          · simp [hij]
        have hother : ∀ e', e' ∈ es.toList → keyOf e'.key ≠ some ks → e' ∈ es.toList.set j { en with key := ux, val := uv } := fun e' he' hne' => by
          obtain ⟨i, hi⟩ := List.mem_iff_getElem?.1 he'
          have hij : j ≠ i := fun q => by subst q; rw [h3] at hi; injection hi with hi; subst hi; exact hne' h4
          exact List.mem_iff_getElem?.2 ⟨i, by rw [List.getElem?_set_ne hij]; exact hi⟩
        have hback : ∀ e', e' ∈ es.toList.set j { en with key := ux, val := uv } → e' ∈ es.toList ∨ keyOf e'.key = some ks := fun e' he' => by
          rcases List.mem_or_eq_of_mem_set he' with q | q
          · exact .inl q
          · subst q; exact .inr hkx
        refine ⟨_, hrun, upd _ _ ?_ ?_ ?_ ?_⟩
        · intro e' he'
          rw [hlist] at he'
          rcases hback e' he' with q | q
          · exact hkk e' q
          · exact ⟨ks, q, hkl⟩
        · rw [hkeys]; exact hd
        · intro ks' hq e' he'
          rw [hlist] at he'
          unfold mupd at hq
          by_cases hkk' : ks' = ks
          · simp [hkk'] at hq
          · rw [if_neg hkk'] at hq
            rcases hback e' he' with q | q
            · exact hn ks' hq e' q
            · rw [q]; intro q'; injection q' with q'; exact hkk' q'.symm
        · intro ks' c hq
          rw [hlist]
          unfold mupd at hq
          by_cases hkk' : ks' = ks
          · rw [if_pos hkk'] at hq
            injection hq with hq
            subst hq
            exact ⟨{ en with key := ux, val := uv }, List.mem_iff_getElem?.2 ⟨j, by rw [List.getElem?_set_self (by simpa using hjl)]⟩, by rw [hkk']; exact hkx, hv⟩
          · rw [if_neg hkk'] at hq
            obtain ⟨e', q1, q2, q3⟩ := hf ks' c hq
            exact ⟨e', hother e' q1 (by rw [q2]; intro q'; injection q' with q'; exact hkk' q'), q2, q3⟩

/-- Whole numbers as keys. -/
theorem keyOps_int {P : Program} {k : TypeId} (hk : P.underlying k = some (.int .i64)) : KeyOps P k 1 where
  check := fun w em v ks hv hl => by
    obtain ⟨n, rfl, rfl⟩ := keyOf_one hv hl
    exact run_checkKey hk (by simp [IsKey]) em 9999
  find := fun w x ks hx hl es hes => by
    obtain ⟨n, rfl, rfl⟩ := keyOf_one hx hl
    rcases findNow_spec (d := .int .i64) (k := .int .i64 n) (by simp [IsKey]) es 0 (fun e he => by
      obtain ⟨l, h1, h2⟩ := hes e he
      obtain ⟨m, h3, _⟩ := keyOf_one h1 h2
      rw [h3]; simp [IsKey]) with ⟨h1, h2⟩ | ⟨j, e, h1, h2, h3⟩
    · refine .inl ⟨run_findKey hk h1, fun e he q => ?_⟩
      obtain ⟨l, h3, h4⟩ := hes e he
      obtain ⟨m, h5, h6⟩ := keyOf_one h3 h4
      rw [h3, h6] at q
      injection q with q
      injection q with q
      exact h2 e he (by rw [h5, q])
    · exact .inr ⟨j, e, by rw [run_findKey hk h1, Nat.zero_add], h2, by rw [h3]; rfl⟩
  stays := fun w a b ks ha hb hl => by
    obtain ⟨n, rfl, rfl⟩ := keyOf_one ha hl
    obtain ⟨m, rfl, h⟩ := keyOf_one hb hl
    injection h with h
    subst h
    simp [Instr.keyThatStays, Instr.sameBits]

end Go.Proofs.Ytdimikmgkdcglaa
