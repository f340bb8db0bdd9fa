/- A verified interpreter of the model's code, second part: whole functions, regions that draw, calls on a part of the heap. No conditions. -/
import Derived.Test.YtelhccfmfnaegaaGreatIntA
import Derived.RecoverIn
import Derived.Test.YtelhccfmfnaegaaGreatLibA
section
/- The interpreter's operations are the model's: what maps are told, ranges. -/
set_option linter.unusedSimpArgs false
set_option linter.unusedVariables false
open Go.ChangeMaps (setBlock)
set_option linter.unusedSectionVars false
namespace Go.Sh
variable [Env]

section
variable {P : Program} {ad : List Pl} {s s' : RSt} {w : World}

theorem SR.mapAt (hS : SR P ad s w) {b : Nat} {es : List (RV × RV × Nat)} {clock : Nat} {p : Pl} (hb : s.get b = some (.map es clock)) (hp : ad[b]? = some p) : ∃ l, w.heap[p.a]? = some (.map ⟨l⟩ clock) ∧ Pl.ents ad es = some l := by
  obtain ⟨o, ho, hr⟩ := hS.at hb (by simp) hp
  cases hr with
  | map hl => exact ⟨_, ho, hl⟩

theorem sameBits_of {kd : TypeDesc} {a b : Value} (h : Instr.sameNow kd a b = some true) : Instr.sameBits 10000 b a = true := by
  unfold Instr.sameNow at h
  split at h
  · split at h
    · rename_i k x k' y hk; subst hk
      simp at h; subst h
      simp [Instr.sameBits]
    · cases h
  · rename_i a b
    have hab : a = b := ByteArray.ext (eq_of_beq (show (a.data == b.data) = true from Option.some.inj h))
    subst hab
    show (a == a) = true
    exact (show (a.data == a.data) = true from beq_self_eq_true _)
  · simp at h; subst h; simp [Instr.sameBits]
  · cases h

theorem ents_mod : ∀ {es : List (RV × RV × Nat)} {l : List MapEntry} {i : Nat} {k v : RV} {kv vv : Value}, Pl.ents ad es = some l → rabs ad k = some kv → rabs ad v = some vv →
    Pl.ents ad (rMod es i k v) = some (l.modify i fun e => { e with key := kv, val := vv })
  | [], l, i, k, v, kv, vv, h, _, _ => by simp only [Pl.ents] at h; cases h; cases i <;> rfl
  | e :: r, l, 0, k, v, kv, vv, h, hk, hv => by
    obtain ⟨ke, ve, l', h1, h2, h3, rfl⟩ := ents_cons.1 h
    exact ents_cons.2 ⟨kv, vv, l', hk, hv, h3, rfl⟩
  | e :: r, l, i + 1, k, v, kv, vv, h, hk, hv => by
    obtain ⟨ke, ve, l', h1, h2, h3, rfl⟩ := ents_cons.1 h
    exact ents_cons.2 ⟨ke, ve, _, h1, h2, ents_mod (i := i) h3 hk hv, rfl⟩

theorem ents_drop : ∀ {es : List (RV × RV × Nat)} {l : List MapEntry} {i : Nat}, Pl.ents ad es = some l → Pl.ents ad (rDrop es i) = some (l.eraseIdx i)
  | [], l, i, h => by simp only [Pl.ents] at h; cases h; cases i <;> rfl
  | e :: r, l, 0, h => by
    obtain ⟨ke, ve, l', h1, h2, h3, rfl⟩ := ents_cons.1 h
    exact h3
  | e :: r, l, i + 1, h => by
    obtain ⟨ke, ve, l', h1, h2, h3, rfl⟩ := ents_cons.1 h
    exact ents_cons.2 ⟨ke, ve, _, h1, h2, ents_drop (i := i) h3, rfl⟩

theorem ok_upd {t K e : TypeId} {kd : TypeDesc} {m k v : RV} {mv kv vv : Value} (hu : P.underlying t = some (.map K e)) (hK : KeyKind P K kd) (hS : SR P ad s w)
    (hm : rabs ad m = some mv) (hk : rabs ad k = some kv) (hv : rabs ad v = some vv) (h : evUpd kd m k v s = .skip s') :
    ∃ w', (uN (Instr.mapUpdate t mv kv vv)).run P w = .ok .skip w' ∧ SR P ad s' w' ∧ FR ad ad s s' w w' := by
  unfold evUpd at h
  split at h
  · rename_i b kv' hkn
    have := keyNow_abs hkn hk; subst this
    obtain ⟨p, hp, rfl⟩ := abs_mp hm
    split at h
    · rename_i es clock hb
      obtain ⟨l, hw, hl⟩ := hS.mapAt hb hp
      have hun : (underlying t).run P w = .ok (.map K e) w := pureRun_sound _ (by rw [pr_underlying, hu]) w
      split at h
      · rename_i i y hf; cases h
        rcases find_abs hl hf with ⟨h1, _⟩ | ⟨j, v', x, e', h1, h2, h3, h4, h5⟩
        · cases h1
        · cases h1
          obtain ⟨h6, h7⟩ := hS.put hp ⟨_, hb, by simp⟩ (rb := .map (rMod es (0 + j) (.g kv) v) clock) (o := .map ⟨l.modify (0 + j) fun e => { e with key := kv, val := vv }⟩ clock) (.map (ents_mod hl rfl hv))
          refine ⟨_, run_uN ?_, h6, h7⟩
          unfold Instr.mapUpdate
          rw [run_ok hun]
          simp only
          rw [run_ok (run_getMap hw)]
          simp only
          rw [run_pureRun (pr_checkKey hK hkn), run_pureRun (pr_findKey hK h2)]
          simp only
          have hkey : ((((⟨l⟩ : Array MapEntry)[0 + j]?).map (·.key)).getD kv) = e'.key := by simp [h4]
          rw [hkey]
          have hks : (Instr.keyThatStays e'.key kv).run P w = .ok kv w := by
            unfold Instr.keyThatStays
            rw [sameBits_of h5]; rfl
          rw [run_ok hks, run_setMap hw]
          congr 4
          simp
      · rename_i hf; cases h
        rcases find_abs hl hf with ⟨_, h2⟩ | ⟨j, v', x, e', h1, _⟩
        · obtain ⟨h6, h7⟩ := hS.put hp ⟨_, hb, by simp⟩ (rb := .map (es ++ [(.g kv, v, clock)]) (clock + 1)) (o := .map ⟨l ++ [{ key := kv, val := vv, born := clock }]⟩ (clock + 1))
            (.map (ents_app hl (ents_cons.2 ⟨kv, vv, [], rfl, hv, rfl, rfl⟩)))
          refine ⟨_, run_uN ?_, h6, h7⟩
          unfold Instr.mapUpdate
          rw [run_ok hun]
          simp only
          rw [run_ok (run_getMap hw)]
          simp only
          rw [run_pureRun (pr_checkKey hK hkn), run_pureRun (pr_findKey hK h2)]
          simp only
          rw [run_setMap hw]
          congr 4
          simp
        · cases h1
      · cases h
    · cases h
  · cases h

theorem ok_del {T2 R : TypeId} {t K e : TypeId} {kd : TypeDesc} {ts : Array TypeId} {m k v : RV} {mv kv : Value} (ht : ts[0]? = some t) (hu : P.underlying t = some (.map K e)) (hK : KeyKind P K kd) (hS : SR P ad s w)
    (hm : rabs ad m = some mv) (hk : rabs ad k = some kv) (h : evDel kd m k s = .val v s') : ActOk P ad s w (vN (Builtin.delete_ ts R #[mv, kv])) v s' := by
  unfold evDel at h
  split at h
  · rename_i b kv' hkn
    have := keyNow_abs hkn hk; subst this
    obtain ⟨p, hp, rfl⟩ := abs_mp hm
    split at h
    · rename_i es clock hb
      obtain ⟨l, hw, hl⟩ := hS.mapAt hb hp
      have hun : (underlying t).run P w = .ok (.map K e) w := pureRun_sound _ (by rw [pr_underlying, hu]) w
      split at h
      · rename_i i y hf; cases h
        rcases find_abs hl hf with ⟨h1, _⟩ | ⟨j, v', x, e', h1, h2, h3, h4, h5⟩
        · cases h1
        · cases h1
          obtain ⟨h6, h7⟩ := hS.put hp ⟨_, hb, by simp⟩ (rb := .map (rDrop es (0 + j)) clock) (o := .map ⟨l.eraseIdx (0 + j)⟩ clock) (.map (ents_drop hl))
          refine ⟨ad, .tuple #[], _, run_vN ?_, rfl, h6, h7⟩
          unfold Builtin.delete_
          simp only [ht, List.getElem?_toArray, List.getElem?_cons_zero, List.getElem?_cons_succ]
          rw [run_ok hun]
          simp only
          rw [run_ok (run_getMap hw)]
          simp only
          rw [run_pureRun (pr_checkKey hK hkn), run_pureRun (pr_findKey hK h2)]
          simp only
          rw [run_ok (run_setMap hw)]
          have : (⟨l⟩ : Array MapEntry).eraseIdxIfInBounds (0 + j) = ⟨l.eraseIdx (0 + j)⟩ := by
            have hj : 0 + j < l.length := by
              have := (List.getElem?_eq_some_iff.1 h4).1; omega
            simp [Array.eraseIdxIfInBounds, hj]
            omega
          rw [this]
          rfl
      · rename_i hf; cases h
        rcases find_abs hl hf with ⟨_, h2⟩ | ⟨j, v', x, e', h1, _⟩
        · refine ⟨ad, .tuple #[], w, run_vN ?_, rfl, hS, FR.refl _ _ _⟩
          unfold Builtin.delete_
          simp only [ht, List.getElem?_toArray, List.getElem?_cons_zero, List.getElem?_cons_succ]
          rw [run_ok hun]
          simp only
          rw [run_ok (run_getMap hw)]
          simp only
          rw [run_pureRun (pr_checkKey hK hkn), run_pureRun (pr_findKey hK h2)]
          simp only
          rw [run_ok (run_setMap hw), set_same hw]
          rfl
        · cases h1
      · cases h
    · cases h
  · cases h

theorem ok_rng {t K e : TypeId} {x v : RV} {xv : Value} (hu : P.underlying t = some (.map K e)) (hS : SR P ad s w) (hx : rabs ad x = some xv) (h : evRng x s = .val v s') : ActOk P ad s w (vN (Instr.range t xv)) v s' := by
  have hun : ∀ w, (underlying t).run P w = .ok (.map K e) w := fun w => pureRun_sound _ (by rw [pr_underlying, hu]) w
  unfold evRng at h
  split at h
  · cases h
    have := abs_g hx; subst this
    refine act_new hS 0 (o := .mapIter none 0 #[] 0) (x := .pointer (some ⟨w.heap.size, 0, none⟩)) ?_ .iterNone (abs_ptr_mk (hS.place 0))
    unfold Instr.range
    simp only [run_bind]
    rw [hun]
    rfl
  · rename_i b
    split at h
    · rename_i es clock hb; cases h
      obtain ⟨p, hp, rfl⟩ := abs_mp hx
      obtain ⟨l, hw, hl⟩ := hS.mapAt hb hp
      refine act_new hS 0 (o := .mapIter (some p.a) clock #[] clock) (x := .pointer (some ⟨w.heap.size, 0, none⟩)) ?_ (.iter hp) (abs_ptr_mk (hS.place 0))
      unfold Instr.range
      simp only [run_bind]
      rw [hun]
      simp only [run_bind]
      rw [run_getMap hw]
      rfl
    · cases h
  · cases h

theorem ok_rngT {t : TypeId} {x v : RV} {xv : Value} (hu : P.underlying t = some .string) (hS : SR P ad s w) (hx : rabs ad x = some xv) (h : evRngT x s = .val v s') : ActOk P ad s w (vN (Instr.range t xv)) v s' := by
  have hun : ∀ w, (underlying t).run P w = .ok .string w := fun w => pureRun_sound _ (by rw [pr_underlying, hu]) w
  unfold evRngT at h
  split at h
  · rename_i b; cases h
    have := abs_g hx; subst this
    refine act_new hS 0 (o := .stringIter b 0) (x := .pointer (some ⟨w.heap.size, 0, none⟩)) ?_ .text (abs_ptr_mk (hS.place 0))
    unfold Instr.range
    simp only [run_bind]
    rw [hun]
    rfl
  · cases h

theorem ents_filter {f : Nat → Bool} : ∀ {es : List (RV × RV × Nat)} {l : List MapEntry}, Pl.ents ad es = some l → Pl.ents ad (es.filter fun e => f e.2.2) = some (l.filter fun e => f e.born)
  | [], l, h => by simp only [Pl.ents] at h; cases h; rfl
  | e :: r, l, h => by
    obtain ⟨ke, ve, l', h1, h2, h3, rfl⟩ := ents_cons.1 h
    rw [List.filter_cons, List.filter_cons]
    by_cases hf : f e.2.2 = true
    · rw [if_pos hf, if_pos hf]
      exact ents_cons.2 ⟨ke, ve, _, h1, h2, ents_filter h3, rfl⟩
    · rw [if_neg hf, if_neg hf]; exact ents_filter h3

theorem ents_all {f : Nat → Bool} : ∀ {es : List (RV × RV × Nat)} {l : List MapEntry}, Pl.ents ad es = some l → es.all (fun e => f e.2.2) = l.all fun e => f e.born
  | [], l, h => by simp only [Pl.ents] at h; cases h; rfl
  | e :: r, l, h => by
    obtain ⟨ke, ve, l', h1, h2, h3, rfl⟩ := ents_cons.1 h
    simp only [List.all_cons, ents_all h3]

theorem ok_nxt {ty : TypeId} {x v : RV} {xv : Value} (hS : SR P ad s w) (hx : rabs ad x = some xv) (h : evNxt x s = .val v s') : ActOk P ad s w (vN (Instr.next xv false ty)) v s' := by
  unfold evNxt at h
  split at h
  · rename_i b
    obtain ⟨p, hp, rfl⟩ := abs_ptr hx
    split at h
    · rename_i since seen last hb; cases h
      obtain ⟨o, ho, hr⟩ := hS.at hb (by simp) hp
      cases hr with
      | iterNone =>
        refine ⟨ad, .tuple #[.bool false], w, run_vN ?_, rfl, hS, FR.refl _ _ _⟩
        simp [Instr.next, getObj, Sem.run, ho]
    · rename_i m since seen last hb
      obtain ⟨o, ho, hr⟩ := hS.at hb (by simp) hp
      cases hr with
      | iter hq =>
        rename_i q
        split at h
        · rename_i es clock hm
          obtain ⟨l, hw, hl⟩ := hS.mapAt hm hq
          split at h
          · rename_i e1 e2
            have e1 := Nat.le_of_ble_eq_true e1
            rw [ents_all (f := fun n => Nat.ble (n + 1) since) hl] at e2
            have hrun := run_next_at (P := P) w ty p.a q.a since last ⟨seen⟩ ⟨l⟩ clock ho hw (fun x hx => by
              have := List.all_eq_true.1 e2 x hx
              exact Nat.le_of_ble_eq_true this) e1
            have hleft : (leftOf ⟨l⟩ ⟨seen⟩).toList = l.filter fun e => !seen.contains e.born := by
              unfold leftOf
              simp
            have hfl := ents_filter (f := fun n => !seen.contains n) hl
            split at h
            · rename_i he; cases h
              rw [he] at hfl
              simp only [Pl.ents] at hfl
              rcases hrun with ⟨_, hrun⟩ | ⟨e, hmem, _⟩
              · exact ⟨ad, .tuple #[.bool false], w, run_vN hrun, rfl, hS, FR.refl _ _ _⟩
              · rw [hleft, ← Option.some.inj hfl] at hmem
                cases hmem
            · rename_i e he; cases h
              rw [he] at hfl
              obtain ⟨ke, ve, l', h1, h2, h3, h4⟩ := ents_cons.1 hfl
              simp only [Pl.ents] at h3; cases h3
              rcases hrun with ⟨h0, _⟩ | ⟨e', hmem, w1, hw1, hrun⟩
              · have : (leftOf ⟨l⟩ ⟨seen⟩).toList.length = 0 := by rw [Array.length_toList]; exact h0
                rw [hleft, h4] at this; cases this
              · rw [hleft, h4] at hmem
                have := List.mem_singleton.1 hmem; subst this
                have hv : rabs ad (.tup [.g (.bool true), e.1, e.2.1]) = some (.tuple #[.bool true, ke, ve]) := by
                  simp [rabs, rabsL, h1, h2]
                have hpush : (⟨seen⟩ : Array Nat).push e.2.2 = ⟨seen ++ [e.2.2]⟩ := by simp
                have fin : ∀ w1 : World, (w1 = w ∨ w1 = w.drew) → SR P ad s w1 → FR ad ad s s w w1 → (Instr.next (.pointer (some ⟨p.a, 0, none⟩)) false ty).run P w = .ok (.tuple #[.bool true, ke, ve]) (setBlock w1 p.a (.mapIter (some q.a) since ((⟨seen⟩ : Array Nat).push e.2.2) clock)) →
                    ActOk P ad s w (vN (Instr.next (.pointer (some ⟨p.a, 0, none⟩)) false ty)) (.tup [.g (.bool true), e.1, e.2.1]) (s.put b (.iter (some m) since (seen ++ [e.2.2]) clock)) := by
                  intro w1 _ hS1 hF1 hr
                  obtain ⟨h5, h6⟩ := hS1.put hp ⟨_, hb, by simp⟩ (rb := .iter (some m) since (seen ++ [e.2.2]) clock) (o := .mapIter (some q.a) since ⟨seen ++ [e.2.2]⟩ clock) (.iter hq)
                  rw [hpush] at hr
                  exact ⟨ad, _, _, run_vN hr, hv, h5, hF1.trans h6⟩
                rcases hw1 with rfl | rfl
                · exact fin _ (.inl rfl) hS (FR.refl _ _ _) hrun
                · exact fin _ (.inr rfl) hS.drew (FR.drew _ _ _) hrun
            · cases h
          · cases h
        · cases h
    · cases h
  · cases h

theorem ok_nxtT {ty : TypeId} {x v : RV} {xv : Value} (hS : SR P ad s w) (hx : rabs ad x = some xv) (h : evNxtT x s = .val v s') : ActOk P ad s w (vN (Instr.next xv true ty)) v s' := by
  unfold evNxtT at h
  split at h
  · rename_i b
    obtain ⟨p, hp, rfl⟩ := abs_ptr hx
    split at h
    · rename_i t pos hb
      obtain ⟨o, ho, hr⟩ := hS.at hb (by simp) hp
      cases hr with
      | text =>
        split at h
        · rename_i hlt
          have hlt := Nat.le_of_ble_eq_true hlt
          split at h
          rename_i c width hd
          cases h
          obtain ⟨h5, h6⟩ := hS.put hp ⟨_, hb, by simp⟩ (rb := .text t (pos + width)) (o := .stringIter t (pos + width)) .text
          refine ⟨ad, .tuple #[.bool true, goInt pos, .int .i32 c], _, run_vN ?_, rfl, h5, h6⟩
          simp [Instr.next, getObj, setObj, Sem.run, ho, show pos < t.size from hlt, hd]
        · rename_i hlt
          have hlt : ¬ (pos + 1 ≤ t.size) := Nat.not_le_of_not_ble_eq_true (by rw [hlt]; decide)
          cases h
          refine ⟨ad, .tuple #[.bool false], w, run_vN ?_, rfl, hS, FR.refl _ _ _⟩
          simp [Instr.next, getObj, Sem.run, ho, show ¬ pos < t.size from hlt]
    · cases h
  · cases h

theorem find_born' {st : Nat} : ∀ {es : List (RV × RV × Nat)} {l : List MapEntry} {e : RV × RV × Nat}, Pl.ents ad es = some l → es.find? (fun e => Nat.beq e.2.2 st) = some e →
    ∃ x, l.find? (fun e => e.born == st) = some x ∧ rabs ad e.1 = some x.key ∧ rabs ad e.2.1 = some x.val
  | [], l, e, h, hf => by cases hf
  | e0 :: r, l, e, h, hf => by
    obtain ⟨ke, ve, l', h1, h2, h3, rfl⟩ := ents_cons.1 h
    rw [List.find?_cons] at hf
    split at hf
    · rename_i hb; cases hf
      refine ⟨{ key := ke, val := ve, born := e0.2.2 }, ?_, h1, h2⟩
      rw [List.find?_cons]
      have : (({ key := ke, val := ve, born := e0.2.2 } : MapEntry).born == st) = true := by simpa using Nat.eq_of_beq_eq_true hb
      rw [this]
    · rename_i hb
      obtain ⟨x, hx, h4, h5⟩ := find_born' h3 hf
      refine ⟨x, ?_, h4, h5⟩
      rw [List.find?_cons]
      have : (({ key := ke, val := ve, born := e0.2.2 } : MapEntry).born == st) = false := by simpa using Nat.ne_of_beq_eq_false (by simpa using hb)
      rw [this]; exact hx

theorem ok_ent {x v : RV} {xv : Value} (hS : SR P ad s w) (hx : rabs ad x = some xv) (h : evEnt x s = .val v s') : s' = s ∧ ReadOk P ad w (vN (Instr.entry xv)) v := by
  unfold evEnt at h
  split at h
  · rename_i b
    obtain ⟨p, hp, rfl⟩ := abs_ptr hx
    split at h
    · rename_i m since seen last hb
      obtain ⟨o, ho, hr⟩ := hS.at hb (by simp) hp
      cases hr with
      | iter hq =>
        rename_i q
        split at h
        · rename_i es clock st hm hst
          obtain ⟨l, hw, hl⟩ := hS.mapAt hm hq
          split at h
          · rename_i e hc hf; cases h
            have hc := Nat.eq_of_beq_eq_true hc; subst hc
            obtain ⟨x, h1, h2, h3⟩ := find_born' hl hf
            refine ⟨rfl, .tuple #[x.key, x.val], run_vN ?_, by simp [rabs, rabsL, h2, h3]⟩
            have hback : (⟨seen⟩ : Array Nat).back? = some st := by simpa using hst
            have hfind : (⟨l⟩ : Array MapEntry).find? (·.born == st) = some x := by simpa using h1
            simp only [Instr.entry, getObj, Sem.run_bind, Sem.run, ho, hw, Result.andThen, hback, bne_self_eq_false, Bool.false_eq_true, if_false, hfind]
            rfl
          · cases h
        · cases h
    · cases h
  · cases h

theorem ok_lenT {t R : TypeId} {x v : RV} {xv : Value} (hu : P.underlying t = some .string) (hx : rabs ad x = some xv) (h : evLen 0 x s = .val v s') : s' = s ∧ ReadOk P ad w (vN (Builtin.len_ #[t] R #[xv])) v := by
  unfold evLen at h
  simp only at h
  split at h
  · rename_i b; cases h
    have := abs_g hx; subst this
    refine ⟨rfl, (PureOk.of (x := goInt b.size) ?_ rfl).read w⟩
    simp [Builtin.len_, pureRun_bind, pr_underlying, hu, pr_pure]
  · cases h
theorem ok_lenS {t R e : TypeId} {x v : RV} {xv : Value} (hu : P.underlying t = some (.slice e)) (hx : rabs ad x = some xv) (h : evLen 1 x s = .val v s') : s' = s ∧ ReadOk P ad w (vN (Builtin.len_ #[t] R #[xv])) v := by
  unfold evLen at h
  simp only at h
  split at h
  · rename_i n c; cases h
    have := abs_g hx; subst this
    refine ⟨rfl, (PureOk.of (x := goInt n) ?_ rfl).read w⟩
    simp [Builtin.len_, pureRun_bind, pr_underlying, hu, pr_pure]
  · rename_i b off n c; cases h
    obtain ⟨p, hp, rfl, _⟩ := abs_sl hx
    refine ⟨rfl, (PureOk.of (x := goInt n) ?_ rfl).read w⟩
    simp [Builtin.len_, pureRun_bind, pr_underlying, hu, pr_pure]
  · rename_i b off off2 k l; cases h
    obtain ⟨p, hp, rfl⟩ := abs_rest hx
    refine ⟨rfl, (PureOk.of (x := goInt 0) ?_ rfl).read w⟩
    simp [Builtin.len_, pureRun_bind, pr_underlying, hu, pr_pure]
  · rename_i a n c; cases h
    have := abs_g hx; subst this
    refine ⟨rfl, (PureOk.of (x := goInt n) ?_ rfl).read w⟩
    simp [Builtin.len_, pureRun_bind, pr_underlying, hu, pr_pure]
  · cases h
theorem ok_lenM {t R k e : TypeId} {x v : RV} {xv : Value} (hu : P.underlying t = some (.map k e)) (hS : SR P ad s w) (hx : rabs ad x = some xv) (h : evLen 2 x s = .val v s') : s' = s ∧ ReadOk P ad w (vN (Builtin.len_ #[t] R #[xv])) v := by
  have hun : (underlying t).run P w = .ok (.map k e) w := pureRun_sound _ (by rw [pr_underlying, hu]) w
  unfold evLen at h
  simp only at h
  split at h
  · rename_i b
    split at h
    · rename_i es clock hb; cases h
      obtain ⟨p, hp, rfl⟩ := abs_mp hx
      obtain ⟨l, hw, hl⟩ := hS.mapAt hb hp
      refine ⟨rfl, goInt es.length, run_vN ?_, rfl⟩
      unfold Builtin.len_
      simp only [List.getElem?_toArray, List.getElem?_cons_zero]
      rw [run_ok hun]
      simp only
      rw [run_ok (run_getMap hw)]
      simp only [List.size_toArray, ents_len hl]
      rfl
    · cases h
  · cases h
    have := abs_g hx; subst this
    refine ⟨rfl, (PureOk.of (x := goInt 0) ?_ rfl).read w⟩
    simp [Builtin.len_, pureRun_bind, pr_underlying, hu, pr_pure]
  · cases h

theorem pr_map {α β : Type} (f : α → β) (x : Sem α) : pureRun P (Functor.map f x) = (pureRun P x).map f := by
  have := sem_lawful
  rw [map_eq_pure_bind, pureRun_bind]
  cases pureRun P x <;> rfl

theorem ok_tas {xT t : TypeId} {d : TypeDesc} {z : Value} {x v : RV} {xv : Value} (hu : P.underlying t = some d) (hd : ∀ m, d ≠ .interface m) (hz : cZero P t = some z) (hx : rabs ad x = some xv)
    (h : op_tas t z (.c .nilIface) (fun _ => x) s = .val v s') : s' = s ∧ PureOk P ad (vN (Instr.typeAssert xv xT t true)) v := by
  unfold op_tas at h
  split at h
  · rename_i t' y hxe
    subst hxe
    obtain ⟨yv, hy, rfl⟩ := abs_ifc hx
    split at h
    · rename_i hb; cases h
      have hb := Nat.eq_of_beq_eq_true hb; subst hb
      refine ⟨rfl, .of (x := .tuple #[yv, .bool true]) ?_ (by simp [rabs, rabsL, hy])⟩
      unfold Instr.typeAssert
      rw [pureRun_bind, pr_underlying, hu]
      cases d <;> first | exact absurd rfl (hd _) | simp [pr_pure]
    · rename_i hb; cases h
      have hb := Nat.ne_of_beq_eq_false hb
      refine ⟨rfl, .of (x := .tuple #[z, .bool false]) ?_ (by simp [rabs, rabsL])⟩
      unfold Instr.typeAssert
      rw [pureRun_bind, pr_underlying, hu]
      cases d <;> first | exact absurd rfl (hd _) | simp [pureRun_bind, hb, pr_zero, hz, pr_pure, pr_map]
  · rename_i hxe
    subst hxe; cases h
    have := abs_g hx; subst this
    refine ⟨rfl, .of (x := .tuple #[z, .bool false]) ?_ (by simp [rabs, rabsL])⟩
    unfold Instr.typeAssert
    rw [pureRun_bind, pr_underlying, hu]
    cases d <;> first | exact absurd rfl (hd _) | simp [pureRun_bind, pr_zero, hz, pr_pure, pr_map]
  · cases h

theorem ok_ext {x v : RV} {xv : Value} {i : Nat} (hx : rabs ad x = some xv) (h : op_ext (.c .nilIface) i (fun _ => x) s = .val v s') : s' = s ∧ PureOk P ad (vN (Instr.extract xv i)) v := by
  unfold op_ext at h
  split at h
  · rename_i l hxe
    subst hxe
    split at h
    · rename_i y hy; cases h
      obtain ⟨vs, hvs, rfl⟩ := abs_tup hx
      obtain ⟨z, h1, h2⟩ := rNth_abs hy hvs
      refine ⟨rfl, .of (x := z) ?_ h2⟩
      have : (⟨vs⟩ : Array Value)[i]? = some z := by simpa using h1
      simp only [Instr.extract, this, pr_pure]
    · cases h
  · rename_i vs hxe
    subst hxe
    have := abs_g hx; subst this
    split at h
    · rename_i y hy; cases h
      obtain ⟨z, h1, h2⟩ := rNth_abs (ad := ad) hy (gs_abs _)
      refine ⟨rfl, .of (x := z) ?_ h2⟩
      have : vs[i]? = some z := by simpa using h1
      simp only [Instr.extract, this, pr_pure]
    · cases h
  · cases h
end
end Go.Sh
end

section
/- The interpreter's operations are the model's: all of them. -/
set_option linter.unusedSimpArgs false
set_option linter.unusedVariables false
set_option maxHeartbeats 1000000
set_option linter.unusedSectionVars false
namespace Go.Sh
variable [Env]

def Callable (P : Program) (f : FuncId) : Prop := ∃ fn, P.funcs[f]? = some fn ∧ fn.body.isSome = true ∧ (fn.name == "runtime.NumGoroutine") = false

/-- 0: looks at no block, 1: reads, 2: acts -/
def cKind : COp → Nat
  | .mv _ | .pick _ _ _ | .build _ _ | .nilc _ | .bin _ _ _ _ _ _ _ | .un _ _ | .conv _ _ | .ifc _ _ | .fn _ _ _ | .slS _ _ _ _ _ | .slT _ _ _ | .fa _ _ | .fld _ _ _ | .ia _ _ _ | .iaa _ _ _ _ | .ix _ _ _ _ _ | .ixT _ _
  | .tas _ _ _ | .ext _ _ | .gen _ | .len 0 _ | .len 1 _ => 0
  | .load _ _ | .toStr _ | .look _ _ _ _ _ | .len _ _ | .ent _ => 1
  | _ => 2

section
variable {P : Program} {ad : List Pl} {s : RSt} {w : World}

def OpOk (P : Program) (ad : List Pl) (s : RSt) (w : World) (kind : Nat) (sem : Sem Next) : RO → Prop
  | .val v s' => (kind = 0 → s' = s ∧ PureOk P ad sem v) ∧ (kind = 1 → s' = s ∧ ReadOk P ad w sem v) ∧ ActOk P ad s w sem v s'
  | .skip s' => ∃ w', sem.run P w = .ok .skip w' ∧ SR P ad s' w' ∧ FR ad ad s s' w w'
  | .enter f args => Callable P f → ∃ xs, pureRun P sem = some (.enter f ⟨xs⟩) ∧ rabsL ad args = some xs
  | .panic v => ∃ x, sem.run P w = .halt (.panic x) w ∧ rabs ad v = some x
  | .dfr f args => ∃ caps as, sem.run P w = .ok (.defer { target := .fn (.func f) ⟨caps⟩, args := ⟨as⟩ }) w ∧ rabsL ad args = some (as ++ caps)
  | .bad _ => True

theorem ok0 {sem : Sem Next} {v : RV} {s' : RSt} {k : Nat} (hk : k = 0) (hS : SR P ad s w) (h : s' = s ∧ PureOk P ad sem v) : OpOk P ad s w k sem (.val v s') :=
  ⟨fun _ => h, fun h' => (by omega), by obtain ⟨rfl, h2⟩ := h; exact h2.act hS⟩
theorem ok1 {sem : Sem Next} {v : RV} {s' : RSt} {k : Nat} (hk : k = 1) (hS : SR P ad s w) (h : s' = s ∧ ReadOk P ad w sem v) : OpOk P ad s w k sem (.val v s') :=
  ⟨fun h' => (by omega), fun _ => h, by obtain ⟨rfl, h2⟩ := h; exact h2.act hS⟩
theorem ok2 {sem : Sem Next} {v : RV} {s' : RSt} {k : Nat} (hk : k = 2) (h : ActOk P ad s w sem v s') : OpOk P ad s w k sem (.val v s') :=
  ⟨fun h' => (by omega), fun h' => (by omega), h⟩

theorem ex_move {ρ : Operand → Value} (o : Oper) {x} (h : o.op = .move x) : execOp ρ o = pure (.value (ρ x)) := by unfold execOp; rw [h] <;> rfl
theorem ex_assign {ρ : Operand → Value} (o : Oper) {x} (h : o.op = .assign x) : execOp ρ o = pure (.value (ρ x)) := by unfold execOp; rw [h] <;> rfl
theorem ex_pick {ρ : Operand → Value} (o : Oper) {c} {a} {b} (h : o.op = .pick c a b) : execOp ρ o = (do pure (.value (if ← asBool (ρ c) then ρ a else ρ b))) := by unfold execOp; rw [h] <;> rfl
theorem ex_alloc {ρ : Operand → Value} (o : Oper) {t} (h : o.op = .alloc t) : execOp ρ o = vN (Instr.alloc t true (.tuple #[])) := by unfold execOp; rw [h] <;> rfl
theorem ex_box {ρ : Operand → Value} (o : Oper) {t} {x} (h : o.op = .box t x) : execOp ρ o = vN (Instr.box t (ρ x)) := by unfold execOp; rw [h] <;> rfl
theorem ex_build {ρ : Operand → Value} (o : Oper) {t} {parts} (h : o.op = .build t parts) : execOp ρ o = vN (Instr.build t (parts.map fun p => (p.1, ρ p.2))) := by unfold execOp; rw [h] <;> rfl
theorem ex_bsl {ρ : Operand → Value} (o : Oper) {t} {len} {parts} (h : o.op = .buildSlice t len parts) : execOp ρ o = vN (Instr.buildSlice t len (parts.map fun p => (p.1, ρ p.2))) := by unfold execOp; rw [h] <;> rfl
theorem ex_load {ρ : Operand → Value} (o : Oper) {t} {a} (h : o.op = .load t a) : execOp ρ o = vN (Instr.loadAt t (ρ a)) := by unfold execOp; rw [h] <;> rfl
theorem ex_store {ρ : Operand → Value} (o : Oper) {t} {a} {x} (h : o.op = .store t a x) : execOp ρ o = uN (Instr.storeAt t (ρ a) (ρ x)) := by unfold execOp; rw [h] <;> rfl
theorem ex_bin {ρ : Operand → Value} (o : Oper) {op} {t} {x} {y} {m} (h : o.op = .binOp op t x y m) : execOp ρ o = vN (do eqGuard op t x y (ρ x) (ρ y); binOp op t (ρ x) (ρ y)) := by unfold execOp; rw [h] <;> rfl
theorem ex_un {ρ : Operand → Value} (o : Oper) {op} {t} {x} (h : o.op = .unOp op t x) : execOp ρ o = vN (Op.unary op (ρ x)) := by unfold execOp; rw [h] <;> rfl
theorem ex_conv {ρ : Operand → Value} (o : Oper) {a} {b} {x} (h : o.op = .convert a b x) : execOp ρ o = vN (convert a b (ρ x)) := by unfold execOp; rw [h] <;> rfl
theorem ex_ifc {ρ : Operand → Value} (o : Oper) {t} {x} (h : o.op = .makeInterface t x) : execOp ρ o = vN (Instr.makeInterface t (ρ x)) := by unfold execOp; rw [h] <;> rfl
theorem ex_fn {ρ : Operand → Value} (o : Oper) {f} {a} {b} (h : o.op = .makeFunc f a b) : execOp ρ o = vN (Instr.makeFunc f (a.map ρ) (b.map ρ)) := by unfold execOp; rw [h] <;> rfl
theorem ex_mkmap {ρ : Operand → Value} (o : Oper) {t} (h : o.op = .makeMap t none) : execOp ρ o = vN (Instr.makeMap t none) := by unfold execOp; rw [h] <;> rfl
theorem ex_mksl {ρ : Operand → Value} (o : Oper) {t} {l} {c} (h : o.op = .makeSlice t l c) : execOp ρ o = vN (Instr.makeSlice t (ρ l) (ρ c)) := by unfold execOp; rw [h] <;> rfl
theorem ex_slice {ρ : Operand → Value} (o : Oper) {t} {x} {lo} {hi} {mx} (h : o.op = .slice t x lo hi mx) : execOp ρ o = vN (Instr.sliceAt t (ρ x) (lo.map ρ) (hi.map ρ) (mx.map ρ)) := by unfold execOp; rw [h] <;> rfl
theorem ex_fa {ρ : Operand → Value} (o : Oper) {t} {x} {f} (h : o.op = .fieldAddr t x f) : execOp ρ o = vN (Instr.fieldAt t (ρ x) f) := by unfold execOp; rw [h] <;> rfl
theorem ex_fld {ρ : Operand → Value} (o : Oper) {t} {x} {f} (h : o.op = .field t x f) : execOp ρ o = vN (Instr.field t (ρ x) f) := by unfold execOp; rw [h] <;> rfl
theorem ex_ia {ρ : Operand → Value} (o : Oper) {t} {x} {i} (h : o.op = .indexAddr t x i) : execOp ρ o = vN (Instr.indexAt t (ρ x) (ρ i)) := by unfold execOp; rw [h] <;> rfl
theorem ex_ix {ρ : Operand → Value} (o : Oper) {t} {x} {i} (h : o.op = .index t x i) : execOp ρ o = vN (Instr.index t (ρ x) (ρ i)) := by unfold execOp; rw [h] <;> rfl
theorem ex_look {ρ : Operand → Value} (o : Oper) {t} {m} {k} {b} (h : o.op = .lookup t m k b) : execOp ρ o = vN (Instr.lookup t (ρ m) (ρ k) b) := by unfold execOp; rw [h] <;> rfl
theorem ex_upd {ρ : Operand → Value} (o : Oper) {t} {m} {k} {v} (h : o.op = .mapUpdate t m k v) : execOp ρ o = uN (Instr.mapUpdate t (ρ m) (ρ k) (ρ v)) := by unfold execOp; rw [h] <;> rfl
theorem ex_ins {ρ : Operand → Value} (o : Oper) {t} {m} {k} {v} (h : o.op = .insert t m k v) : execOp ρ o = uN (Instr.mapUpdate t (ρ m) (ρ k) (ρ v)) := by unfold execOp; rw [h] <;> rfl
theorem ex_rng {ρ : Operand → Value} (o : Oper) {t} {x} (h : o.op = .range t x) : execOp ρ o = vN (Instr.range t (ρ x)) := by unfold execOp; rw [h] <;> rfl
theorem ex_nxt {ρ : Operand → Value} (o : Oper) {x} {b} (h : o.op = .next x b) : execOp ρ o = vN (Instr.next (ρ x) b o.type) := by unfold execOp; rw [h] <;> rfl
theorem ex_ent {ρ : Operand → Value} (o : Oper) {x} (h : o.op = .entry x) : execOp ρ o = vN (Instr.entry (ρ x)) := by unfold execOp; rw [h] <;> rfl
theorem ex_tas {ρ : Operand → Value} (o : Oper) {x} {t} {u} {b} (h : o.op = .typeAssert x t u b) : execOp ρ o = vN (Instr.typeAssert (ρ x) t u b) := by unfold execOp; rw [h] <;> rfl
theorem ex_ext {ρ : Operand → Value} (o : Oper) {x} {i} (h : o.op = .extract x i) : execOp ρ o = vN (Instr.extract (ρ x) i) := by unfold execOp; rw [h] <;> rfl
theorem ex_call {ρ : Operand → Value} (o : Oper) {c} (h : o.op = .call c) : execOp ρ o = (do let d ← resolve ρ c o.type; invoke d.target d.args) := by unfold execOp; rw [h] <;> rfl
theorem ex_defer {ρ : Operand → Value} (o : Oper) {c} (h : o.op = .defer c) : execOp ρ o = (do pure (.defer (← resolve ρ c o.type))) := by unfold execOp; rw [h] <;> rfl
theorem ex_panic {ρ : Operand → Value} (o : Oper) {x} (h : o.op = .panic x) : execOp ρ o = vN (Instr.panic (ρ x)) := by unfold execOp; rw [h] <;> rfl

def VB : RO → Prop
  | .val _ _ => True
  | .bad _ => True
  | _ => False
theorem of0 {r : RO} {sem : Sem Next} {k : Nat} (hv : VB r) (hk : k = 0) (hS : SR P ad s w) (h : ∀ v s', r = .val v s' → s' = s ∧ PureOk P ad sem v) : OpOk P ad s w k sem r := by
  cases r with
  | val v s' => exact ok0 hk hS (h v s' rfl)
  | bad _ => trivial
  | _ => exact hv.elim
theorem of1 {r : RO} {sem : Sem Next} {k : Nat} (hv : VB r) (hk : k = 1) (hS : SR P ad s w) (h : ∀ v s', r = .val v s' → s' = s ∧ ReadOk P ad w sem v) : OpOk P ad s w k sem r := by
  cases r with
  | val v s' => exact ok1 hk hS (h v s' rfl)
  | bad _ => trivial
  | _ => exact hv.elim
theorem of2 {r : RO} {sem : Sem Next} {k : Nat} (hv : VB r) (hk : k = 2) (h : ∀ v s', r = .val v s' → ActOk P ad s w sem v s') : OpOk P ad s w k sem r := by
  cases r with
  | val v s' => exact ok2 hk (h v s' rfl)
  | bad _ => trivial
  | _ => exact hv.elim

def ER (ad : List Pl) (ρ : CEnv) (ρ' : Operand → Value) : Prop := ∀ x c, cOpd x = some c → rabs ad (ρ c) = some (ρ' x)

theorem oMapOpd {ρ : CEnv} {ρ' : Operand → Value} (hρ : ER ad ρ ρ') : ∀ {l : List Operand} {m : List COpd}, oMap cOpd l = some m → rabsL ad (m.map ρ) = some (l.map ρ')
  | [], m, h => by simp only [oMap] at h; cases h; rfl
  | x :: r, m, h => by
    simp only [oMap] at h
    split at h
    · rename_i y l h1 h2; cases h
      exact rabsL_cons.2 ⟨_, _, hρ _ _ h1, oMapOpd hρ h2, rfl⟩
    · cases h

/-- a call of a function value -/
theorem callee_abs {f : RV} {fv : Value} {args : List RV} {avs : List Value} {g : FuncId} {xs : List RV} (hf : rabs ad f = some fv) (ha : rabsL ad args = some avs) (h : evCallee f args = .enter g xs) :
    ∃ caps as, (Deferred.ofValue fv ⟨avs⟩ = pure { target := .fn (.func g) ⟨caps⟩, args := ⟨as⟩ }) ∧ rabsL ad xs = some (as ++ caps) := by
  unfold evCallee at h
  split at h
  · cases h
    obtain ⟨y, z, hy, hz, rfl⟩ := abs_fn hf
    exact ⟨z, y ++ avs, by simp [Deferred.ofValue], absL_app (absL_app hy ha) hz⟩
  · rename_i fc cp
    cases h
    have := abs_g hf; subst this
    refine ⟨cp.toList, fc.toList ++ avs, ?_, absL_app (absL_app (gs_abs _) ha) (gs_abs _)⟩
    simp only [Deferred.ofValue]
    congr 2
    apply Array.ext'
    simp
  · cases h

theorem run_callFunc {g : FuncId} {args : Array Value} (h : Callable P g) : pureRun P (callFunc g args) = some (.enter g args) := by
  obtain ⟨fn, h1, h2, h3⟩ := h
  unfold callFunc
  simp only [pureRun_bind, program, pureRun, Option.bind_some, h1]
  have h4 : fn.body.isNone = false := by cases hb : fn.body <;> simp_all
  simp [h3, h4, pr_pure]

theorem invoke_ok {g : FuncId} {as caps : List Value} (h : Callable P g) : pureRun P (invoke (.fn (.func g) ⟨caps⟩) ⟨as⟩) = some (.enter g ⟨as ++ caps⟩) := by
  unfold invoke
  simp only
  rw [run_callFunc h]
  simp

theorem gOf_congr {ρ : CEnv} {ρ' : Operand → Value} (hρ : ER ad ρ ρ') {x : Operand} (h : (gOf ρ x).isSome = true) : (gOf ρ x).getD undef = ρ' x := by
  unfold gOf at h ⊢
  split at h
  · rename_i c hc
    cases hg : (ρ c).toG with
    | none => rw [hg] at h; cases h
    | some v =>
      simp only [Option.getD_some]
      exact (toG_eq hg (hρ _ _ hc)).symm
  · cases h
end
end Go.Sh
end

section
/- What is laid out is the model's: each operation. -/
set_option linter.unusedSimpArgs false
set_option linter.unusedVariables false
set_option maxHeartbeats 2000000
set_option linter.unusedSectionVars false
namespace Go.Sh
variable [Env]

section
variable {P : Program} {ad : List Pl} {s : RSt} {w : World} {ρ : CEnv} {ρ' : Operand → Value}

theorem fill_eq {f g : RO} (h : f = g) : f = g := h

theorem snd_move {x : Operand} {cx : COpd} (h : cOpd x = some cx) (hρ : ER ad ρ ρ') (hS : SR P ad s w) : OpOk P ad s w 0 (pure (.value (ρ' x))) (.val (ρ cx) s) :=
  ok0 rfl hS ⟨rfl, ρ' x, rfl, hρ _ _ h⟩

theorem snd_pick {c a b : Operand} {cc ca cb : COpd} (hc : cOpd c = some cc) (ha : cOpd a = some ca) (hb : cOpd b = some cb) (hρ : ER ad ρ ρ') (hS : SR P ad s w) :
    OpOk P ad s w 0 (do pure (.value (if ← asBool (ρ' c) then ρ' a else ρ' b))) (op_pick cc ca cb ρ s) := by
  refine of0 (by unfold op_pick; (repeat' split) <;> trivial) rfl hS fun v s' h => ?_
  unfold op_pick at h
  split at h
  · rename_i hv; cases h
    have := hρ _ _ hc; rw [hv] at this; have := abs_g this
    refine ⟨rfl, ρ' a, ?_, hρ _ _ ha⟩
    rw [this]; rfl
  · rename_i hv; cases h
    have := hρ _ _ hc; rw [hv] at this; have := abs_g this
    refine ⟨rfl, ρ' b, ?_, hρ _ _ hb⟩
    rw [this]; rfl
  · cases h

theorem snd_nilc {x : Operand} {cx : COpd} {o : Oper} (ho : o.op = .nilCheck x) (hx : cOpd x = some cx) (hρ : ER ad ρ ρ') (hS : SR P ad s w) : OpOk P ad s w 0 (execOp ρ' o) (op_nilc cx ρ s) := by
  refine of0 (by unfold op_nilc; (repeat' split) <;> trivial) rfl hS fun v s' h => ?_
  have hx' := hρ _ _ hx
  have key : ∀ y, ρ' x = y → (∀ f a c, y = .func f a c → ∃ g, f = .func g) → (y ≠ .pointer none) → (y ≠ .nilIface) → (y ≠ .nilFunc) → pureRun P (execOp ρ' o) = some (.value y) := by
    intro y hy h1 h2 h3 h4
    unfold execOp
    rw [ho]
    simp only [hy]
    split
    · exact absurd rfl h2
    · exact absurd rfl h3
    · exact absurd rfl h4
    · obtain ⟨g, hg⟩ := h1 _ _ _ rfl; cases hg
    · rfl
  unfold op_nilc at h
  split at h
  · rename_i b off hv; cases h
    rw [hv] at hx'
    obtain ⟨p, hp, he⟩ := abs_ptr hx'
    exact ⟨rfl, _, key _ rfl (fun f a c h => by rw [he] at h; cases h) (by rw [he]; simp) (by rw [he]; simp) (by rw [he]; simp), hx'⟩
  · rename_i f a c hv; cases h
    rw [hv] at hx'
    obtain ⟨_, _, _, _, he⟩ := abs_fn hx'
    exact ⟨rfl, _, key _ rfl (fun f' a c h => by rw [he] at h; cases h; exact ⟨f, rfl⟩) (by rw [he]; simp) (by rw [he]; simp) (by rw [he]; simp), hx'⟩
  · rename_i f a c hv; cases h
    rw [hv] at hx'
    have he := abs_g hx'
    exact ⟨rfl, _, key _ rfl (fun f' a c h => by rw [he] at h; cases h; exact ⟨f, rfl⟩) (by rw [he]; simp) (by rw [he]; simp) (by rw [he]; simp), hx'⟩
  · cases h

theorem snd_gen {o : Oper} (hs : ∀ cs b, o.op ≠ .select cs b) (hρ : ER ad ρ ρ') (hS : SR P ad s w) : OpOk P ad s w 0 (execOp ρ' o) (evG P ρ o s) := by
  refine of0 (by unfold evG; (repeat' split) <;> trivial) rfl hS fun v s' h => ?_
  unfold evG at h
  split at h
  · rename_i hall
    split at h
    · rename_i x hx; cases h
      refine ⟨rfl, x, ?_, rfl⟩
      rw [← hx]
      congr 1
      apply execOp_congr o hs
      intro y hy
      exact (gOf_congr hρ (List.all_eq_true.1 hall y (by simpa using hy))).symm
    · cases h
  · cases h

theorem snd_call {f : RV} {fv : Value} {args : List Operand} {cargs : List COpd} (hf : rabs ad f = some fv) (ha : oMap cOpd args = some cargs) (hρ : ER ad ρ ρ') (hS : SR P ad s w) :
    OpOk P ad s w 2 (do let d ← Deferred.ofValue fv ⟨args.map ρ'⟩; invoke d.target d.args) (evCallee f (cargs.map ρ)) := by
  cases hr : evCallee f (cargs.map ρ) with
  | enter g xs =>
    intro hg
    obtain ⟨caps, as, h1, h2⟩ := callee_abs hf (oMapOpd hρ ha) hr
    refine ⟨as ++ caps, ?_, h2⟩
    rw [h1]
    exact invoke_ok hg
  | bad _ => trivial
  | _ => unfold evCallee at hr; (repeat' split at hr) <;> cases hr

theorem snd_dfr {f : RV} {fv : Value} {args : List Operand} {cargs : List COpd} (hf : rabs ad f = some fv) (ha : oMap cOpd args = some cargs) (hρ : ER ad ρ ρ') (hS : SR P ad s w) :
    OpOk P ad s w 2 (do pure (.defer (← Deferred.ofValue fv ⟨args.map ρ'⟩))) (match evCallee f (cargs.map ρ) with | .enter f args => .dfr f args | _ => .bad "defer of what") := by
  cases hr : evCallee f (cargs.map ρ) with
  | enter g xs =>
    obtain ⟨caps, as, h1, h2⟩ := callee_abs hf (oMapOpd hρ ha) hr
    refine ⟨caps, as, ?_, h2⟩
    rw [h1]; rfl
  | _ => trivial

theorem snd_fn {f : Fn} {a b : List Operand} {ca cb : List COpd} (ha : oMap cOpd a = some ca) (hb : oMap cOpd b = some cb) (hρ : ER ad ρ ρ') (hS : SR P ad s w) :
    OpOk P ad s w 0 (vN (Instr.makeFunc f ⟨a.map ρ'⟩ ⟨b.map ρ'⟩)) (.val (.fn f (ca.map ρ) (cb.map ρ)) s) :=
  ok0 rfl hS ⟨rfl, .of (x := .func f ⟨a.map ρ'⟩ ⟨b.map ρ'⟩) rfl (by simp only [rabs, oMapOpd hρ ha, oMapOpd hρ hb])⟩

theorem snd_ifc {t : TypeId} {d : TypeDesc} {x : Operand} {cx : COpd} (hu : P.underlying t = some d) (hd : ∀ m, d ≠ .interface m) (hx : cOpd x = some cx) (hρ : ER ad ρ ρ') (hS : SR P ad s w) :
    OpOk P ad s w 0 (vN (Instr.makeInterface t (ρ' x))) (.val (.ifc t (ρ cx)) s) := by
  refine ok0 rfl hS ⟨rfl, .of (x := .iface t (ρ' x)) ?_ (by simp only [rabs, hρ _ _ hx])⟩
  unfold Instr.makeInterface
  rw [pureRun_bind, pr_underlying, hu]
  cases d <;> first | exact absurd rfl (hd _) | rfl

theorem snd_panic {x : Operand} {cx : COpd} (hx : cOpd x = some cx) (hρ : ER ad ρ ρ') (hS : SR P ad s w) : OpOk P ad s w 2 (vN (Instr.panic (ρ' x))) (op_panic cx ρ s) := by
  unfold op_panic
  split
  · rename_i t v hv
    have := hρ _ _ hx; rw [hv] at this
    obtain ⟨y, hy, he⟩ := abs_ifc this
    refine ⟨ρ' x, ?_, this⟩
    rw [he]; rfl
  · trivial
end
end Go.Sh
end

section
/- What is laid out is the model's: an operation, whatever it is. -/
set_option linter.unusedSimpArgs false
set_option linter.unusedVariables false
set_option maxHeartbeats 4000000
set_option linter.unusedSectionVars false
namespace Go.Sh
variable [Env]

section
variable {P : Program} {ad : List Pl} {s : RSt} {w : World} {ρ : CEnv} {ρ' : Operand → Value}

theorem arr_map (l : Array Operand) : (l.map ρ') = ⟨l.toList.map ρ'⟩ := by apply Array.ext'; simp

theorem builtin_sound {o : Oper} {k : Call} {b : Builtin} {c : COp} {cargs : List COpd} (ho : o.op = .call k) (hb : k.callee = .builtin b) (ha : oMap cOpd k.args.toList = some cargs) (hc : cBuiltin P o b k.argTypes.toList cargs = some c)
    (hρ : ER ad ρ ρ') (hS : SR P ad s w) : OpOk P ad s w (cKind c) (execOp ρ' o) (evOp P ρ c s) := by
  have hsel : ∀ cs b, o.op ≠ .select cs b := fun cs b h => by rw [ho] at h; cases h
  have hex : execOp ρ' o = builtin b k.argTypes o.type (k.args.map fun | .const _ => true | _ => false) (k.args.map ρ') := by
    rw [ex_call o ho]
    unfold resolve
    rw [hb]; rfl
  have hargs : rabsL ad (cargs.map ρ) = some (k.args.toList.map ρ') := oMapOpd hρ ha
  have two : ∀ {x y : COpd}, cargs = [x, y] → ∃ xv yv, k.args.map ρ' = #[xv, yv] ∧ rabs ad (ρ x) = some xv ∧ rabs ad (ρ y) = some yv := fun {x y} h => by
    subst h
    obtain ⟨xv, l, h1, h2, h3⟩ := rabsL_cons.1 hargs
    obtain ⟨yv, l', h4, h5, h6⟩ := rabsL_cons.1 h2
    simp only [List.map_nil, rabsL] at h5; cases h5
    subst h6
    exact ⟨xv, yv, by rw [arr_map, h3], h1, h4⟩
  have one : ∀ {x : COpd}, cargs = [x] → ∃ xv, k.args.map ρ' = #[xv] ∧ rabs ad (ρ x) = some xv := fun {x} h => by
    subst h
    obtain ⟨xv, l, h1, h2, h3⟩ := rabsL_cons.1 hargs
    simp only [List.map_nil, rabsL] at h2; cases h2
    exact ⟨xv, by rw [arr_map, h3], h1⟩
  unfold cBuiltin at hc
  split at hc
  · -- append
    rename_i t u x y hts
    have hty : k.argTypes = #[t, u] := by apply Array.ext'; simpa using hts
    obtain ⟨xv, yv, hav, hx, hy⟩ := two rfl
    have main : ∀ (e : TypeId), P.underlying t = some (.slice e) → (∃ d, P.underlying u = some d ∧ ∀ k, d ≠ .int k) → (match P.info? e with
          | some i => match Nat.ble i.bytes 10000, i.size with
            | true, n + 1 => match i.zero with
              | some z => match Nat.beq z.cells.size (n + 1) with
                | true => some (COp.app e (n + 1) x y)
                | false => none
              | none => none
            | _, _ => none
          | none => none) = some c → OpOk P ad s w (cKind c) (execOp ρ' o) (evOp P ρ c s) := by
      intro e hu hd hc
      split at hc
      · rename_i i hi
        split at hc
        · rename_i n hb1 hsz
          split at hc
          · rename_i z hz
            split at hc
            · rename_i hzs; cases hc
              have hT : AppT P t u e n := ⟨hu, hd, by unfold cSize; rw [hi]; simp [hsz], ⟨i, hi, Nat.le_of_ble_eq_true hb1⟩, ⟨z, by unfold cZero; rw [hi]; exact hz, Nat.eq_of_beq_eq_true hzs⟩⟩
              rw [hex, hty, hav]
              exact of2 (by show VB (evApp e (n + 1) (ρ x) (ρ y) s); unfold evApp; (repeat' split) <;> trivial) rfl fun v s' h => ok_app hT hS hx hy h
            · cases hc
          · cases hc
        · cases hc
      · cases hc
    split at hc
    · rename_i e _ hu hu2; exact main e hu ⟨_, hu2, fun k h => by cases h⟩ hc
    · rename_i e hu hu2; exact main e hu ⟨_, hu2, fun k h => by cases h⟩ hc
    · cases hc
  · -- copy
    rename_i t u x y hts
    have hty : k.argTypes = #[t, u] := by apply Array.ext'; simpa using hts
    obtain ⟨xv, yv, hav, hx, hy⟩ := two rfl
    split at hc
    · rename_i e hu
      split at hc
      · rename_i n hn; cases hc
        rw [hex, hty, hav]
        exact of2 (by show VB (evCpy n (ρ x) (ρ y) s); unfold evCpy; (repeat' split) <;> trivial) rfl fun v s' h => ok_cpy hu hn hS hx hy h
      · cases hc
    · cases hc
  · -- len
    rename_i t x hts
    have hty : k.argTypes = #[t] := by apply Array.ext'; simpa using hts
    obtain ⟨xv, hav, hx⟩ := one rfl
    split at hc
    · rename_i hu; cases hc
      rw [hex, hty, hav]
      refine of0 (by show VB (evLen 0 (ρ x) s); unfold evLen; (repeat' split) <;> trivial) rfl hS fun v s' h => ?_
      have h : evLen 0 (ρ x) s = .val v s' := h
      unfold evLen at h
      simp only at h
      split at h
      · rename_i b hv; cases h
        rw [hv] at hx; have := abs_g hx; subst this
        refine ⟨rfl, .of (x := goInt b.size) ?_ rfl⟩
        simp [Builtin.len_, pureRun_bind, pr_underlying, hu, pr_pure]
      · cases h
    · rename_i e hu; cases hc
      rw [hex, hty, hav]
      refine of0 (by show VB (evLen 1 (ρ x) s); unfold evLen; (repeat' split) <;> trivial) rfl hS fun v s' h => ?_
      have h : evLen 1 (ρ x) s = .val v s' := h
      unfold evLen at h
      simp only at h
      split at h
      · rename_i n cp hv; cases h
        rw [hv] at hx; have := abs_g hx; subst this
        refine ⟨rfl, .of (x := goInt n) ?_ rfl⟩
        simp [Builtin.len_, pureRun_bind, pr_underlying, hu, pr_pure]
      · rename_i bb off n cp hv; cases h
        rw [hv] at hx; obtain ⟨p, hp, he, _⟩ := abs_sl hx; subst he
        refine ⟨rfl, .of (x := goInt n) ?_ rfl⟩
        simp [Builtin.len_, pureRun_bind, pr_underlying, hu, pr_pure]
      · rename_i bb off off2 kk l hv; cases h
        rw [hv] at hx; obtain ⟨p, hp, he⟩ := abs_rest hx; subst he
        refine ⟨rfl, .of (x := goInt 0) ?_ rfl⟩
        simp [Builtin.len_, pureRun_bind, pr_underlying, hu, pr_pure]
      · rename_i aa n cp hv; cases h
        rw [hv] at hx; have := abs_g hx; subst this
        refine ⟨rfl, .of (x := goInt n) ?_ rfl⟩
        simp [Builtin.len_, pureRun_bind, pr_underlying, hu, pr_pure]
      · cases h
    · rename_i kt e hu; cases hc
      rw [hex, hty, hav]
      exact of1 (by show VB (evLen 2 (ρ x) s); unfold evLen; (repeat' split) <;> trivial) rfl hS fun v s' h => ok_lenM hu hS hx h
    · cases hc
  · -- delete
    rename_i t ts m kx hts
    have hty : k.argTypes[0]? = some t := by rw [← Array.getElem?_toList, hts]; rfl
    obtain ⟨xv, yv, hav, hx, hy⟩ := two rfl
    split at hc
    · rename_i kt e hu
      split at hc
      · rename_i ki hk; cases hc
        rw [hex, hav]
        exact of2 (by show VB (evDel (.int ki) (ρ m) (ρ kx) s); unfold evDel; (repeat' split) <;> trivial) rfl fun v s' h => ok_del (T2 := 0) hty hu (.int hk) hS hx hy h
      · rename_i hk; cases hc
        rw [hex, hav]
        exact of2 (by show VB (evDel .string (ρ m) (ρ kx) s); unfold evDel; (repeat' split) <;> trivial) rfl fun v s' h => ok_del (T2 := 0) hty hu (.str hk) hS hx hy h
      · cases hc
    · cases hc
  · cases hc; exact snd_gen hsel hρ hS
  · cases hc; exact snd_gen hsel hρ hS
  · cases hc

theorem compOp_sound {o : Oper} {c : COp} (hc : compOp P o = some c) (hEf : ∀ f, ρ' (.func f) = .func (.func f) #[] #[]) (hρ : ER ad ρ ρ') (hS : SR P ad s w) : OpOk P ad s w (cKind c) (execOp ρ' o) (evOp P ρ c s) := by
  unfold compOp at hc
  split at hc
  · -- move
    rename_i x ho
    split at hc
    · rename_i cx hx; cases hc; rw [ex_move o ho]; exact snd_move hx hρ hS
    · cases hc
  · rename_i x ho
    split at hc
    · rename_i cx hx; cases hc; rw [ex_assign o ho]; exact snd_move hx hρ hS
    · cases hc
  · rename_i a b d ho
    split at hc
    · rename_i h1 h2 h3; cases hc; rw [ex_pick o ho]; exact snd_pick h1 h2 h3 hρ hS
    · cases hc
  · rename_i t ho
    split at hc
    · rename_i z hz; cases hc; rw [ex_alloc o ho]; exact ok2 rfl (ok_new hz hS)
    · cases hc
  · rename_i t x ho
    split at hc
    · rename_i cx hx; cases hc; rw [ex_box o ho]; exact ok2 rfl (ok_box (hρ _ _ hx) hS)
    · cases hc
  · -- build
    rename_i t parts ho
    split at hc
    · rename_i fields z hu hz
      split at hc
      · rename_i ps szs hps hszs; cases hc
        rw [ex_build o ho]
        refine of0 (by show VB (op_build z.cells.toList ps ρ s); unfold op_build; (repeat' split) <;> trivial) rfl hS fun v s' h => ?_
        have h : op_build z.cells.toList ps ρ s = .val v s' := h
        unfold op_build at h
        split at h
        · rename_i c' hc'; cases h
          exact ⟨rfl, ok_build hu hz hps hszs hρ hc'⟩
        · cases h
      · cases hc
    · rename_i len e z hu hz
      split at hc
      · rename_i n hn
        split at hc
        · rename_i ps hps; cases hc
          rw [ex_build o ho]
          refine of0 (by show VB (op_build z.cells.toList ps ρ s); unfold op_build; (repeat' split) <;> trivial) rfl hS fun v s' h => ?_
          have h : op_build z.cells.toList ps ρ s = .val v s' := h
          unfold op_build at h
          split at h
          · rename_i c' hc'; cases h
            exact ⟨rfl, ok_buildA hu hz hn hps hρ hc'⟩
          · cases h
        · cases hc
      · cases hc
    · cases hc
  · -- buildSlice
    rename_i t len parts ho
    split at hc
    · rename_i e hu
      split at hc
      · rename_i n z hn hz
        split at hc
        · rename_i ps hps hle hzs; cases hc
          rw [ex_bsl o ho]
          refine of2 (by show VB (op_bsl e (rZ z.cells.toList len) len ps ρ s); unfold op_bsl; (repeat' split) <;> trivial) rfl fun v s' h => ?_
          have h : op_bsl e (rZ z.cells.toList len) len ps ρ s = .val v s' := h
          unfold op_bsl at h
          split at h
          · rename_i c' hc'; cases h
            exact ok_bsl hu hz hn hps (Nat.le_of_ble_eq_true hle) (Nat.eq_of_beq_eq_true hzs) hρ hc' hS
          · cases h
        · cases hc
      · cases hc
    · cases hc
  · rename_i t a ho
    split at hc
    · rename_i p ca hp ha; cases hc; rw [ex_load o ho]
      exact of1 (by show VB (evLoad p (ρ ca) s); unfold evLoad; (repeat' split) <;> trivial) rfl hS fun v s' h => ok_load hp hS (hρ _ _ ha) h
    · cases hc
  · rename_i t a x ho
    split at hc
    · rename_i n ca cx hn ha hx; cases hc; rw [ex_store o ho]
      show OpOk P ad s w 2 _ (evStore n (ρ ca) (ρ cx) s)
      cases hr : evStore n (ρ ca) (ρ cx) s with
      | skip s' => exact ok_store hn hS (hρ _ _ ha) (hρ _ _ hx) hr
      | bad _ => trivial
      | _ => unfold evStore at hr; (repeat' split at hr) <;> cases hr
    · cases hc
  · rename_i x ho
    split at hc
    · rename_i cx hx; cases hc; exact snd_nilc ho hx hρ hS
    · cases hc
  · rename_i op t x y m ho
    split at hc
    · rename_i cx cy hx hy; cases hc; rw [ex_bin o ho]
      refine of0 (by show VB (evBin P op (nilKind P t) t x y (ρ cx) (ρ cy) s); unfold evBin evBinG evEq; (repeat' split) <;> trivial) rfl hS fun v s' h => ok_bin (hρ _ _ hx) (hρ _ _ hy) h
    · cases hc
  · rename_i op t x ho
    split at hc
    · rename_i cx hx; cases hc; rw [ex_un o ho]
      exact of0 (by show VB (evUn P op (ρ cx) s); unfold evUn; (repeat' split) <;> trivial) rfl hS fun v s' h => ok_un (hρ _ _ hx) h
    · cases hc
  · -- convert
    rename_i src dst x ho
    split at hc
    · rename_i k' k cx hs hd hx; cases hc; rw [ex_conv o ho]
      exact of0 (by show VB (evConv k (ρ cx) s); unfold evConv; (repeat' split) <;> trivial) rfl hS fun v s' h => ok_conv hs hd (hρ _ _ hx) h
    · rename_i e cx hs hd hx
      split at hc
      · rename_i he; cases hc; rw [ex_conv o ho]
        exact of1 (by show VB (evToStr (ρ cx) s); unfold evToStr; (repeat' split) <;> trivial) rfl hS fun v s' h => ok_toStr hs he hd hS (hρ _ _ hx) h
      · cases hc
    · rename_i e cx hs hd hx
      split at hc
      · rename_i he
        split at hc
        · rename_i i hi
          split at hc
          · rename_i hn hb; cases hc; rw [ex_conv o ho]
            exact of2 (by show VB (evToBytes e (ρ cx) s); unfold evToBytes; (repeat' split) <;> trivial) rfl fun v s' h =>
              ok_toBytes hs hd he (by unfold cSize; rw [hi]; simpa using Nat.eq_of_beq_eq_true hn) hS (hρ _ _ hx) h
          · cases hc
        · cases hc
      · cases hc
    · cases hc
  · rename_i t x ho
    split at hc
    · cases hc
    · rename_i d cx hn hu hx; cases hc; rw [ex_ifc o ho]
      exact snd_ifc hu (fun m h => hn m h) hx hρ hS
    · cases hc
  · rename_i f a b ho
    split at hc
    · rename_i ca cb ha hb; cases hc; rw [ex_fn o ho, arr_map, arr_map]; exact snd_fn ha hb hρ hS
    · cases hc
  · rename_i t ho; cases hc; rw [ex_mkmap o ho]; exact ok2 rfl (ok_mkmap hS)
  · -- makeSlice
    rename_i t l c' ho
    split at hc
    · rename_i e cl cc hu hl hcc
      split at hc
      · rename_i i hi
        split at hc
        · rename_i z n hz hn
          split at hc
          · rename_i hzs; cases hc; rw [ex_mksl o ho]
            exact of2 (by show VB (evMksl e z.cells.toList i.bytes (ρ cl) (ρ cc) s); unfold evMksl; (repeat' split) <;> trivial) rfl fun v s' h =>
              ok_mksl hu hi hz hn (Nat.eq_of_beq_eq_true hzs) hS (hρ _ _ hl) (hρ _ _ hcc) h
          · cases hc
        · cases hc
      · cases hc
    · cases hc
  · -- slice
    rename_i t x lo hi mx ho
    split at hc
    · rename_i cx clo chi hu hx hlo hhi hmx; cases hc; rw [ex_slice o ho]
      have hm : mx = none := by
        unfold cOpt at hmx; split at hmx
        · rfl
        · split at hmx <;> cases hmx
      subst hm
      exact of0 (by show VB (evSlT ρ (ρ cx) clo chi s); unfold evSlT; (repeat' split) <;> trivial) rfl hS fun v s' h => ok_slT hu hlo hhi hρ (hρ _ _ hx) h
    · rename_i e cx clo chi cmx hu hx hlo hhi hmx
      split at hc
      · cases hc
      · rename_i cmx chi _ _ _ n hn hne; cases hc; rw [ex_slice o ho]
        refine of0 (by show VB (evSlS ρ n (ρ cx) clo chi cmx s); unfold evSlS; (repeat' split) <;> trivial) rfl hS fun v s' h => ok_slS hu hn hlo hhi hmx ?_ hρ (hρ _ _ hx) h
        cases cmx with
        | none => exact .inl rfl
        | some m => exact .inr fun hc2 => hne _ rfl hc2
      · cases hc
    · cases hc
  · rename_i t x f ho
    split at hc
    · rename_i fields cx hu hx
      split at hc
      · rename_i fd hfd
        split at hc
        · rename_i m hm; cases hc; rw [ex_fa o ho]
          exact of0 (by show VB (evFa fd.offset (ρ cx) s); unfold evFa; (repeat' split) <;> trivial) rfl hS fun v s' h => ok_fa hu hfd hm (hρ _ _ hx) h
        · cases hc
      · cases hc
    · cases hc
  · rename_i t x f ho
    split at hc
    · rename_i fields cx hu hx
      split at hc
      · rename_i fd hfd
        split at hc
        · rename_i p hp; cases hc; rw [ex_fld o ho]
          exact of0 (by show VB (evFld p fd.offset (ρ cx) s); unfold evFld; (repeat' split) <;> trivial) rfl hS fun v s' h => ok_fld hu hfd hp (hρ _ _ hx) h
        · cases hc
      · cases hc
    · cases hc
  · rename_i t x i ho
    split at hc
    · rename_i e cx ci hu hx hi
      split at hc
      · rename_i n hn; cases hc; rw [ex_ia o ho]
        exact of0 (by show VB (evIa n (ρ cx) (ρ ci) s); unfold evIa; (repeat' split) <;> trivial) rfl hS fun v s' h => ok_ia hu hn (hρ _ _ hx) (hρ _ _ hi) h
      · cases hc
    · rename_i len e cx ci hu hx hi
      split at hc
      · rename_i n hn; cases hc; rw [ex_ia o ho]
        exact of0 (by show VB (evIaa len n (ρ cx) (ρ ci) s); unfold evIaa; (repeat' split) <;> trivial) rfl hS fun v s' h => ok_iaa hu hn (hρ _ _ hx) (hρ _ _ hi) h
      · cases hc
    · cases hc
  · rename_i t x i ho
    split at hc
    · rename_i len e cx ci hu hx hi
      split at hc
      · rename_i p n hp hn; cases hc; rw [ex_ix o ho]
        exact of0 (by show VB (evIx p len n (ρ cx) (ρ ci) s); unfold evIx evFld; (repeat' split) <;> trivial) rfl hS fun v s' h => ok_ix hu hp hn (hρ _ _ hx) (hρ _ _ hi) h
      · cases hc
    · rename_i cx ci hu hx hi; cases hc; rw [ex_ix o ho]
      exact of0 (by show VB (evIxT (ρ cx) (ρ ci) s); unfold evIxT; (repeat' split) <;> trivial) rfl hS fun v s' h => ok_ixT hu (hρ _ _ hx) (hρ _ _ hi) h
    · cases hc
  · -- lookup
    rename_i t m k b ho
    have fin : ∀ {kd : TypeDesc} {z : Value} {cm ck : COpd} {kt e : TypeId}, P.underlying t = some (.map kt e) → cZero P e = some z → KeyKind P kt kd → cOpd m = some cm → cOpd k = some ck → OpOk P ad s w 1 (execOp ρ' o) (evLook kd z b (ρ cm) (ρ ck) s) := by
      intro kd z cm ck kt e hu hz hK hm hk
      rw [ex_look o ho]
      exact of1 (by unfold evLook evView; (repeat' split) <;> trivial) rfl hS fun v s' h => ok_look hu hz hK hS (hρ _ _ hm) (hρ _ _ hk) h
    split at hc
    · rename_i kt e cm ck hu hm hk
      split at hc
      · rename_i z ki hz hki; cases hc; exact fin hu hz (.int hki) hm hk
      · rename_i z hz hki; cases hc; exact fin hu hz (.str hki) hm hk
      · rename_i z n u hz hki
        split at hc
        · rename_i hus
          split at hc
          · rename_i hn hsz; cases hc
            have := Nat.eq_of_beq_eq_true hn; subst this
            exact fin hu hz (.two hki hus hsz) hm hk
          · cases hc
        · cases hc
      · cases hc
    · cases hc
  · -- mapUpdate
    rename_i t m k v ho
    have fin : ∀ {kd : TypeDesc} {cm ck cv : COpd} {kt e : TypeId}, P.underlying t = some (.map kt e) → KeyKind P kt kd → cOpd m = some cm → cOpd k = some ck → cOpd v = some cv → OpOk P ad s w 2 (execOp ρ' o) (evUpd kd (ρ cm) (ρ ck) (ρ cv) s) := by
      intro kd cm ck cv kt e hu hK hm hk hv
      rw [ex_upd o ho]
      cases hr : evUpd kd (ρ cm) (ρ ck) (ρ cv) s with
      | skip s' => exact ok_upd hu hK hS (hρ _ _ hm) (hρ _ _ hk) (hρ _ _ hv) hr
      | bad _ => trivial
      | _ => unfold evUpd at hr; (repeat' split at hr) <;> cases hr
    split at hc
    · rename_i kt e cm ck cv hu hm hk hv
      split at hc
      · rename_i ki hki; cases hc; exact fin hu (.int hki) hm hk hv
      · rename_i hki; cases hc; exact fin hu (.str hki) hm hk hv
      · rename_i n u hki
        split at hc
        · rename_i hus
          split at hc
          · rename_i hn hsz; cases hc
            have := Nat.eq_of_beq_eq_true hn; subst this
            exact fin hu (.two hki hus hsz) hm hk hv
          · cases hc
        · cases hc
      · cases hc
    · cases hc
  · -- insert
    rename_i t m k v ho
    have fin : ∀ {kd : TypeDesc} {cm ck cv : COpd} {kt e : TypeId}, P.underlying t = some (.map kt e) → KeyKind P kt kd → cOpd m = some cm → cOpd k = some ck → cOpd v = some cv → OpOk P ad s w 2 (execOp ρ' o) (evUpd kd (ρ cm) (ρ ck) (ρ cv) s) := by
      intro kd cm ck cv kt e hu hK hm hk hv
      rw [ex_ins o ho]
      cases hr : evUpd kd (ρ cm) (ρ ck) (ρ cv) s with
      | skip s' => exact ok_upd hu hK hS (hρ _ _ hm) (hρ _ _ hk) (hρ _ _ hv) hr
      | bad _ => trivial
      | _ => unfold evUpd at hr; (repeat' split at hr) <;> cases hr
    split at hc
    · rename_i kt e cm ck cv hu hm hk hv
      split at hc
      · rename_i ki hki; cases hc; exact fin hu (.int hki) hm hk hv
      · rename_i hki; cases hc; exact fin hu (.str hki) hm hk hv
      · rename_i n u hki
        split at hc
        · rename_i hus
          split at hc
          · rename_i hn hsz; cases hc
            have := Nat.eq_of_beq_eq_true hn; subst this
            exact fin hu (.two hki hus hsz) hm hk hv
          · cases hc
        · cases hc
      · cases hc
    · cases hc
  · rename_i t x ho
    split at hc
    · rename_i k e cx hu hx; cases hc; rw [ex_rng o ho]
      exact of2 (by show VB (evRng (ρ cx) s); unfold evRng; (repeat' split) <;> trivial) rfl fun v s' h => ok_rng hu hS (hρ _ _ hx) h
    · rename_i cx hu hx; cases hc; rw [ex_rng o ho]
      exact of2 (by show VB (evRngT (ρ cx) s); unfold evRngT; (repeat' split) <;> trivial) rfl fun v s' h => ok_rngT hu hS (hρ _ _ hx) h
    · cases hc
  · rename_i x ho
    split at hc
    · rename_i cx hx; cases hc; rw [ex_nxt o ho]
      exact of2 (by show VB (evNxt (ρ cx) s); unfold evNxt; (repeat' split) <;> trivial) rfl fun v s' h => ok_nxt hS (hρ _ _ hx) h
    · cases hc
  · rename_i x ho
    split at hc
    · rename_i cx hx; cases hc; rw [ex_nxt o ho]
      exact of2 (by show VB (evNxtT (ρ cx) s); unfold evNxtT; (repeat' split) <;> trivial) rfl fun v s' h => ok_nxtT hS (hρ _ _ hx) h
    · cases hc
  · rename_i x ho
    split at hc
    · rename_i cx hx; cases hc; rw [ex_ent o ho]
      exact of1 (by show VB (evEnt (ρ cx) s); unfold evEnt; (repeat' split) <;> trivial) rfl hS fun v s' h => ok_ent hS (hρ _ _ hx) h
    · cases hc
  · rename_i x xT t ho
    split at hc
    · cases hc
    · rename_i d z cx hn hu hz hx; cases hc; rw [ex_tas o ho]
      exact of0 (by show VB (op_tas t z cx ρ s); unfold op_tas; (repeat' split) <;> trivial) rfl hS fun v s' h => ok_tas hu (fun m h => hn m h) hz (hρ _ _ hx) h
    · cases hc
  · rename_i x i ho
    split at hc
    · rename_i cx hx; cases hc; rw [ex_ext o ho]
      exact of0 (by show VB (op_ext cx i ρ s); unfold op_ext; (repeat' split) <;> trivial) rfl hS fun v s' h => ok_ext (hρ _ _ hx) h
    · cases hc
  · -- call
    rename_i k ho
    split at hc
    · rename_i cargs ha
      split at hc
      · rename_i f hf
        split at hc
        · rename_i fn hfn
          split at hc
          · cases hc
            intro hg
            rw [ex_call o ho]
            refine ⟨k.args.toList.map ρ', ?_, oMapOpd hρ ha⟩
            unfold resolve
            rw [hf, arr_map]
            simp only [hEf]
            have h3 := invoke_ok (P := P) (as := k.args.toList.map ρ') (caps := []) hg
            rw [List.append_nil] at h3
            have h4 : Deferred.ofValue (.func (.func f) #[] #[]) ⟨k.args.toList.map ρ'⟩ = pure { target := .fn (.func f) ⟨[]⟩, args := ⟨k.args.toList.map ρ'⟩ } := by
              simp [Deferred.ofValue]
            rw [h4]
            exact h3
          · cases hc
        · cases hc
      · rename_i x hf
        split at hc
        · rename_i cx hx; cases hc; rw [ex_call o ho]
          unfold resolve
          rw [hf, arr_map]
          exact snd_call (hρ _ _ hx) ha hρ hS
        · cases hc
      · rename_i b hf; exact builtin_sound ho hf ha hc hρ hS
      · cases hc
    · cases hc
  · rename_i x ho
    split at hc
    · rename_i cx hx; cases hc; rw [ex_panic o ho]; exact snd_panic hx hρ hS
    · cases hc
  · rename_i k ho
    split at hc
    · rename_i cargs ha
      split at hc
      · rename_i x hf
        split at hc
        · rename_i cx hx; cases hc; rw [ex_defer o ho]
          unfold resolve
          rw [hf, arr_map]
          exact snd_dfr (hρ _ _ hx) ha hρ hS
        · cases hc
      · cases hc
    · cases hc
  · cases hc
end
end Go.Sh
end

section
/- The interpreter's run of laid-out code is the model's. -/
set_option linter.unusedSimpArgs false
set_option linter.unusedVariables false
set_option linter.unusedSectionVars false
namespace Go.Sh
variable [Env]

section
variable {P : Program} {ad : List Pl} {s s' : RSt} {w : World}

structure AR (ad : List Pl) (N : Nat) (ra : RAct) (a : Act) : Prop where
  size : a.tmps.size = N
  slots : ∀ i, rabs ad (rSlot ra.t (pth i)) = some (slot a i)
  dfr0 : ra.d = none → a.defers = []
  dfr1 : ∀ f args, ra.d = some (f, args) → ∃ caps as, a.defers = [{ target := .fn (.func f) ⟨caps⟩, args := ⟨as⟩ }] ∧ rabsL ad args = some (as ++ caps)

theorem AR.mono {ad' : List Pl} {N : Nat} {ra : RAct} {a : Act} (h : AR ad N ra a) (he : ∃ m, ad' = ad ++ m) : AR ad' N ra a := by
  obtain ⟨m, rfl⟩ := he
  exact ⟨h.size, fun i => rabs_mono (h.slots i), h.dfr0, fun f args hd => let ⟨caps, as, h1, h2⟩ := h.dfr1 f args hd; ⟨caps, as, h1, rabsL_mono h2⟩⟩

theorem rSlot_lay (t : Tr RV) (p q : Pth) (v : RV) : rSlot (t.lay p v) q = if q = p then v else rSlot t q := by
  unfold rSlot
  rw [Tr.at_lay]
  by_cases h : q = p
  · rw [if_pos h, if_pos h]
  · rw [if_neg h, if_neg h]

theorem AR.put {N : Nat} {ra : RAct} {a : Act} (h : AR ad N ra a) {d : Tmp} (hd : d < N) {v : RV} {x : Value} (hv : rabs ad v = some x) : AR ad N (ra.put (pth d) v) (a.set d x) := by
  refine ⟨by rw [size_set]; exact h.size, fun i => ?_, fun h' => by rw [defers_set]; exact h.dfr0 h', fun f args h' => by rw [defers_set]; exact h.dfr1 f args h'⟩
  show rabs ad (rSlot (ra.t.lay (pth d) v) (pth i)) = _
  rw [rSlot_lay, slot_set]
  by_cases he : d = i
  · subst he
    rw [if_pos rfl, if_pos ⟨rfl, h.size.symm ▸ hd⟩]; exact hv
  · rw [if_neg (fun hc => he (pth_inj hc).symm), if_neg (fun hc => he hc.1)]
    exact h.slots i

theorem AR.put? {N : Nat} {ra : RAct} {a : Act} (h : AR ad N ra a) {d : Option Tmp} (hd : dstOk N d = true) {v : RV} {x : Value} (hv : rabs ad v = some x) :
    AR ad N (ra.put? (oPth d) v) (a.put d x) := by
  cases d with
  | none => exact h
  | some d =>
    have : d < N := by simpa [dstOk, Nat.blt, Nat.succ_le_iff] using hd
    exact h.put this hv

theorem AR.er {N : Nat} {ra : RAct} {a : Act} (h : AR ad N ra a) : ER ad ra.env a.eval := by
  intro x c hc
  cases x with
  | tmp n => simp only [cOpd] at hc; cases hc; exact h.slots n
  | const v => simp only [cOpd] at hc; cases hc; rfl
  | func f => simp only [cOpd] at hc; cases hc; rfl
  | global g => simp only [cOpd] at hc; cases hc

/-- what an ending has to do with what is told -/
def Told (P : Program) (ad : List Pl) (s : RSt) (w : World) : RRes → Ending → World → Prop
  | .gnd g, e, w' => ∃ ad', e = .returned g ∧ SR P ad' s w' ∧ FR ad ad' s s w w'
  | .ret v s', e, w' => ∃ ad' x, e = .returned x ∧ rabs ad' v = some x ∧ SR P ad' s' w' ∧ FR ad ad' s s' w w'
  | .panic v s', e, w' => ∃ ad' x, e = .panicked [{ v := x, recovered := false }] ∧ rabs ad' v = some x ∧ SR P ad' s' w' ∧ FR ad ad' s s' w w'
  | .bad _, _, _ => False
/-- what a call tells, holds -/
def ResOk (P : Program) (f : FuncId) (args : List RV) (s : RSt) (r : RRes) : Prop := Callable P f ∧ ∀ ad w xs, SR P ad s w → rabsL ad args = some xs → Calls P f ⟨xs⟩ w (Told P ad s w r)
def CallOk (P : Program) (call : CallF) : Prop := ∀ f args s r, call f args s = r → (∀ y, r ≠ .bad y) → ResOk P f args s r

def ExOk (ad : List Pl) : RX → Exit → Prop
  | .normal, .normal => True
  | .ret, .ret => True
  | .exit i, .exit j => i = j
  | .panic v, .panic ch => ∃ x, rabs ad v = some x ∧ ch = [{ v := x, recovered := false }]
  | _, _ => False

/-- what must hold wherever it goes -/
def Post (P : Program) (N : Nat) (ad : List Pl) (s : RSt) (w : World) (x : RX) (ra' : RAct) (s' : RSt) (Q : Exit → Act → World → Prop) : Prop :=
  ∀ ad' e a' w', ExOk ad' x e → AR ad' N ra' a' → SR P ad' s' w' → FR ad ad' s s' w w' → Q e a' w'

theorem Post.of {N : Nat} {ad' : List Pl} {s1 : RSt} {w1 : World} {x : RX} {ra' : RAct} {s' : RSt} {Q : Exit → Act → World → Prop} (h : Post P N ad s w x ra' s' Q) (hF : FR ad ad' s s1 w w1) : Post P N ad' s1 w1 x ra' s' Q :=
  fun ad2 e a' w' h1 h2 h3 h4 => h ad2 e a' w' h1 h2 h3 (hF.trans h4)

/-- an operation, up to what comes behind it -/
theorem aft_sound {call : CallF} (hcall : CallOk P call) {N : Nat} {o : Oper} {c : COp} {ra : RAct} {a : Act} {d : Option Tmp} (hdst : o.dst = d) (hd : dstOk N d = true) (hc : compOp P o = some c ∨ c = .no)
    (hA : AR ad N ra a) (hS : SR P ad s w) {k : Cont} {x : RX} {ra' : RAct} {s' : RSt} {Q : Exit → Act → World → Prop} (K : Act → World → Prop)
    (h : aft call (evOp P ra.env c s) s (oPth d) k ra = .ok x ra' s') (hpost : Post P N ad s w x ra' s' Q)
    (hk : ∀ ad1 ra1 s1 a1 w1, k ra1 s1 = .ok x ra' s' → AR ad1 N ra1 a1 → SR P ad1 s1 w1 → FR ad ad1 s s1 w w1 → K a1 w1) : o.wpIn (Fr none) 0 P a w K Q := by
  subst hdst
  rcases hc with hc | hc
  · have hop := compOp_sound hc (fun f => rfl) hA.er hS
    refine ⟨fun _ _ => trivial, ?_⟩
    show o.uponIn (Fr none) 0 P a K Q ((execOp a.eval o).run P w)
    revert h hop
    cases evOp P ra.env c s with
    | val v s1 =>
      intro h hop
      obtain ⟨ad1, y, w1, h1, h2, h3, h4⟩ := hop.2.2
      rw [h1, Oper.uponIn_value]
      exact hk ad1 _ s1 _ w1 h ((hA.mono h4.ext).put? hd h2) h3 h4
    | skip s1 =>
      intro h hop
      obtain ⟨w1, h1, h2, h3⟩ := hop
      rw [h1, Oper.uponIn_skip]
      exact hk ad _ s1 _ w1 h (hA.put? hd rfl) h2 h3
    | enter f args =>
      intro h hop
      have h : aftR s (call f args s) _ k ra = .ok x ra' s' := h
      have nb : ∀ y, call f args s ≠ .bad y := fun y hy => by rw [hy] at h; cases h
      obtain ⟨hg, hcalls⟩ := hcall f args s _ rfl nb
      obtain ⟨xs, h1, h2⟩ := hop hg
      rw [pureRun_sound _ h1 w, Oper.uponIn_enter]
      refine ⟨fun h => (by cases h), CallsIn.mono (calls_fr.2 (hcalls ad w xs hS h2)) fun e w1 he => ?_⟩
      revert h he nb
      cases call f args s with
      | gnd y =>
        intro h nb ⟨ad1, he, h4, h5⟩
        subst he
        exact hk ad1 _ s _ w1 h ((hA.mono h5.ext).put? hd rfl) h4 h5
      | ret v s1 =>
        intro h nb ⟨ad1, y, he, h3, h4, h5⟩
        subst he
        exact hk ad1 _ s1 _ w1 h ((hA.mono h5.ext).put? hd h3) h4 h5
      | panic v s1 =>
        intro h nb ⟨ad1, y, he, h3, h4, h5⟩
        subst he
        cases h
        exact hpost ad1 _ _ w1 ⟨y, h3, rfl⟩ (hA.mono h5.ext) h4 h5
      | bad y => intro h nb he; exact he.elim
    | panic v =>
      intro h hop
      obtain ⟨y, h1, h2⟩ := hop
      cases h
      rw [h1, Oper.uponIn_panic]
      exact hpost ad _ _ w ⟨y, h2, rfl⟩ hA hS (FR.refl _ _ _)
    | dfr f args =>
      intro h hop
      obtain ⟨caps, as, h1, h2⟩ := hop
      rw [h1, Oper.uponIn_defer]
      have h : roDfr s f args _ k ra = .ok x ra' s' := h
      unfold roDfr at h
      cases hd0 : ra.d with
      | some z => rw [hd0] at h; cases h
      | none =>
        rw [hd0] at h
        have hA2 : AR ad N { ra with d := some (f, args) } { a with defers := { target := .fn (.func f) ⟨caps⟩, args := ⟨as⟩ } :: a.defers } :=
          ⟨hA.size, hA.slots, fun hn => (by cases hn), fun f' args' he => (by cases he; exact ⟨caps, as, by rw [hA.dfr0 hd0], h2⟩)⟩
        exact hk ad _ s _ w h (hA2.put? hd rfl) hS (FR.refl _ _ _)
    | bad y => intro h; cases h
  · subst hc; cases h

theorem wanted_eq {ops : Array Oper} {j : Nat} {want : Bool} {o oj : Oper} {d : Tmp} {ra : RAct} {a : Act} {N : Nat} (hg : o.guard = some (j, want)) (hj : ops[j]? = some oj) (hd : oj.dst = some d) (hA : AR ad N ra a) :
    Region.wanted o (yielded ops a.tmps) = rWanted (rSlot ra.t (pth d)) want := by
  have key : ∀ v sv, rabs ad v = some sv → ((match sv with | .bool b => some b | _ => none) == some want) = rWanted v want := by
    intro v sv hs
    cases v with
    | g u =>
      have := abs_g hs; subst this
      cases sv <;> first | (cases want <;> rfl) | (rename_i b; cases b <;> cases want <;> rfl)
    | ptr b off => obtain ⟨_, _, h⟩ := abs_ptr hs; subst h; cases want <;> rfl
    | sl b off len cap => obtain ⟨_, _, h, _⟩ := abs_sl hs; subst h; cases want <;> rfl
    | rest b off off2 k l => obtain ⟨_, _, h⟩ := abs_rest hs; subst h; cases want <;> rfl
    | mp b => obtain ⟨_, _, h⟩ := abs_mp hs; subst h; cases want <;> rfl
    | agg l => obtain ⟨_, _, h⟩ := abs_agg hs; subst h; cases want <;> rfl
    | tup l => obtain ⟨_, _, h⟩ := abs_tup hs; subst h; cases want <;> rfl
    | ifc t v => obtain ⟨_, _, h⟩ := abs_ifc hs; subst h; cases want <;> rfl
    | fn f x y => obtain ⟨_, _, _, _, h⟩ := abs_fn hs; subst h; cases want <;> rfl
    | sy i =>
      simp only [rabs, Option.some.injEq] at hs
      subst hs
      have h1 := Env.nb i
      cases hv : Env.ρ i <;> first | exact absurd hv (h1 _) | (cases want <;> rfl)
  have hy : yielded ops a.tmps j = match slot a d with | .bool b => some b | _ => none := by
    unfold yielded
    simp only [hj, Option.bind_some, hd]
    unfold slot
    by_cases hlt : d < a.tmps.size
    · rw [Array.getElem?_eq_getElem hlt, Array.getD, dif_pos hlt]
      simp only [Array.getInternal_eq_getElem]
      cases a.tmps[d] <;> rfl
    · rw [Array.getElem?_eq_none (Nat.le_of_not_lt hlt), Array.getD, dif_neg hlt]
      rfl
  unfold Region.wanted
  simp only [hg, hy]
  exact key _ _ (hA.slots d)

theorem compItem_cases {N i : Nat} {ops : Array Oper} {it : CItem} (h : compItem P N ops i = some it) : ∃ o c, ops[i]? = some o ∧ dstOk N o.dst = true ∧ (compOp P o = some c ∨ c = .no) ∧
    ((o.guard = none ∧ it = mkItem c o.dst none) ∨ ∃ j want oj d, o.guard = some (j, want) ∧ ops[j]? = some oj ∧ oj.dst = some d ∧ it = mkItem c o.dst (some (d, want))) := by
  unfold compItem at h
  split at h
  · rename_i o ho
    split at h
    · rename_i hd
      obtain ⟨c, hcc, hc⟩ : ∃ c, compOpN P o = c ∧ (compOp P o = some c ∨ c = .no) := by
        unfold compOpN
        cases hc : compOp P o with
        | none => exact ⟨_, rfl, .inr rfl⟩
        | some c => exact ⟨_, rfl, .inl rfl⟩
      rw [hcc] at h
      refine ⟨o, c, ho, hd, hc, ?_⟩
      split at h
      · rename_i hg; cases h; exact .inl ⟨hg, rfl⟩
      · rename_i j want hg
        split at h
        · rename_i oj hoj
          split at h
          · rename_i d hd; cases h; exact .inr ⟨j, want, oj, d, hg, hoj, hd, rfl⟩
          · cases h
        · cases h
    · cases h
  · cases h

/-- one operation among others -/
theorem item_sound {call : CallF} (hcall : CallOk P call) {N i : Nat} {ops : Array Oper} {it : CItem} (hit : compItem P N ops i = some it) {ra : RAct} {a : Act} (hA : AR ad N ra a) (hS : SR P ad s w)
    {k : Cont} {x : RX} {ra' : RAct} {s' : RSt} {Q : Exit → Act → World → Prop} (K : Act → World → Prop) (h : evItem P call it k ra s = .ok x ra' s') (hpost : Post P N ad s w x ra' s' Q)
    (hk : ∀ ad1 ra1 s1 a1 w1, k ra1 s1 = .ok x ra' s' → AR ad1 N ra1 a1 → SR P ad1 s1 w1 → FR ad ad1 s s1 w w1 → K a1 w1) : wpOpIn (Fr none) 0 P ops Q i K a w := by
  obtain ⟨o, c, ho, hd, hc, hg⟩ := compItem_cases hit
  unfold wpOpIn
  simp only [ho]
  rcases hg with ⟨hg, rfl⟩ | ⟨j, want, oj, d, hg, hoj, hod, rfl⟩
  · have hw : Region.wanted o (yielded ops a.tmps) = true := by unfold Region.wanted; rw [hg]
    rw [if_pos hw]
    have h2 : aft call (evOp P ra.env c s) s (oPth o.dst) k ra = .ok x ra' s' := by
      unfold mkItem at h
      cases hdd : o.dst with
      | none => rw [hdd] at h; exact h
      | some d =>
        rw [hdd] at h
        cases c <;> exact h
    exact aft_sound hcall rfl hd hc hA hS K h2 hpost hk
  · have hw := wanted_eq hg hoj hod hA
    have h : itGd P call c (oPth o.dst) (pth d) want k ra s = .ok x ra' s' := h
    unfold itGd at h
    rw [hw]
    cases hr : rWanted (rSlot ra.t (pth d)) want with
    | true =>
      rw [hr] at h
      simp only [if_true]
      exact aft_sound hcall rfl hd hc hA hS K h hpost hk
    | false =>
      rw [hr] at h
      simp only [Bool.false_eq_true, if_false]
      exact ⟨fun _ _ => trivial, hk ad _ s _ w h (hA.put? hd rfl) hS (FR.refl _ _ _)⟩

theorem items_sound {call : CallF} (hcall : CallOk P call) {N : Nat} {ops : Array Oper} {x : RX} {ra' : RAct} {s' : RSt} {Q : Exit → Act → World → Prop} : ∀ (idx : List Nat) (items : List CItem) (ad : List Pl) (ra : RAct) (a : Act) (s : RSt) (w : World),
    oMap (compItem P N ops) idx = some items → AR ad N ra a → SR P ad s w → evItems P call items ra s = .ok x ra' s' → Post P N ad s w x ra' s' Q → wpOpsIn (Fr none) 0 P ops Q idx a w
  | [], items, ad, ra, a, s, w, hm, hA, hS, h, hpost => by
    simp only [oMap] at hm; cases hm
    rw [evItems_nil] at h; cases h
    exact hpost ad .normal a w trivial hA hS (FR.refl _ _ _)
  | i :: idx, items, ad, ra, a, s, w, hm, hA, hS, h, hpost => by
    simp only [oMap] at hm
    split at hm
    · rename_i it l h1 h2; cases hm
      rw [evItems_cons] at h
      rw [wpOpsIn_cons]
      exact item_sound hcall h1 hA hS _ h hpost fun ad1 ra1 s1 a1 w1 h3 h4 h5 h6 => items_sound hcall idx l ad1 ra1 a1 s1 w1 h2 h4 h5 h3 (hpost.of h6)
    · cases hm
end
end Go.Sh
end

section
/- The interpreter's run of laid-out code is the model's: code, calls. -/
set_option linter.unusedSimpArgs false
set_option linter.unusedVariables false
set_option linter.unusedSectionVars false
namespace Go.Sh
variable [Env]

section
variable {P : Program}

def DrawGood (P : Program) (N : Nat) (call : CallF) (ops : Array Oper) (idx : List Nat) : Prop := ∀ id items ad ra a s w ra' s' Q, oMap (compD P N ops) idx = some items → AR ad N ra a → SR P ad s w →
  evItems P call items ra s = .ok .normal ra' s' → Post P N ad s w .normal ra' s' Q → (Code.region id ops true).wpIn (Fr none) 0 P Q a w

/-- all regions that draw are good -/
def DrawsOk (P : Program) (N : Nat) (call : CallF) (dr : List (Nat × List Nat)) : Code → Prop
  | .region id ops true => ∀ x, dr.find? (fun x => Nat.beq x.1 id) = some x → DrawGood P N call ops x.2
  | .seq x y => DrawsOk P N call dr x ∧ DrawsOk P N call dr y
  | .cond _ x y => DrawsOk P N call dr x ∧ DrawsOk P N call dr y
  | .block _ x => DrawsOk P N call dr x
  | .loop x => DrawsOk P N call dr x
  | .scope x => DrawsOk P N call dr x
  | _ => True

theorem comp_sound {call : CallF} (hcall : CallOk P call) {N : Nat} {dr : List (Nat × List Nat)} : ∀ (c : Code) (cc : CC) (ad : List Pl) (ra : RAct) (a : Act) (s : RSt) (w : World) (x : RX) (ra' : RAct) (s' : RSt) (Q : Exit → Act → World → Prop),
    comp P N dr c = some cc → DrawsOk P N call dr c → AR ad N ra a → SR P ad s w → evC P call cc ra s = .ok x ra' s' → Post P N ad s w x ra' s' Q → c.wpIn (Fr none) 0 P Q a w
  | .skip, cc, ad, ra, a, s, w, x, ra', s', Q, hc, _, hA, hS, h, hp => by
    simp only [comp] at hc; cases hc
    have h : ROut.ok .normal ra s = .ok x ra' s' := h
    cases h
    exact wpIn_skip (hp ad .normal a w trivial hA hS (FR.refl _ _ _))
  | .region id ops draw, cc, ad, ra, a, s, w, x, ra', s', Q, hc, hd, hA, hS, h, hp => by
    simp only [comp] at hc
    split at hc
    · split at hc
      · rename_i l hl; cases hc
        exact wpIn_region (items_sound hcall _ l ad ra a s w hl hA hS h hp)
      · cases hc
    · split at hc
      · rename_i y hy
        split at hc
        · rename_i l hl; cases hc
          have h : ccDrw P call l ra s = .ok x ra' s' := h
          unfold ccDrw at h
          split at h
          · rename_i ra1 s1 he; cases h
            exact hd y hy id l ad ra a s w _ _ Q hl hA hS he hp
          · cases h
          · cases h
        · cases hc
      · cases hc
  | .seq c d, cc, ad, ra, a, s, w, x, ra', s', Q, hc, hd, hA, hS, h, hp => by
    simp only [comp] at hc
    split at hc
    · rename_i c1 c2 h1 h2; cases hc
      have h : thenN (evC P call c1 ra s) (evC P call c2) = .ok x ra' s' := h
      unfold thenN at h
      split at h
      · rename_i ra1 s1 he
        refine wpIn_seq (comp_sound hcall c c1 ad ra a s w .normal ra1 s1 _ h1 hd.1 hA hS he fun ad1 e a1 w1 hx hA1 hS1 hF1 => ?_)
        cases e <;> first | exact hx.elim | skip
        exact comp_sound hcall d c2 ad1 ra1 a1 s1 w1 x ra' s' Q h2 hd.2 hA1 hS1 h (hp.of hF1)
      · rename_i hne
        refine wpIn_seq (comp_sound hcall c c1 ad ra a s w x ra' s' _ h1 hd.1 hA hS h fun ad1 e a1 w1 hx hA1 hS1 hF1 => ?_)
        cases e with
        | normal =>
          cases x <;> first | exact hx.elim | exact absurd h (hne _ _)
        | _ => exact hp ad1 _ a1 w1 hx hA1 hS1 hF1
    · cases hc
  | .cond o c d, cc, ad, ra, a, s, w, x, ra', s', Q, hc, hd, hA, hS, h, hp => by
    simp only [comp] at hc
    split at hc
    · rename_i co c1 c2 h0 h1 h2; cases hc
      have h : ccCond co c1 c2 (evC P call c1) (evC P call c2) ra s = .ok x ra' s' := h
      unfold ccCond at h
      have hb := hA.er o co h0
      split at h
      · rename_i hv
        rw [hv] at hb
        exact wpIn_cond (t := true) (abs_g hb) (comp_sound hcall c c1 ad ra a s w x ra' s' Q h1 hd.1 hA hS h hp)
      · rename_i hv
        rw [hv] at hb
        exact wpIn_cond (t := false) (abs_g hb) (comp_sound hcall d c2 ad ra a s w x ra' s' Q h2 hd.2 hA hS h hp)
      · cases h
    · cases hc
  | .block id c, cc, ad, ra, a, s, w, x, ra', s', Q, hc, hd, hA, hS, h, hp => by
    simp only [comp] at hc
    split at hc
    · rename_i c1 h1; cases hc
      have h : inBlk id (evC P call c1 ra s) = .ok x ra' s' := h
      unfold inBlk at h
      split at h
      · rename_i id' ra1 s1 he
        refine wpIn_block (comp_sound hcall c c1 ad ra a s w (.exit id') ra1 s1 _ h1 hd hA hS he fun ad1 e a1 w1 hx hA1 hS1 hF1 => ?_)
        cases e with
        | exit j =>
          have hj : id' = j := hx
          subst hj
          simp only [Exit.inBlock]
          split at h
          · rename_i hb; cases h
            rw [if_pos (Nat.eq_of_beq_eq_true hb).symm]
            exact hp ad1 .normal a1 w1 trivial hA1 hS1 hF1
          · rename_i hb; cases h
            rw [if_neg (fun hc => Nat.ne_of_beq_eq_false hb hc.symm)]
            exact hp ad1 (.exit id') a1 w1 rfl hA1 hS1 hF1
        | _ => exact hx.elim
      · rename_i hne
        refine wpIn_block (comp_sound hcall c c1 ad ra a s w x ra' s' _ h1 hd hA hS h fun ad1 e a1 w1 hx hA1 hS1 hF1 => ?_)
        cases e with
        | exit j => cases x <;> first | exact hx.elim | exact absurd h (hne _ _ _)
        | _ => exact hp ad1 _ a1 w1 hx hA1 hS1 hF1
    · cases hc
  | .loop c, cc, ad, ra, a, s, w, x, ra', s', Q, hc, hd, hA, hS, h, hp => by
    simp only [comp] at hc
    split at hc
    · rename_i c1 h1; cases hc
      have h : rLoop (evC P call c1) 100000 ra s = .ok x ra' s' := h
      refine wpIn_loop_rounds 100000 ?_
      have main : ∀ (n : Nat) (ad : List Pl) (ra : RAct) (a : Act) (s : RSt) (w : World), AR ad N ra a → SR P ad s w → rLoop (evC P call c1) n ra s = .ok x ra' s' → Post P N ad s w x ra' s' Q → Code.roundsIn (Fr none) 0 P c Q n a w := by
        intro n
        induction n with
        | zero => intro ad ra a s w _ _ h _; cases h
        | succ n ih =>
          intro ad ra a s w hA hS h hp
          rw [roundsIn_succ]
          rw [rLoop_succ] at h
          unfold thenN at h
          split at h
          · rename_i ra1 s1 he
            refine comp_sound hcall c c1 ad ra a s w .normal ra1 s1 _ h1 hd hA hS he fun ad1 e a1 w1 hx hA1 hS1 hF1 => ?_
            cases e <;> first | exact hx.elim | skip
            exact ih ad1 ra1 a1 s1 w1 hA1 hS1 h (hp.of hF1)
          · rename_i hne
            refine comp_sound hcall c c1 ad ra a s w x ra' s' _ h1 hd hA hS h fun ad1 e a1 w1 hx hA1 hS1 hF1 => ?_
            cases e with
            | normal => cases x <;> first | exact hx.elim | exact absurd h (hne _ _)
            | _ => exact hp ad1 _ a1 w1 hx hA1 hS1 hF1
      exact main 100000 ad ra a s w hA hS h hp
    · cases hc
  | .exit id, cc, ad, ra, a, s, w, x, ra', s', Q, hc, _, hA, hS, h, hp => by
    simp only [comp] at hc; cases hc
    have h : ROut.ok (.exit id) ra s = .ok x ra' s' := h
    cases h
    exact wpIn_exit (hp ad (.exit id) a w rfl hA hS (FR.refl _ _ _))
  | .ret, cc, ad, ra, a, s, w, x, ra', s', Q, hc, _, hA, hS, h, hp => by
    simp only [comp] at hc; cases hc
    have h : ROut.ok .ret ra s = .ok x ra' s' := h
    cases h
    exact wpIn_ret (hp ad .ret a w trivial hA hS (FR.refl _ _ _))
  | .scope c, cc, ad, ra, a, s, w, x, ra', s', Q, hc, hd, hA, hS, h, hp => by
    simp only [comp] at hc
    refine wpIn_scope (comp_sound hcall c cc ad ra a s w x ra' s' _ hc hd hA hS h fun ad1 e a1 w1 hx hA1 hS1 hF1 => ?_)
    cases e with
    | goto l => cases x <;> exact hx.elim
    | _ => exact hp ad1 _ a1 w1 hx hA1 hS1 hF1
  | .label l, cc, ad, ra, a, s, w, x, ra', s', Q, hc, _, hA, hS, h, hp => by
    simp only [comp] at hc; cases hc
    have h : ROut.ok .normal ra s = .ok x ra' s' := h
    cases h
    exact wpIn_label (hp ad .normal a w trivial hA hS (FR.refl _ _ _))
  | .goto _, cc, ad, ra, a, s, w, x, ra', s', Q, hc, _, hA, hS, h, hp => by simp [comp] at hc
  | .rangeFunc _ _ _ _, cc, ad, ra, a, s, w, x, ra', s', Q, hc, _, hA, hS, h, hp => by simp [comp] at hc
  | .refuse _, cc, ad, ra, a, s, w, x, ra', s', Q, hc, _, hA, hS, h, hp => by simp [comp] at hc
end
end Go.Sh
end

section
/- The interpreter's calls are the model's. -/
set_option linter.unusedSimpArgs false
set_option linter.unusedVariables false
set_option linter.unusedSectionVars false
namespace Go.Sh
variable [Env]

section
variable {P : Program} {ad : List Pl} {s : RSt} {w : World}

theorem rArgs_slot : ∀ (args : List RV) (k i : Nat) (t : Tr RV), rSlot (rArgs args (pth k) t) (pth i) = if k ≤ i ∧ i < k + args.length then (args[i - k]?).getD rUndef else rSlot t (pth i)
  | [], k, i, t => by
    show rSlot t (pth i) = _
    rw [if_neg (by simp)]
  | x :: r, k, i, t => by
    show rSlot (rArgs r (pth (k + 1)) (t.lay (pth k) x)) (pth i) = _
    rw [rArgs_slot r (k + 1) i, rSlot_lay]
    simp only [List.length_cons]
    by_cases h1 : k + 1 ≤ i ∧ i < k + 1 + r.length
    · rw [if_pos h1, if_pos (by omega)]
      obtain ⟨j, rfl⟩ : ∃ j, i = k + 1 + j := ⟨i - (k + 1), by omega⟩
      rw [show k + 1 + j - (k + 1) = j by omega, show k + 1 + j - k = j + 1 by omega]; simp
    · rw [if_neg h1]
      by_cases h2 : i = k
      · subst h2
        rw [if_pos rfl, if_pos (by omega)]; simp
      · rw [if_neg (fun h => h2 (pth_inj h)), if_neg (by omega)]

theorem AR.init {N : Nat} {args : List RV} {xs : List Value} (h : rabsL ad args = some xs) (hle : Nat.ble (rLen args) N = true) : AR ad N { t := rArgs args .z .nil, d := none } { tmps := ⟨xs⟩ ++ Array.replicate (N - (⟨xs⟩ : Array Value).size) undef, defers := [] } := by
  have hlen := absL_len h
  have hle := Nat.le_of_ble_eq_true hle
  rw [rLen_eq] at hle
  refine ⟨by simp; omega, fun i => ?_, fun _ => rfl, fun f a h => by cases h⟩
  show rabs ad (rSlot (rArgs args (pth 0) .nil) (pth i)) = _
  rw [rArgs_slot]
  simp only [Nat.zero_le, true_and, Nat.zero_add, Nat.sub_zero]
  unfold slot
  by_cases hi : i < args.length
  · rw [if_pos hi, List.getElem?_eq_getElem hi]
    simp only [Option.getD_some]
    have : ∀ (l : List RV) (vs : List Value) (i : Nat) (hi : i < l.length), rabsL ad l = some vs → ∃ x, vs[i]? = some x ∧ rabs ad l[i] = some x := by
      intro l
      induction l with
      | nil => intro vs i hi; simp at hi
      | cons y r ih =>
        intro vs i hi h
        obtain ⟨v, l', h1, h2, rfl⟩ := rabsL_cons.1 h
        cases i with
        | zero => exact ⟨v, rfl, h1⟩
        | succ j =>
          obtain ⟨x, h3, h4⟩ := ih l' j (by simpa using hi) h2
          exact ⟨x, by simpa using h3, by simpa using h4⟩
    obtain ⟨x, h1, h2⟩ := this args xs i hi h
    rw [h2]
    have hix : i < xs.length := by omega
    rw [Array.getD_eq_getD_getElem?, Array.getElem?_append_left (by simpa using hix)]
    simp [h1]
  · rw [if_neg hi]
    show some undef = _
    rw [Array.getD_eq_getD_getElem?]
    have hix : ¬ i < xs.length := by omega
    by_cases h2 : i < N
    · rw [Array.getElem?_append_right (by simpa using hix)]
      have : i - xs.length < N - xs.length := by omega
      simp [this]
    · rw [Array.getElem?_eq_none (by simp; omega)]
      rfl

/-- results -/
theorem run_mapM_list {α β : Type} {f : α → Sem β} : ∀ (l : List α) (m : List β), (∀ (i : Nat) (x : α), l[i]? = some x → ∃ y, m[i]? = some y ∧ (f x).run P w = .ok y w) → l.length = m.length → (l.mapM f).run P w = .ok m w
  | [], m, h, hl => by
    have : m = [] := List.eq_nil_of_length_eq_zero hl.symm
    subst this; rfl
  | x :: r, [], h, hl => by simp at hl
  | x :: r, y :: m, h, hl => by
    have := sem_lawful
    rw [List.mapM_cons]
    obtain ⟨y', h1, h2⟩ := h 0 x rfl
    cases h1
    rw [run_ok h2]
    rw [run_ok (run_mapM_list r m (fun i z hz => h (i + 1) z (by simpa using hz)) (by simpa using hl))]
    rfl

def resV (tmps : Array Value) (x : ResultVar) : Sem Value := match x with
  | .tmp t => pure (tmps.getD t undef)
  | .cell b t => do loadVar t (← asAddr (tmps.getD b undef))

theorem results_sound {N : Nat} {fn : Func} {rs : List CRes} {ra : RAct} {a : Act} {v : RV} (hr : oMap (compRes P) fn.results.toList = some rs) (hA : AR ad N ra a) (hS : SR P ad s w) (h : rResults rs ra s = some v) :
    ∃ x, (results fn a.tmps).run P w = .ok x w ∧ rabs ad v = some x := by
  have hsl : ∀ i, slot a i = a.tmps.getD i undef := fun _ => rfl
  have key : ∀ (l : List ResultVar) (rs : List CRes) (vs : List RV), oMap (compRes P) l = some rs → oMap (rResult ra s) rs = some vs → ∃ xs, rabsL ad vs = some xs ∧ l.length = xs.length ∧
      ∀ (i : Nat) (x : ResultVar), l[i]? = some x → ∃ y, xs[i]? = some y ∧ (resV a.tmps x).run P w = .ok y w := by
    intro l
    induction l with
    | nil =>
      intro rs vs h1 h2
      simp only [oMap] at h1; cases h1
      simp only [oMap] at h2; cases h2
      exact ⟨[], rfl, rfl, fun i x h => by simp at h⟩
    | cons z r ih =>
      intro rs vs h1 h2
      simp only [oMap] at h1
      split at h1
      · rename_i y l' hy hl'; cases h1
        simp only [oMap] at h2
        split at h2
        · rename_i u us hu hus; cases h2
          obtain ⟨xs, h3, h4, h5⟩ := ih l' us hl' hus
          have one : ∃ x, rabs ad u = some x ∧ (resV a.tmps z).run P w = .ok x w := by
            cases z with
            | tmp t =>
              simp only [compRes] at hy; cases hy
              simp only [rResult] at hu; cases hu
              exact ⟨slot a t, hA.slots t, rfl⟩
            | cell b t =>
              simp only [compRes] at hy
              split at hy
              · rename_i p hp; cases hy
                simp only [rResult] at hu
                split at hu
                · rename_i u' s' he; cases hu
                  obtain ⟨_, x, hx1, hx2⟩ := ok_load hp hS (hA.slots b) he
                  refine ⟨x, hx2, ?_⟩
                  have hx1 := run_of_vN hx1
                  have hb := hA.slots b
                  unfold evLoad at he
                  split at he
                  · rename_i bb off hv
                    rw [hv] at hb
                    obtain ⟨q, hq, hq2⟩ := abs_ptr hb
                    rw [hsl] at hq2
                    unfold Instr.loadAt at hx1
                    rw [hsl, hq2, run_ok (a := ⟨q.a, off, none⟩) (w' := w) rfl] at hx1
                    simp only [resV, hq2]
                    rw [run_ok (a := ⟨q.a, off, none⟩) (w' := w) rfl]
                    exact hx1
                  · cases he
                · cases hu
              · cases hy
          obtain ⟨x, hx1, hx2⟩ := one
          refine ⟨x :: xs, rabsL_cons.2 ⟨x, xs, hx1, h3, rfl⟩, by simp [h4], fun i y hy' => ?_⟩
          cases i with
          | zero => simp at hy'; subst hy'; exact ⟨x, rfl, hx2⟩
          | succ j =>
            obtain ⟨y', h6, h7⟩ := h5 j y (by simpa using hy')
            exact ⟨y', by simpa using h6, h7⟩
        · cases h2
      · cases h1
  unfold rResults at h
  have fin : ∀ vs, oMap (rResult ra s) rs = some vs → ∃ xs, rabsL ad vs = some xs ∧ (results fn a.tmps).run P w = .ok (if h : (⟨xs⟩ : Array Value).size = 1 then (⟨xs⟩ : Array Value)[0] else .tuple ⟨xs⟩) w := by
    intro vs hvs
    obtain ⟨xs, h1, h2, h3⟩ := key fn.results.toList rs vs hr hvs
    refine ⟨xs, h1, ?_⟩
    have := sem_lawful
    unfold results
    rw [Array.mapM_eq_mapM_toList, map_eq_pure_bind, run_bind, run_bind]
    rw [run_mapM_list fn.results.toList xs (fun i x hx => by
      obtain ⟨y, h4, h5⟩ := h3 i x hx
      exact ⟨y, h4, h5⟩) h2]
    rfl
  split at h
  · rename_i u hu; cases h
    obtain ⟨xs, h1, h2⟩ := fin _ hu
    obtain ⟨x, l, h3, h4, rfl⟩ := rabsL_cons.1 h1
    simp only [rabsL] at h4; cases h4
    exact ⟨x, by simpa using h2, h3⟩
  · rename_i l hl hn; cases h
    obtain ⟨xs, h1, h2⟩ := fin _ hn
    refine ⟨.tuple ⟨xs⟩, ?_, by simp only [rabs, h1]⟩
    have hne : ¬ (⟨xs⟩ : Array Value).size = 1 := by
      intro hc
      have h3 := absL_len h1
      simp only [List.size_toArray] at hc
      rw [hc] at h3
      match l, h3 with
      | [u], _ => exact hl u rfl
    rw [dif_neg hne] at h2
    exact h2
  · cases h
end
end Go.Sh
end

section
/- The interpreter's calls are the model's: functions, deferred ones too. -/
set_option linter.unusedSimpArgs false
set_option linter.unusedVariables false
set_option linter.unusedSectionVars false
namespace Go.Sh
variable [Env]

section
variable {P : Program}

def CfOk (P : Program) (call : CallF) (f : FuncId) (cf : CFunc) : Prop := ∃ fn c dr, P.funcs[f]? = some fn ∧ fn.body = some c ∧ (fn.name == "runtime.NumGoroutine") = false ∧ oMap (compRes P) fn.results.toList = some cf.results ∧ cf.n = fn.ntmps ∧
  DrawsOk P fn.ntmps call dr c ∧ ((cf.rcv = none ∧ comp P fn.ntmps dr c = some cf.body) ∨ ∃ d rest, rcvOf fn.ntmps c = some (d, rest) ∧ cf.rcv = some (oPth d) ∧ comp P fn.ntmps dr rest = some cf.body)
def TabOk (P : Program) (call : CallF) (tab : Tr CFunc) : Prop := ∀ f cf, tab.get f = some cf → CfOk P call f cf

theorem compFn_ok {call : CallF} {dr : List (Nat × List Nat)} {f : FuncId} {cf : CFunc} (h : compFn P dr f = some cf) (hd : ∀ fn c, P.funcs[f]? = some fn → fn.body = some c → DrawsOk P fn.ntmps call dr c) : CfOk P call f cf := by
  unfold compFn at h
  split at h
  · rename_i fn hfn
    split at h
    · cases h
    · rename_i hname
      split at h
      · rename_i c rs hb hrs
        split at h
        · rename_i d rest hrc
          split at h
          · rename_i b hbc; cases h
            exact ⟨fn, c, dr, hfn, hb, hname, hrs, rfl, hd fn c hfn hb, .inr ⟨d, rest, hrc, rfl, hbc⟩⟩
          · cases h
        · split at h
          · rename_i b hbc; cases h
            exact ⟨fn, c, dr, hfn, hb, hname, hrs, rfl, hd fn c hfn hb, .inl ⟨rfl, hbc⟩⟩
          · cases h
      · cases h
  · cases h

theorem rcvOf_cases {N : Nat} {c rest : Code} {d : Option Tmp} (h : rcvOf N c = some (d, rest)) : ∃ id ops o k, c = .seq (.region id ops false) rest ∧ ops.toList = [o] ∧ o.op = .call k ∧ k.callee = .builtin .recover ∧ o.guard = none ∧ dstOk N o.dst = true ∧ o.dst = d := by
  unfold rcvOf at h
  split at h
  · rename_i id ops rest'
    split at h
    · rename_i o ho
      split at h
      · rename_i k hk
        split at h
        · rename_i hb
          split at h
          · rename_i hg hd; cases h
            exact ⟨id, ops, o, k, rfl, ho, hk, hb, hg, hd, rfl⟩
          · cases h
        · cases h
      · cases h
    · cases h
  · cases h

theorem evDfr_sound {call : CallF} (hcall : CallOk P call) {tab : Tr CFunc} (htab : TabOk P call tab) {g : FuncId} {gargs : List RV} {p : Option RV} {s s' : RSt} {ad : List Pl} {w : World} {xs : List Value} {u : FrameMode}
    (h : evDfr P call tab g gargs p s = some s') (hS : SR P ad s w) (hx : rabsL ad gargs = some xs)
    (hu : (p = none ∧ u = .returning) ∨ ∃ v x, p = some v ∧ rabs ad v = some x ∧ u = .panicking [{ v := x, recovered := false }]) :
    CallsDIn (Fr none) 0 P g ⟨xs⟩ u w fun e u' w' => ∃ y ad', e = .returned y ∧ settle u' = .returning ∧ SR P ad' s' w' ∧ FR ad ad' s s' w w' := by
  unfold evDfr at h
  split at h
  · rename_i cf hcf
    obtain ⟨fn, c, dr, hfn, hb, hname, hrs, hn, hdraw, hc⟩ := htab g cf hcf
    split at h
    · rename_i dst hdst
      split at h
      · cases h
      rename_i hle
      rw [hn] at hle
      rcases hc with ⟨h1, _⟩ | ⟨d, rest, hrc, h2, h3⟩
      · rw [h1] at hdst; cases hdst
      · rw [h2] at hdst; cases hdst
        obtain ⟨id, ops, o, k, rfl, ho, hop, hcal, hg, hd, rfl⟩ := rcvOf_cases hrc
        refine callsDIn_of_wpSIn hfn hb trivial fun c₀ cs hu0 => ?_
        have hA0 := AR.init (N := fn.ntmps) hx hle
        -- what recover tells, and the frame behind it
        obtain ⟨rv, rx, u', hr1, hr2, hr3⟩ : ∃ (rv : RV) (rx : Value) (u' : FrameMode), rcvV p = rv ∧ rabs ad rv = some rx ∧ settle u' = .returning ∧
            ((recoverD (c₀ :: cs) = none ∧ rx = .nilIface ∧ c₀ = { c₀ with mode := u' }) ∨ recoverD (c₀ :: cs) = some (rx, { c₀ with mode := u' } :: cs)) := by
          rcases hu with ⟨rfl, rfl⟩ | ⟨v, x, rfl, hv, rfl⟩
          · refine ⟨_, .nilIface, .returning, rfl, rfl, rfl, .inl ⟨by simp [recoverD, hu0], rfl, by rw [← hu0]⟩⟩
          · refine ⟨_, x, .panicking [{ v := x, recovered := true }], rfl, hv, rfl, .inr (by simp [recoverD, hu0])⟩
        rw [hr1] at h
        obtain ⟨hset, hrec⟩ := hr3
        have hA1 := hA0.put? hd hr2
        have hrest : ∀ x ra1 s1, evC P call cf.body (({ t := rArgs gargs .z .nil, d := none } : RAct).put? (oPth o.dst) rv) s = .ok x ra1 s1 → (x = .normal ∨ x = .ret) → dfrEnd cf ra1 s1 = some s' →
            rest.wpIn (Fr none) 0 P (fun e a' w' => bodyPostS P fn c₀ cs (fun e u' w' => ∃ y ad', e = .returned y ∧ settle u' = .returning ∧ SR P ad' s' w' ∧ FR ad ad' s s' w w') e a' ({ c₀ with mode := u' } :: cs) w')
              (({ tmps := ⟨xs⟩ ++ Array.replicate (fn.ntmps - (⟨xs⟩ : Array Value).size) undef, defers := [] } : Act).put o.dst rx) w := by
          intro x ra1 s1 he hxn hend
          unfold dfrEnd at hend
          split at hend
          · rename_i hdn
            split at hend
            · rename_i rr hrr; cases hend
              refine comp_sound hcall rest cf.body ad _ _ s w x ra1 _ _ h3 hdraw.2 hA1 hS he fun ad1 e a1 w1 hx1 hA2 hS2 hF2 => ?_
              obtain ⟨y, hy, _⟩ := results_sound hrs hA2 hS2 hrr
              have hfin : a1.defers = [] ∧ ∃ u'', ({ c₀ with mode := u' } :: cs : List Frame) = { c₀ with mode := u'' } :: cs ∧ ∃ v, (results fn a1.tmps).run P w1 = .ok v w1 ∧ ∃ y ad', Ending.returned v = .returned y ∧ settle u'' = .returning ∧ SR P ad' _ w1 ∧ FR ad ad' s _ w w1 :=
                ⟨hA2.dfr0 hdn, u', rfl, y, hy, y, ad1, rfl, hset, hS2, hF2⟩
              cases e with
              | normal => exact hfin
              | ret => exact hfin
              | _ => rcases hxn with rfl | rfl <;> exact hx1.elim
            · cases hend
          · cases hend
        have hrest2 : rest.wpIn (Fr none) 0 P (fun e a' w' => bodyPostS P fn c₀ cs (fun e u' w' => ∃ y ad', e = .returned y ∧ settle u' = .returning ∧ SR P ad' s' w' ∧ FR ad ad' s s' w w') e a' ({ c₀ with mode := u' } :: cs) w')
              (({ tmps := ⟨xs⟩ ++ Array.replicate (fn.ntmps - (⟨xs⟩ : Array Value).size) undef, defers := [] } : Act).put o.dst rx) w := by
          split at h
          · rename_i ra1 s1 he; exact hrest .normal ra1 s1 he (.inl rfl) h
          · rename_i ra1 s1 he; exact hrest .ret ra1 s1 he (.inr rfl) h
          · cases h
        have hex : ∀ ρ : Operand → Value, (execOp ρ o).run P w = .ok .recover w := by
          intro ρ
          rw [ex_call o hop]
          unfold resolve
          rw [hcal]; rfl
        have hsz : ops.size = 1 := by rw [← Array.length_toList, ho]; rfl
        have h0 : ops[0]? = some o := by rw [← Array.getElem?_toList, ho]; rfl
        refine wpSIn_seq (wpSIn_region ?_)
        rw [hsz]
        show wpOpsSIn (Fr none) 0 P ops _ [0] _ _ w
        simp only [wpOpsSIn, h0]
        refine ⟨fun _ _ => trivial, ?_⟩
        have hw : Region.wanted o (yielded ops (⟨xs⟩ ++ Array.replicate (fn.ntmps - (⟨xs⟩ : Array Value).size) undef)) = true := by unfold Region.wanted; rw [hg]
        rw [if_pos hw, hex]
        simp only
        rcases hrec with ⟨hn, rfl, he⟩ | hsm
        · rw [hn]
          simp only
          rw [he]
          exact wpSIn_of_wpIn rfl hrest2
        · rw [hsm]
          exact wpSIn_of_wpIn rfl hrest2
    · cases h
  · cases h
end
end Go.Sh
end

section
/- The interpreter's calls are the model's: all of them. -/
set_option linter.unusedSimpArgs false
set_option linter.unusedVariables false
set_option linter.unusedSectionVars false
namespace Go.Sh
variable [Env]

section
variable {P : Program}

theorem body_sound {call : CallF} (hcall : CallOk P call) {tab : Tr CFunc} (htab : TabOk P call tab) {f : FuncId} {args : List RV} {s : RSt} {r : RRes} (h : evBody P call tab f args s = r) (hb : ∀ y, r ≠ .bad y) : ResOk P f args s r := by
  unfold evBody at h
  split at h
  · exact absurd h.symm (hb _)
  · rename_i cf hcf
    obtain ⟨fn, c, dr, hfn, hbody, hname, hrs, hn, hdraw, hc⟩ := htab f cf hcf
    refine ⟨⟨fn, hfn, by rw [hbody]; rfl, hname⟩, fun ad w xs hS hx => ?_⟩
    split at h
    · exact absurd h.symm (hb _)
    · rename_i hrcv
      split at h
      · exact absurd h.symm (hb _)
      rename_i hle
      rw [hn] at hle
      rcases hc with ⟨_, hcomp⟩ | ⟨d, rest, _, h2, _⟩
      · refine (calls_fr (ro := none) (n := 0)).1 (callsIn_of_wp_defers hfn hbody trivial ?_)
        split at h
        · rename_i x ra s1 he
          refine comp_sound hcall c cf.body ad _ _ s w x ra s1 _ hcomp hdraw (AR.init hx hle) hS he fun ad1 e a1 w1 hx1 hA1 hS1 hF1 => ?_
          -- the results
          have leave : ∀ ad2 s2 w2, SR P ad2 s2 w2 → FR ad1 ad2 s1 s2 w1 w2 → rLeave cf ra s2 = r → ∃ v, (results fn a1.tmps).run P w2 = .ok v w2 ∧ Told P ad s w r (.returned v) w2 := by
            intro ad2 s2 w2 hS2 hF2 hl
            unfold rLeave at hl
            split at hl
            · rename_i v hv; subst hl
              obtain ⟨y, h1, h2⟩ := results_sound hrs (hA1.mono hF2.ext) hS2 hv
              exact ⟨y, h1, ad2, y, rfl, h2, hS2, hF1.trans hF2⟩
            · exact absurd hl.symm (hb _)
          -- a deferred call
          have dfr : ∀ g gargs p u, ra.d = some (g, gargs) → (∃ s2, evDfr P call tab g gargs p s1 = some s2 ∧ rLeave cf ra s2 = r) → ((p = none ∧ u = .returning) ∨ ∃ v x, p = some v ∧ rabs ad1 v = some x ∧ u = .panicking [{ v := x, recovered := false }]) →
              LeavesIn (Fr none) 0 P fn a1.tmps (Told P ad s w r) a1.defers u w1 := by
            intro g gargs p u hd ⟨s2, hev, hl⟩ hu
            obtain ⟨caps, ws, hdef, hga⟩ := hA1.dfr1 g gargs hd
            rw [hdef]
            have hg : Callable P g := by
              unfold evDfr at hev
              split at hev
              · rename_i cf2 hcf2
                obtain ⟨fn2, c2, dr2, hfn2, hb2, hname2, _⟩ := htab g cf2 hcf2
                exact ⟨fn2, hfn2, by rw [hb2]; rfl, hname2⟩
              · cases hev
            refine leavesIn_cons (f := g) (args := ⟨ws ++ caps⟩) (by rcases hu with ⟨_, rfl⟩ | ⟨_, _, _, _, rfl⟩ <;> simp) (fun h => by cases h) (pureRun_sound _ (invoke_ok hg) w1) (fun _ _ => trivial) ?_
            refine CallsDIn.mono (evDfr_sound hcall htab hev hS1 hga hu) fun e u' w2 he => ?_
            obtain ⟨y, ad2, rfl, hset, hS2, hF2⟩ := he
            simp only
            rw [hset]
            exact leave ad2 s2 w2 hS2 hF2 hl
          have ret : (match ra.d with
              | none => rLeave cf ra s1
              | some (g, gargs) => match evDfr P call tab g gargs none s1 with
                | some s => rLeave cf ra s
                | none => .bad "a deferred call") = r → LeavesIn (Fr none) 0 P fn a1.tmps (Told P ad s w r) a1.defers .returning w1 := by
            intro h
            split at h
            · rename_i hd
              rw [hA1.dfr0 hd]
              exact leave ad1 s1 w1 hS1 (FR.refl _ _ _) h
            · rename_i g gargs hd
              split at h
              · rename_i s2 hev
                exact dfr g gargs none .returning hd ⟨s2, hev, h⟩ (.inl ⟨rfl, rfl⟩)
              · exact absurd h.symm (hb _)
          split at h
          · cases e <;> first | exact hx1.elim | exact ret h
          · cases e <;> first | exact hx1.elim | exact ret h
          · rename_i v
            cases e with
            | panic ch =>
              obtain ⟨y, hy, rfl⟩ := hx1
              show LeavesIn (Fr none) 0 P fn a1.tmps _ a1.defers (.panicking _) w1
              split at h
              · rename_i hd
                rw [hA1.dfr0 hd]
                subst h
                exact ⟨ad1, y, rfl, hy, hS1, hF1⟩
              · rename_i g gargs hd
                split at h
                · rename_i s2 hev
                  exact dfr g gargs (some v) _ hd ⟨s2, hev, h⟩ (.inr ⟨v, y, rfl, hy, rfl⟩)
                · exact absurd h.symm (hb _)
            | _ => exact hx1.elim
          · exact absurd h.symm (hb _)
        · exact absurd h.symm (hb _)
      · rw [hrcv] at h2; cases h2

/-- nothing -/
def S0 : RSt := { n := 0, t := .nil }
theorem SR.none (w : World) : SR P [] S0 w := ⟨rfl, fun b b' p p' h => (by obtain ⟨rb, h1, _⟩ := h; cases h1), fun p hp => (by cases hp), fun b rb h => (by cases h)⟩

/-- a call on values without addresses that yields a value without an address, wherever it is made -/
theorem ResOk.gnd {f : FuncId} {args : List RV} {ws : List Value} {v : RV} {g : Value} {s1 : RSt} (h : ResOk P f args S0 (.ret v s1)) (ha : toGs args = some ws) (hv : v.toG = some g) (s : RSt) : ResOk P f args s (.gnd g) := by
  refine ⟨h.1, fun ad w xs hS hx => ?_⟩
  have hxs : xs = ws := by have := toGs_abs (ad := ad) ha; rw [hx] at this; exact Option.some.inj this
  subst hxs
  refine Calls.mono (h.2 [] w xs (SR.none w) (toGs_abs ha)) fun e w' he => ?_
  obtain ⟨ad', x, he, hx', hS', hF⟩ := he
  have hxg : x = g := toG_eq hv hx'
  subst hxg
  have stay : ∀ y, y < w.heap.size → w'.heap[y]? = w.heap[y]? := fun y hy => hF.stay y hy (fun b p hb => (by obtain ⟨rb, h1, _⟩ := hb; cases h1))
  refine ⟨ad, he, ⟨hS.n, hS.inj, fun p hp => Nat.lt_of_lt_of_le (hS.lt p hp) hF.size, fun b rb hb hd => ?_⟩, ⟨⟨[], by simp⟩, hF.size, fun y hy _ => stay y hy, fun b p hb hp => .inl ⟨b, p, hb, hp, rfl⟩, hF.tape, hF.os, hF.output⟩⟩
  obtain ⟨p, o, hp, ho, hr⟩ := hS.blk b rb hb hd
  exact ⟨p, o, hp, by rw [stay p.a (hS.lt p (List.mem_of_getElem? hp))]; exact ho, hr⟩

/-- a call that leaves the blocks does so whatever they are -/
def GndOk (call : CallF) : Prop := ∀ f args s s' g, call f args s = .gnd g → call f args s' = .gnd g

theorem body_not_gnd {call : CallF} {tab : Tr CFunc} {f : FuncId} {args : List RV} {s : RSt} (g : Value) : evBody P call tab f args s ≠ .gnd g := by
  unfold evBody rLeave
  intro h
  (repeat' split at h) <;> cases h

theorem gnd_sound {call : CallF} (hcall : CallOk P call) {tab : Tr CFunc} (htab : TabOk P call tab) {f : FuncId} {args : List RV} {r : RRes} (h : evGnd P call tab f args = r) (hb : ∀ y, r ≠ .bad y) (s : RSt) : ResOk P f args s r := by
  unfold evGnd at h
  split at h
  · rename_i ws ha
    unfold rrG at h
    split at h
    · rename_i v s1 hr
      split at h
      · rename_i g hg
        subst h
        exact (body_sound hcall htab hr (fun y hy => by cases hy)).gnd ha hg s
      · exact absurd h.symm (hb _)
    · rename_i g hr; exact absurd hr (body_not_gnd g)
    · exact absurd h.symm (hb _)
    · exact absurd h.symm (hb _)
  · exact absurd h.symm (hb _)

theorem evF_sound {tab : Tr CFunc} {og : FuncId → List RV → Option Value} {gf : FuncId → Bool} {ov : FuncId → List RV → RSt → Option RRes} (hog : ∀ f args s g, og f args = some g → ResOk P f args s (.gnd g)) (hov : ∀ f args s r, ov f args s = some r → (∀ y, r ≠ .bad y) → ResOk P f args s r) (hng : ∀ f args s r, ov f args s = some r → ∀ g, r ≠ .gnd g) (htab : ∀ call, CallOk P call → GndOk call → TabOk P call tab) :
    ∀ n, CallOk P (evF P tab og gf ov n) ∧ GndOk (evF P tab og gf ov n)
  | 0 => ⟨fun f args s r h hb => absurd h.symm (hb _), fun f args s s' g h => by cases h⟩
  | n + 1 => by
    obtain ⟨h1, h2⟩ := evF_sound hog hov hng htab n
    have key : ∀ f args s, evF P tab og gf ov (n + 1) f args s = (match og f args with | some g => .gnd g | none => match gf f with
      | true => evGnd P (evF P tab og gf ov n) tab f args
      | false => match ov f args s with | some r => r | none => evBody P (evF P tab og gf ov n) tab f args s) := fun _ _ _ => rfl
    refine ⟨fun f args s r h hb => ?_, fun f args s s' g h => ?_⟩
    · rw [key] at h
      cases hg : og f args with
      | some g => rw [hg] at h; subst h; exact hog f args s g hg
      | none =>
        rw [hg] at h
        cases hgf : gf f with
        | true => rw [hgf] at h; exact gnd_sound h1 (htab _ h1 h2) h hb s
        | false =>
          rw [hgf] at h
          cases hr : ov f args s with
          | some r' => rw [hr] at h; subst h; exact hov f args s _ hr hb
          | none => rw [hr] at h; exact body_sound h1 (htab _ h1 h2) h hb
    · rw [key] at h ⊢
      cases hg : og f args with
      | some g' => rw [hg] at h; exact h
      | none =>
        rw [hg] at h
        cases hgf : gf f with
        | true => rw [hgf] at h; exact h
        | false =>
          rw [hgf] at h
          cases hr : ov f args s with
          | some r' => rw [hr] at h; exact absurd h (hng f args s r' hr g)
          | none => rw [hr] at h; exact absurd h (body_not_gnd _)
end
end Go.Sh
end

section
/- Regions that draw their order: what the interpreter tells of one order holds of all. -/
set_option linter.unusedSimpArgs false
set_option linter.unusedVariables false
set_option linter.unusedSectionVars false
namespace Go.Sh
variable [Env]

section
variable {P : Program} {N : Nat} {ops : Array Oper} {call : CallF}

/-! ### what is read again -/

theorem lEq_eq {f : Value → Value → Bool} (hf : ∀ x y, f x y = true → x = y) : ∀ {a b : List Value}, lEq f a b = true → a = b
  | [], [], _ => rfl
  | [], _ :: _, h => by simp [lEq] at h
  | _ :: _, [], h => by simp [lEq] at h
  | x :: r, y :: q, h => by
    unfold lEq at h
    split at h
    · rename_i h1; rw [hf x y h1, lEq_eq hf h]
    · cases h
theorem aEq_eq {f : Value → Value → Bool} (hf : ∀ x y, f x y = true → x = y) {a b : Array Value} (h : lEq f a.toList b.toList = true) : a = b := Array.ext' (lEq_eq hf h)
theorem fkEq_eq : ∀ {a b : FloatKind}, fkEq a b = true → a = b
  | .f32, .f32, _ => rfl
  | .f64, .f64, _ => rfl
theorem vEq_eq : ∀ {n : Nat} (a b : Value), vEq n a b = true → a = b
  | 0, _, _, h => by simp [vEq] at h
  | n + 1, x, y, h => by
    have ih := @vEq_eq n
    unfold vEq at h
    split at h
    · split at h
      · rename_i hk; have := kNo_inj hk; subst this
        rw [Nat.eq_of_beq_eq_true h]
      · rename_i hk; have := kNo_inj hk; subst this
        rw [Nat.eq_of_beq_eq_true h]
      · cases h
    · simp only [Bool.and_eq_true] at h
      rw [fkEq_eq h.1, Nat.eq_of_beq_eq_true h.2]
    · rfl
    · rfl
    · rw [of_decide_eq_true h]
    · rfl
    · simp only [Bool.and_eq_true] at h
      rw [Nat.eq_of_beq_eq_true h.1, Nat.eq_of_beq_eq_true h.2]
    · rfl
    · rfl
    · rfl
    · simp only [Bool.and_eq_true] at h
      rw [Nat.eq_of_beq_eq_true h.1, ih _ _ h.2]
    · simp only [Bool.and_eq_true] at h
      rw [Nat.eq_of_beq_eq_true h.1, aEq_eq ih h.2.1, aEq_eq ih h.2.2]
    · rw [aEq_eq ih h]
    · rw [aEq_eq ih h]
    · cases h

mutual
theorem rvEq_eq : ∀ {a b : RV}, rvEq a b = true → a = b := by
  intro a b h
  cases a with
  | g x =>
    cases b with
    | g y => rw [vEq_eq x y (show vEq 5 x y = true from h)]
    | _ => simp [rvEq] at h
  | ptr a b' =>
    cases b <;> simp [rvEq] at h
    obtain ⟨h1, h2⟩ := h
    rw [h1, h2]
  | sl a b' c d =>
    cases b with
    | sl e f g h' =>
      cases d <;> cases h' <;> simp [rvEq] at h
      · obtain ⟨⟨⟨h1, h2⟩, h3⟩, h4⟩ := h; rw [h1, h2, h3, h4]
      · obtain ⟨⟨⟨h1, h2⟩, h3⟩, h4⟩ := h; rw [h1, h2, h3, h4]
    | _ => cases d <;> simp [rvEq] at h
  | rest _ _ _ _ _ =>
    cases b <;> simp [rvEq] at h
    obtain ⟨⟨⟨⟨h1, h2⟩, h3⟩, h4⟩, h5⟩ := h
    rw [h1, h2, h3, h4, h5]
  | mp a =>
    cases b <;> simp [rvEq] at h
    rw [h]
  | sy a =>
    cases b <;> simp [rvEq] at h
    rw [h]
  | agg a =>
    cases b <;> simp [rvEq] at h
    rw [rvEqs_eq h]
  | tup a =>
    cases b <;> simp [rvEq] at h
    rw [rvEqs_eq h]
  | ifc _ _ =>
    cases b <;> simp [rvEq] at h
    obtain ⟨h1, h2⟩ := h
    rw [h1, rvEq_eq h2]
  | fn f a c =>
    cases f with
    | func f =>
      cases b with
      | fn g x y =>
        cases g <;> simp [rvEq] at h
        obtain ⟨⟨h1, h2⟩, h3⟩ := h
        rw [h1, rvEqs_eq h2, rvEqs_eq h3]
      | _ => simp [rvEq] at h
    | _ => cases b <;> simp [rvEq] at h
theorem rvEqs_eq : ∀ {a b : List RV}, rvEqs a b = true → a = b
  | [], [], _ => rfl
  | [], _ :: _, h => by simp [rvEqs] at h
  | _ :: _, [], h => by simp [rvEqs] at h
  | x :: r, y :: q, h => by
    simp only [rvEqs, Bool.and_eq_true] at h
    rw [rvEq_eq h.1, rvEqs_eq h.2]
end
end
end Go.Sh
end

section
/- Regions that draw their order: what the interpreter tells of one order holds of all. -/
set_option linter.unusedSimpArgs false
set_option linter.unusedVariables false
set_option maxHeartbeats 1000000
set_option linter.unusedSectionVars false
namespace Go.Sh
variable [Env]

section
variable {P : Program} {ad : List Pl} {s : RSt} {w : World}

/-- 0: yields, 1: nothing, 2: a call, 3: another one -/
def cClass : COp → Nat
  | .store _ _ _ | .upd _ _ _ _ => 1
  | .call _ _ | .callv _ _ => 2
  | .panic _ | .dfr _ _ | .no => 3
  | _ => 0

theorem cls0 {ρ : CEnv} {c : COp} (h : cClass c = 0) : VB (evOp P ρ c s) := by
  rw [evOp_eq]
  cases c <;> first
    | (simp [cClass] at h; done)
    | (simp only [evLoad, evBin, evBinG, evEq, evUn, evConv, evToStr, evToBytes, evMksl, evSlS, evSlT, evFa, evFld, evIa, evIaa, evIx, evIxT, evLook, evView, evDel, evLen, evApp, evCpy, evRng, evRngT, evNxt, evNxtT, evEnt, evG]
       (repeat' split) <;> trivial)
theorem cls1 {ρ : CEnv} {c : COp} (h : cClass c = 1) : (∃ s', evOp P ρ c s = .skip s') ∨ ∃ y, evOp P ρ c s = .bad y := by
  rw [evOp_eq]
  cases c <;> first
    | (simp [cClass] at h; done)
    | (simp only [evStore, evUpd]
       (repeat' split) <;> first | exact .inl ⟨_, rfl⟩ | exact .inr ⟨_, rfl⟩)
theorem cls2 {ρ : CEnv} {c : COp} (h : cClass c = 2) : (∃ f args, evOp P ρ c s = .enter f args) ∨ ∃ y, evOp P ρ c s = .bad y := by
  rw [evOp_eq]
  cases c <;> first
    | (simp [cClass] at h; done)
    | (simp only [evCallee]
       (repeat' split) <;> first | exact .inl ⟨_, _, rfl⟩ | exact .inr ⟨_, rfl⟩)

def NF.val : NF → Nat → Value
  | .ptr, a => .pointer (some ⟨a, 0, none⟩)
  | .mp, a => .map (some a)
  | .sl len, a => .slice (some ⟨a, 0, none⟩) len len
theorem NF.abs (f : NF) {b : Nat} {p : Pl} (h : ad[b]? = some p) : rabs ad (f.rv b) = some (f.val p.a) := by
  cases f with
  | ptr => exact abs_ptr_mk h
  | mp => exact abs_mp_mk h
  | sl len => exact abs_sl_mk (cap := .is len) h trivial

theorem newOf_ev {ρ : CEnv} {c : COp} {f : NF} {rb : RB} (h : newOf ρ c = some (f, rb)) : evOp P ρ c s = .val (f.rv s.n) (s.new rb) := by
  unfold newOf at h
  split at h
  · cases h; rfl
  · cases h; rfl
  · split at h
    · rename_i cc hc; cases h
      show op_bsl _ _ _ _ ρ s = _
      unfold op_bsl
      rw [hc]; rfl
    · cases h
  · cases h

/-- what it looks at -/
def cReads : COp → List COpd
  | .bsl _ _ _ parts => parts.map (·.2.2)
  | .call _ args => args
  | _ => []
theorem rFill_congr {ρ ρ' : CEnv} : ∀ (parts : List (Nat × Nat × COpd)) (cs : List RV), (∀ y ∈ parts.map (·.2.2), ρ y = ρ' y) → rFill ρ parts cs = rFill ρ' parts cs
  | [], cs, _ => rfl
  | (off, size, x) :: r, cs, h => by
    simp only [rFill]
    rw [h x (by simp)]
    split
    · split
      · exact rFill_congr r _ fun y hy => h y (List.mem_cons_of_mem _ hy)
      · rfl
    · rfl
theorem newOf_congr {ρ ρ' : CEnv} {c : COp} (h : ∀ y ∈ cReads c, ρ y = ρ' y) : newOf ρ c = newOf ρ' c := by
  cases c <;> try rfl
  rename_i T z len parts
  simp only [newOf]
  rw [rFill_congr parts _ h]

/-- what is made anew, is made -/
theorem new_run {o : Oper} {c : COp} {ρ : CEnv} {ρ' : Operand → Value} {f : NF} {rb : RB} (hc : compOp P o = some c) (hρ : ER ad ρ ρ') (h : newOf ρ c = some (f, rb)) (w : World) (p : Pl) :
    ∃ obj, (execOp ρ' o).run P w = .ok (.value (f.val w.heap.size)) { w with heap := w.heap.push obj } ∧ BR P ad p rb obj := by
  unfold compOp at hc
  split at hc
  case h_4 =>
    rename_i t ho
    split at hc
    · rename_i z hz; cases hc
      simp only [newOf] at h; cases h
      refine ⟨.cells z.cells t (0, 0), ?_, .cells (gs_abs _)⟩
      rw [ex_alloc o ho]
      apply run_vN
      unfold Instr.alloc
      rw [run_pureRun (show pureRun P (zeroValue t) = some z by rw [pr_zero, hz])]
      rfl
    · cases hc
  case h_7 =>
    rename_i t len parts ho
    split at hc
    · rename_i e hu
      split at hc
      · rename_i n z hn hz
        split at hc
        · rename_i ps hps hle hzs; cases hc
          simp only [newOf] at h
          split at h
          · rename_i cc hcc; cases h
            obtain ⟨vs, h1, h2⟩ := run_bsl (ad := ad) hu hz hn hps (Nat.le_of_ble_eq_true hle) (Nat.eq_of_beq_eq_true hzs) hρ hcc w
            refine ⟨.cells ⟨vs⟩ e (0, 0), ?_, .cells h2⟩
            rw [ex_bsl o ho]
            exact run_vN h1
          · cases h
        · cases hc
      · cases hc
    · cases hc
  case h_16 =>
    rename_i t ho; cases hc
    simp only [newOf] at h; cases h
    refine ⟨.map #[] 0, ?_, .map rfl⟩
    rw [ex_mkmap o ho]
    exact run_vN rfl
  all_goals (exfalso; (repeat' split at hc) <;> first | (cases hc; done) | (cases hc; simp only [newOf] at h; cases h; done) | (unfold cBuiltin at hc; (repeat' split at hc) <;> first | (cases hc; done) | (cases hc; simp only [newOf] at h; cases h; done)))
end
end Go.Sh
end

section
/- Regions that draw their order: what the interpreter tells of one order holds of all: the steps. -/
set_option linter.unusedSimpArgs false
set_option linter.unusedVariables false
set_option maxHeartbeats 10000
set_option linter.unusedSectionVars false
namespace Go.Sh
variable [Env]

section
variable {P : Program} {ad : List Pl} {s s' : RSt} {w : World}

/-- a block that isn't ours is laid beside -/
theorem SR.beside (h : SR P ad s w) (o : Obj) : SR P ad s { w with heap := w.heap.push o } ∧ FR ad ad s s w { w with heap := w.heap.push o } := by
  refine ⟨⟨h.n, h.inj, fun q hq => by have := h.lt q hq; simp; omega, fun b rb hb hd => ?_⟩, ⟨⟨[], by simp⟩, by simp, fun x hx _ => ?_, fun b p hb hp => .inl ⟨b, p, hb, hp, rfl⟩, rfl, rfl, rfl⟩⟩
  · obtain ⟨p, o', hp, ho, hr⟩ := h.blk b rb hb hd
    refine ⟨p, o', hp, ?_, hr⟩
    have := h.lt p (List.mem_of_getElem? hp)
    rw [Array.getElem?_push, if_neg (by omega)]; exact ho
  · rw [Array.getElem?_push, if_neg (by omega)]

/-- a block that was laid beside becomes ours -/
theorem SR.adopt (h : SR P ad s w) {p : Pl} {rb : RB} {o : Obj} (hlt : p.a < w.heap.size) (ho : w.heap[p.a]? = some o) (hr : BR P ad p rb o) (hf : ∀ b q, Pres s b → ad[b]? = some q → q.a ≠ p.a) : SR P (ad ++ [p]) (s.new rb) w := by
  have old : ∀ {b q}, Pres s b → (ad ++ [p])[b]? = some q → ad[b]? = some q := by
    intro b q hb hq
    obtain ⟨rb', h1, h2⟩ := hb
    obtain ⟨q', o', hq', _, _⟩ := h.blk b rb' h1 h2
    rw [get_app hq'] at hq; cases hq; exact hq'
  have new : ∀ {q}, (ad ++ [p])[s.n]? = some q → q = p := by
    intro q hq; rw [h.n] at hq; simp at hq; exact hq.symm
  refine ⟨by simp [RSt.new, h.n], fun b1 b2 p1 p2 h1 h2 hp1 hp2 he => ?_, fun q hq => ?_, fun b' rb' hb' hd => ?_⟩
  · rcases h1.new with e1 | e1 <;> rcases h2.new with e2 | e2
    · rw [e1, e2]
    · rw [e1] at hp1; rw [new hp1] at he; exact absurd he.symm (hf _ _ e2 (old e2 hp2))
    · rw [e2] at hp2; rw [new hp2] at he; exact absurd he (hf _ _ e1 (old e1 hp1))
    · exact h.inj _ _ _ _ e1 e2 (old e1 hp1) (old e2 hp2) he
  · rcases List.mem_append.1 hq with hq | hq
    · exact h.lt q hq
    · simp at hq; subst hq; exact hlt
  · rw [RSt.get_new] at hb'
    by_cases he : b' = s.n
    · rw [if_pos he] at hb'; cases hb'
      exact ⟨p, o, by rw [he, h.n]; simp, ho, hr.mono⟩
    · rw [if_neg he] at hb'
      obtain ⟨q, o', hq, ho', hr'⟩ := h.blk b' rb' hb' hd
      exact ⟨q, o', get_app hq, ho', hr'.mono⟩
theorem FR.adopt {ad0 : List Pl} {s0 : RSt} {w0 : World} (h : FR ad0 ad s0 s w0 w) (hS : SR P ad s w) {p : Pl} {rb : RB} (hp : w0.heap.size ≤ p.a) : FR ad0 (ad ++ [p]) s0 (s.new rb) w0 w := by
  obtain ⟨m, hm⟩ := h.ext
  refine ⟨⟨m ++ [p], by rw [hm]; simp⟩, h.size, h.stay, fun b q hb hq => ?_, h.tape, h.os, h.output⟩
  rcases hb.new with rfl | hb'
  · rw [hS.n] at hq; simp at hq; subst hq; exact .inr hp
  · obtain ⟨rb', h1, h2⟩ := hb'
    obtain ⟨q', o', hq', _, _⟩ := hS.blk b rb' h1 h2
    rw [get_app hq'] at hq; cases hq
    exact h.pres b _ ⟨rb', h1, h2⟩ hq'

/-! ### the marks ahead -/

theorem compD_it {N i : Nat} {ops : Array Oper} (h : i < 1000) : compD P N ops i = compItem P N ops i := by
  unfold compD
  have h0 : Nat.ble 3000 i = false := by cases hb : Nat.ble 3000 i with | false => rfl | true => have := Nat.le_of_ble_eq_true hb; omega
  have h1 : Nat.ble 2000 i = false := by cases hb : Nat.ble 2000 i with | false => rfl | true => have := Nat.le_of_ble_eq_true hb; omega
  have h2 : Nat.ble 1000 i = false := by cases hb : Nat.ble 1000 i with | false => rfl | true => have := Nat.le_of_ble_eq_true hb; omega
  rw [h0]; simp only; rw [h1]; simp only; rw [h2]

def skipM : List Nat → List Nat
  | [] => []
  | i :: l => if 1000 ≤ i then skipM l else i :: l
def marks : List Nat → List Nat
  | [] => []
  | i :: l => if 1000 ≤ i then i :: marks l else []

theorem oMap_cons {α β : Type} {f : α → Option β} {x : α} {l : List α} {m : List β} (h : oMap f (x :: l) = some m) : ∃ y m', f x = some y ∧ oMap f l = some m' ∧ m = y :: m' := by
  simp only [oMap] at h
  split at h
  · rename_i y l' h1 h2; cases h; exact ⟨y, l', h1, h2, rfl⟩
  · cases h

/-- a mark passes, or tells nothing -/
theorem mark_pass {N i : Nat} {ops : Array Oper} {call : CallF} {it : CItem} (hi : 1000 ≤ i) (hc : compD P N ops i = some it) {k : Cont} {ra ra' : RAct} (h : evItem P call it k ra s = .ok .normal ra' s') : k ra s = .ok .normal ra' s' := by
  unfold compD at hc
  split at hc
  · split at hc
    · rename_i o ho; cases hc
      have h : itPc call (compOpN P o) k ra s = .ok .normal ra' s' := h
      unfold itPc at h
      split at h
      · split at h
        · exact h
        · cases h
      · cases h
    · cases hc
  split at hc
  · split at hc
    · rename_i o ho; cases hc
      have h : itNw (compOpN P o) k ra s = .ok .normal ra' s' := h
      unfold itNw at h
      split at h
      · exact h
      · cases h
    · cases hc
  · split at hc
    · unfold compCk at hc
      split at hc
      · rename_i o ho
        split at hc
        · rename_i e he
          have key : ∀ g, evItem P call (.ck (compOpN P o) (pth e) g) k ra s = .ok .normal ra' s' → k ra s = .ok .normal ra' s' := by
            intro g h
            have h : itCk P (compOpN P o) (pth e) g k ra s = .ok .normal ra' s' := h
            have one : itCk1 P (compOpN P o) (pth e) k ra s = .ok .normal ra' s' → k ra s = .ok .normal ra' s' := by
              intro h
              unfold itCk1 at h
              split at h
              · split at h
                · exact h
                · cases h
              · cases h
            unfold itCk at h
            split at h
            · exact one h
            · split at h
              · exact one h
              · exact h
          split at hc
          · cases hc; exact key _ h
          · split at hc
            · split at hc
              · cases hc; exact key _ h
              · cases hc
            · cases hc
        · cases hc
      · cases hc
    · rename_i hb
      have : ¬ 1000 ≤ i := Nat.not_le_of_not_ble_eq_true (by rw [hb]; decide)
      omega

theorem skip_pass {N : Nat} {ops : Array Oper} {call : CallF} {ra ra' : RAct} : ∀ {L : List Nat} {items : List CItem}, oMap (compD P N ops) L = some items → evItems P call items ra s = .ok .normal ra' s' →
    ∃ items', oMap (compD P N ops) (skipM L) = some items' ∧ evItems P call items' ra s = .ok .normal ra' s'
  | [], items, hm, h => ⟨items, hm, h⟩
  | i :: l, items, hm, h => by
    unfold skipM
    split
    · rename_i hi
      obtain ⟨y, m, h1, h2, rfl⟩ := oMap_cons hm
      rw [evItems_cons] at h
      exact skip_pass h2 (mark_pass hi h1 h)
    · exact ⟨items, hm, h⟩

theorem wanted_guard {N j : Nat} {want : Bool} {ops : Array Oper} {o oj : Oper} {d : Tmp} {ra : RAct} {a : Act} (hg : o.guard = some (j, want)) (hj : ops[j]? = some oj) (hd : oj.dst = some d) (hA : AR ad N ra a) :
    Region.wanted o (yielded ops a.tmps) = rWanted (rSlot ra.t (pth d)) want := wanted_eq hg hj hd hA

/-- what is read again, is as it was -/
theorem ck_read {N k : Nat} {ops : Array Oper} {call : CallF} {ra ra' : RAct} {a : Act} (hA : AR ad N ra a) (hk : k < 1000) : ∀ {L : List Nat} {items : List CItem}, oMap (compD P N ops) L = some items → evItems P call items ra s = .ok .normal ra' s' →
    k + 1000 ∈ marks L → ∃ o d, ops[k]? = some o ∧ o.dst = some d ∧ (Region.wanted o (yielded ops a.tmps) = true → ∃ c v s1, compOp P o = some c ∧ evOp P ra.env c s = .val v s1 ∧ v = rSlot ra.t (pth d))
  | [], items, hm, h, hmem => by simp [marks] at hmem
  | i :: l, items, hm, h, hmem => by
    obtain ⟨y, m, h1, h2, rfl⟩ := oMap_cons hm
    rw [evItems_cons] at h
    unfold marks at hmem
    split at hmem
    · rename_i hi
      rcases List.mem_cons.1 hmem with he | hmem
      · subst he
        unfold compD at h1
        have b0 : Nat.ble 3000 (k + 1000) = false := by cases hb : Nat.ble 3000 (k + 1000) with | false => rfl | true => have := Nat.le_of_ble_eq_true hb; omega
        have b1 : Nat.ble 2000 (k + 1000) = false := by cases hb : Nat.ble 2000 (k + 1000) with | false => rfl | true => have := Nat.le_of_ble_eq_true hb; omega
        have b2 : Nat.ble 1000 (k + 1000) = true := Nat.ble_eq_true_of_le (by omega)
        simp only [b0, b1, b2, Nat.add_sub_cancel] at h1
        unfold compCk at h1
        split at h1
        · rename_i o ho
          split at h1
          · rename_i e he
            refine ⟨o, e, ho, he, fun hw => ?_⟩
            have one : itCk1 P (compOpN P o) (pth e) (evItems P call m) ra s = .ok .normal ra' s' → ∃ c v s1, compOp P o = some c ∧ evOp P ra.env c s = .val v s1 ∧ v = rSlot ra.t (pth e) := by
              intro h
              unfold itCk1 at h
              split at h
              · rename_i v s1 hev
                split at h
                · rename_i heq
                  unfold compOpN at hev
                  cases hc : compOp P o with
                  | none => rw [hc] at hev; cases hev
                  | some c => rw [hc] at hev; exact ⟨c, v, s1, rfl, hev, rvEq_eq heq⟩
                · cases h
              · cases h
            split at h1
            · cases h1; exact one h
            · rename_i j want hg
              split at h1
              · rename_i oj hoj
                split at h1
                · rename_i dj hdj; cases h1
                  have h : itCk P (compOpN P o) (pth e) (some (pth dj, want)) (evItems P call m) ra s = .ok .normal ra' s' := h
                  unfold itCk at h
                  rw [wanted_eq hg hoj hdj hA] at hw
                  simp only [hw] at h
                  exact one h
                · cases h1
              · cases h1
          · cases h1
        · cases h1
      · exact ck_read hA hk h2 (mark_pass hi h1 h) hmem
    · simp at hmem

/-- what could be made here -/
theorem nw_read {N j : Nat} (hj : j < 1000) {ops : Array Oper} {call : CallF} {ra ra' : RAct} : ∀ {L : List Nat} {items : List CItem}, oMap (compD P N ops) L = some items → evItems P call items ra s = .ok .normal ra' s' →
    j + 2000 ∈ marks L → ∃ o f rb, ops[j]? = some o ∧ newOf ra.env (compOpN P o) = some (f, rb)
  | [], items, hm, h, hmem => by simp [marks] at hmem
  | i :: l, items, hm, h, hmem => by
    obtain ⟨y, m, h1, h2, rfl⟩ := oMap_cons hm
    rw [evItems_cons] at h
    unfold marks at hmem
    split at hmem
    · rename_i hi
      rcases List.mem_cons.1 hmem with he | hmem
      · subst he
        unfold compD at h1
        have b0 : Nat.ble 3000 (j + 2000) = false := by cases hb : Nat.ble 3000 (j + 2000) with | false => rfl | true => have := Nat.le_of_ble_eq_true hb; omega
        have b1 : Nat.ble 2000 (j + 2000) = true := Nat.ble_eq_true_of_le (by omega)
        simp only [b0, b1, Nat.add_sub_cancel] at h1
        split at h1
        · rename_i o ho; cases h1
          have h : itNw (compOpN P o) (evItems P call m) ra s = .ok .normal ra' s' := h
          unfold itNw at h
          split at h
          · rename_i x hx
            exact ⟨o, x.1, x.2, ho, hx⟩
          · cases h
        · cases h1
      · exact nw_read hj h2 (mark_pass hi h1 h) hmem
    · simp at hmem

/-- what could be called here -/
theorem pc_read {N j : Nat} {ops : Array Oper} {call : CallF} {ra ra' : RAct} : ∀ {L : List Nat} {items : List CItem}, oMap (compD P N ops) L = some items → evItems P call items ra s = .ok .normal ra' s' →
    j + 3000 ∈ marks L → ∃ o f args g, ops[j]? = some o ∧ compOp P o = some (.call f args) ∧ call f (args.map ra.env) s = .gnd g
  | [], items, hm, h, hmem => by simp [marks] at hmem
  | i :: l, items, hm, h, hmem => by
    obtain ⟨y, m, h1, h2, rfl⟩ := oMap_cons hm
    rw [evItems_cons] at h
    unfold marks at hmem
    split at hmem
    · rename_i hi
      rcases List.mem_cons.1 hmem with he | hmem
      · subst he
        unfold compD at h1
        have b1 : Nat.ble 3000 (j + 3000) = true := Nat.ble_eq_true_of_le (by omega)
        simp only [b1, Nat.add_sub_cancel] at h1
        split at h1
        · rename_i o ho; cases h1
          have h : itPc call (compOpN P o) (evItems P call m) ra s = .ok .normal ra' s' := h
          unfold itPc at h
          split at h
          · rename_i f args hc
            split at h
            · rename_i g hg
              refine ⟨o, f, args, g, ho, ?_, hg⟩
              unfold compOpN at hc
              cases hcc : compOp P o with
              | none => rw [hcc] at hc; cases hc
              | some c => rw [hcc] at hc; exact congrArg some hc
            · cases h
          · cases h
        · cases h1
      · exact pc_read h2 (mark_pass hi h1 h) hmem
    · simp at hmem

/-! ### an order, and the one that was run -/

/-- what was done ahead of its time: a new block -/
def AheadB (P : Program) (w0 : World) (ad : List Pl) (ra : RAct) (s : RSt) (w : World) (c : COp) (x : Value) : Prop := ∃ f rb p obj, x = NF.val f p.a ∧ newOf ra.env c = some (f, rb) ∧
    p.a < w.heap.size ∧ w0.heap.size ≤ p.a ∧ w.heap[p.a]? = some obj ∧ BR P ad p rb obj ∧ ∀ b q, Pres s b → ad[b]? = some q → q.a ≠ p.a
/-- what was done ahead of its time: a call that leaves the blocks -/
def AheadC (call : CallF) (ra : RAct) (c : COp) (x : Value) : Prop := ∃ f args, c = .call f args ∧ ∀ s, call f (args.map ra.env) s = .gnd x
def DRel (P : Program) (call : CallF) (N : Nat) (ops : Array Oper) (ad0 : List Pl) (s0 : RSt) (w0 : World) (pe : Option Nat) (ad : List Pl) (ra : RAct) (am a : Act) (s : RSt) (w : World) : Prop :=
  AR ad N ra am ∧ SR P ad s w ∧ FR ad0 ad s0 s w0 w ∧ (pe = none → a = am) ∧ ∀ j, pe = some j → ∃ o d c x, a = am.set d x ∧ ops[j]? = some o ∧ o.dst = some d ∧ d < N ∧ o.guard = none ∧ compOp P o = some c ∧ (AheadB P w0 ad ra s w c x ∨ AheadC call ra c x)

/-- operation i may come while j has been done ahead of its time -/
def peOk (P : Program) (ops : Array Oper) (pe : Option Nat) (i : Nat) : Bool := match pe with
  | none => true
  | some j => blind ops j i && unlike ops j i && match ops[j]?, ops[i]? with
    | some oj, some oi => match oi.dst with
      | some d => (cReads (compOpN P oj)).all fun y => match y with | .t q => !decide (q = pth d) | _ => true
      | none => true
    | _, _ => false

variable {call : CallF} {N : Nat} {ops : Array Oper} {ad0 : List Pl} {s0 : RSt} {w0 : World} {pe : Option Nat}

theorem DRel.look (hsel : Region.noSelect ops = true) {ra : RAct} {am a : Act} (h : DRel P call N ops ad0 s0 w0 pe ad ra am a s w) {i : Nat} {o : Oper} (ho : ops[i]? = some o) (hp : peOk P ops pe i = true) :
    execOp a.eval o = execOp am.eval o ∧ Region.wanted o (yielded ops a.tmps) = Region.wanted o (yielded ops am.tmps) := by
  obtain ⟨hA, hS, hF, h0, h1⟩ := h
  cases pe with
  | none => rw [h0 rfl]; exact ⟨rfl, rfl⟩
  | some j =>
    obtain ⟨oj, d, c, x, ha, hoj, hdj, _⟩ := h1 j rfl
    simp only [peOk, Bool.and_eq_true] at hp
    have hbl := blind_spec hp.1.1 (d := d) (by simp [dstIs, hoj, hdj]) ho
    rw [ha]
    refine look_congr (noSel hsel ho) (size_set _ _ _) fun y hy => ?_
    rw [slot_set, if_neg]
    rintro ⟨rfl, _⟩
    exact hbl hy

/-- what comes of an operation -/
theorem DRel.put {ra : RAct} {am a : Act} (h : DRel P call N ops ad0 s0 w0 pe ad ra am a s w) {i : Nat} {o : Oper} (ho : ops[i]? = some o) (hd : dstOk N o.dst = true) (hp : peOk P ops pe i = true) {ad1 : List Pl} {v : RV} {x : Value} {s1 : RSt} {w1 : World}
    (hv : rabs ad1 v = some x) (hS1 : SR P ad1 s1 w1) (hF1 : FR ad ad1 s s1 w w1) : ∃ am', DRel P call N ops ad0 s0 w0 pe ad1 (ra.put? (oPth o.dst) v) am' (a.put o.dst x) s1 w1 := by
  obtain ⟨hA, hS, hF, h0, h1⟩ := h
  refine ⟨am.put o.dst x, (hA.mono hF1.ext).put? hd hv, hS1, hF.trans hF1, fun hn => by rw [h0 hn], fun j hj => ?_⟩
  obtain ⟨oj, d, c, z, ha, hoj, hdj, hdN, hg, hc, hahead⟩ := h1 j hj
  subst hj
  simp only [peOk, Bool.and_eq_true, hoj, ho] at hp
  obtain ⟨⟨hbl, hun⟩, hst⟩ := hp
  have same : ∀ y ∈ cReads c, (ra.put? (oPth o.dst) v).env y = ra.env y := by
    intro y hy
    cases hdd : o.dst with
    | none => rfl
    | some e =>
      rw [hdd] at hst
      have hcc : compOpN P oj = c := by unfold compOpN; rw [hc]
      rw [hcc] at hst
      have := List.all_eq_true.1 hst y hy
      cases y with
      | t q =>
        simp only [Bool.not_eq_true', decide_eq_false_iff_not] at this
        show rSlot (ra.t.lay (pth e) v) q = rSlot ra.t q
        rw [rSlot_lay, if_neg this]
      | c v => rfl
      | f f => rfl
  refine ⟨oj, d, c, z, ?_, hoj, hdj, hdN, hg, hc, ?_⟩
  · rw [ha]
    cases hdd : o.dst with
    | none => rfl
    | some e =>
      have hne : d ≠ e := by
        have := unlike_spec hun (d := d) (by simp [dstIs, hoj, hdj])
        intro hde; subst hde
        exact this (by simp [dstIs, ho, hdd])
      show (am.set d _).set e x = (am.set e x).set d _
      refine Act.ext_slot rfl (by simp [size_set]) fun y hy => ?_
      simp only [slot_set, size_set]
      by_cases h1 : e = y
      · subst h1
        by_cases h2 : d = e
        · exact absurd h2 hne
        · simp [h2]
      · by_cases h2 : d = y
        · subst h2; simp [h1]
        · simp [h1, h2]
  · rcases hahead with ⟨f, rb, p, obj, hz, hnew, hlt, hge, hobj, hbr, hfr⟩ | ⟨f, args, hca, hcall⟩
    · left
      refine ⟨f, rb, p, obj, hz, ?_, Nat.lt_of_lt_of_le hlt hF1.size, hge, ?_, ?_, ?_⟩
      · rw [← hnew]
        exact newOf_congr same
      · rw [hF1.stay p.a hlt (fun b q hb hq => hfr b q hb hq)]; exact hobj
      · obtain ⟨m, rfl⟩ := hF1.ext; exact hbr.mono
      · intro b q hb hq
        rcases hF1.pres b q hb hq with ⟨b0, p0, h2, h3, h4⟩ | h2
        · rw [← h4]; exact hfr b0 p0 h2 h3
        · omega
    · right
      refine ⟨f, args, hca, fun s => ?_⟩
      rw [show args.map (ra.put? (oPth o.dst) v).env = args.map ra.env from List.map_congr_left fun y hy => same y (by rw [hca]; exact hy)]
      exact hcall s

/-- the one that was done ahead of its time comes -/
theorem DRel.pop {ra ra' : RAct} {am a : Act} {j : Nat} (h : DRel P call N ops ad0 s0 w0 (some j) ad ra am a s w) {it : CItem} (hit : compItem P N ops j = some it) {k : Cont} (hev : evItem P call it k ra s = .ok .normal ra' s') :
    ∃ ad1 ra1 s1, k ra1 s1 = .ok .normal ra' s' ∧ DRel P call N ops ad0 s0 w0 none ad1 ra1 a a s1 w := by
  obtain ⟨hA, hS, hF, h0, h1⟩ := h
  obtain ⟨oj, d, c, z, ha, hoj, hdj, hdN, hg, hc, hahead⟩ := h1 j rfl
  obtain ⟨o, c', ho, hd, hcc, hgg⟩ := compItem_cases hit
  rw [hoj] at ho; cases ho
  have hc' : c' = c := by
    rcases hcc with h | h
    · rw [hc] at h; exact (Option.some.inj h).symm
    · rcases hgg with ⟨_, rfl⟩ | ⟨j', w', oj', d', hgj, _⟩
      · subst h
        unfold mkItem at hev
        rw [hdj] at hev
        cases hev
      · rw [hg] at hgj; cases hgj
  subst hc'
  rcases hgg with ⟨_, rfl⟩ | ⟨j', w', oj', d', hgj, _⟩
  · have h2 : aft call (evOp P ra.env c' s) s (oPth oj.dst) k ra = .ok .normal ra' s' := by
      unfold mkItem at hev
      rw [hdj] at hev ⊢
      cases c' <;> exact hev
    rcases hahead with ⟨f, rb, p, obj, hz, hnew, hlt, hge, hobj, hbr, hfr⟩ | ⟨f, args, hca, hcall⟩
    · rw [newOf_ev hnew, hdj] at h2
      have hSa := hS.adopt hlt hobj hbr hfr
      refine ⟨ad ++ [p], ra.put (pth d) (f.rv s.n), s.new rb, h2, ?_, hSa, hF.adopt hS hge, fun _ => rfl, fun j hj => by cases hj⟩
      rw [ha, hz]
      exact (hA.mono ⟨[p], rfl⟩).put hdN (f.abs (by rw [hS.n]; simp))
    · subst hca
      have h2 : aftR s (call f (args.map ra.env) s) (oPth oj.dst) k ra = .ok .normal ra' s' := h2
      rw [hcall s, hdj] at h2
      refine ⟨ad, ra.put (pth d) (.g z), s, h2, ?_, hS, hF, fun _ => rfl, fun j hj => by cases hj⟩
      rw [ha]
      exact hA.put hdN rfl
  · rw [hg] at hgj; cases hgj
end
end Go.Sh
end

section
/- Regions that draw their order: what the interpreter tells of one order holds of all. -/
set_option linter.unusedSimpArgs false
set_option linter.unusedVariables false
set_option maxHeartbeats 2000000
set_option linter.unusedSectionVars false
namespace Go.Sh
variable [Env]

section
variable (P : Program) (N : Nat) (ops : Array Oper)

def kindOf (i : Nat) : Nat := match ops[i]? with | some o => cKind (compOpN P o) | none => 9
def classOf (i : Nat) : Nat := match ops[i]? with | some o => cClass (compOpN P o) | none => 9
def isRaw : Ty → Bool
  | .one (.leaf .raw) => true
  | _ => false
def modeOk (m : Mode) (k : Nat) : Bool := match m with
  | .val t => isRaw t && Nat.beq k 0
  | .get t => isRaw t && Nat.ble k 1
  | .pure => false
def chkOk (pe : Option Nat) (L : List Nat) (chk : List Nat) : Bool := chk.all fun k => Nat.blt k 1000 && (marks L).contains (k + 1000) && Nat.ble (kindOf P ops k) 1 && peOk P ops pe k
def popD (pe : Option Nat) (L : List Nat) : Option Nat × List Nat := match pe with
  | none => (none, skipM L)
  | some j => match skipM L with
    | i :: l => if i = j then (none, skipM l) else (some j, i :: l)
    | [] => (some j, [])
def earlyOk (i : Nat) : Bool := match ops[i]? with
  | some o => match o.guard, o.dst with
    | none, some d => Nat.blt d N
    | _, _ => false
  | none => false
def headOk (pe : Option Nat) (i : Nat) (l : List Nat) (j : Nat) : Bool := Nat.beq i j && Nat.blt i 1000 && peOk P ops pe i

def okD : DSteps → Option Nat → List Nat → Bool
  | .nil, pe, L => match popD pe L with | (none, []) => true | _ => false
  | .take i m r, pe, L => match popD pe L with
    | (pe', j :: l) => headOk P ops pe' i l j && modeOk m (kindOf P ops i) && okD r pe' l
    | _ => false
  | .now i m chk r, pe, L => match popD pe L with
    | (pe', j :: l) => headOk P ops pe' i l j && modeOk m (kindOf P ops i) && chkOk P ops pe' l chk && okD r pe' l
    | _ => false
  | .eff i t chk r, pe, L => (match popD pe L with
    | (pe', j :: l) => headOk P ops pe' i l j && isRaw t && Nat.beq (classOf P ops i) 0 && chkOk P ops pe' l chk && okD r pe' l
    | _ => false) || (pe.isNone && isRaw t && (Nat.blt i 1000 && earlyOk N ops i) && (marks L).contains (i + 2000) && chkOk P ops (some i) L chk && okD r (some i) L)
  | .effU i chk r, pe, L => match popD pe L with
    | (pe', j :: l) => headOk P ops pe' i l j && Nat.beq (classOf P ops i) 1 && chkOk P ops pe' l chk && okD r pe' l
    | _ => false
  | .call i t chk r, pe, L => (match popD pe L with
    | (pe', j :: l) => headOk P ops pe' i l j && isRaw t && Nat.beq (classOf P ops i) 2 && chkOk P ops pe' l chk && okD r pe' l
    | _ => false) || (pe.isNone && isRaw t && (Nat.blt i 1000 && earlyOk N ops i) && (marks L).contains (i + 3000) && chkOk P ops (some i) L chk && okD r (some i) L)
  | .inv _ _ _ _, _, _ => false
  | .split _ r, pe, L => okD r pe L
  | .alt r1 r2, pe, L => okD r1 pe L && okD r2 pe L
end

section
variable {P : Program} {N : Nat} {ops : Array Oper} {ad0 : List Pl} {s0 : RSt} {w0 : World} {call : CallF} {ra' : RAct} {s' : RSt}

theorem pop_ok {pe : Option Nat} {L : List Nat} {items : List CItem} {ad : List Pl} {ra : RAct} {am a : Act} {s : RSt} {w : World} (h : DRel P call N ops ad0 s0 w0 pe ad ra am a s w) (hm : oMap (compD P N ops) L = some items)
    (hev : evItems P call items ra s = .ok .normal ra' s') (hj : ∀ j, pe = some j → j < 1000) :
    ∃ items' ad1 ra1 am1 s1, DRel P call N ops ad0 s0 w0 (popD pe L).1 ad1 ra1 am1 a s1 w ∧ oMap (compD P N ops) (popD pe L).2 = some items' ∧ evItems P call items' ra1 s1 = .ok .normal ra' s' := by
  obtain ⟨it1, hm1, hev1⟩ := skip_pass hm hev
  unfold popD
  cases pe with
  | none => exact ⟨it1, ad, ra, am, s, h, hm1, hev1⟩
  | some j =>
    simp only
    cases hs : skipM L with
    | nil => rw [hs] at hm1; exact ⟨it1, ad, ra, am, s, h, hm1, hev1⟩
    | cons i l =>
      rw [hs] at hm1
      simp only
      by_cases he : i = j
      · subst he
        rw [if_pos rfl]
        obtain ⟨y, m, h1, h2, rfl⟩ := oMap_cons hm1
        rw [compD_it (hj i rfl)] at h1
        rw [evItems_cons] at hev1
        obtain ⟨ad1, ra1, s1, h3, h4⟩ := h.pop h1 hev1
        obtain ⟨it2, hm2, hev2⟩ := skip_pass h2 h3
        exact ⟨it2, ad1, ra1, a, s1, h4, hm2, hev2⟩
      · rw [if_neg he]
        exact ⟨it1, ad, ra, am, s, h, hm1, hev1⟩

/-- an item: it is wanted, or not -/
theorem item_split {i : Nat} {it : CItem} (hit : compItem P N ops i = some it) {ad : List Pl} {ra : RAct} {a : Act} (hA : AR ad N ra a) {s : RSt} {k : Cont} (h : evItem P call it k ra s = .ok .normal ra' s') :
    ∃ o, ops[i]? = some o ∧ dstOk N o.dst = true ∧ ((Region.wanted o (yielded ops a.tmps) = true ∧ ∃ c, compOp P o = some c ∧ aft call (evOp P ra.env c s) s (oPth o.dst) k ra = .ok .normal ra' s') ∨
      (Region.wanted o (yielded ops a.tmps) = false ∧ k (ra.put? (oPth o.dst) rUndef) s = .ok .normal ra' s')) := by
  obtain ⟨o, c, ho, hd, hc, hg⟩ := compItem_cases hit
  refine ⟨o, ho, hd, ?_⟩
  have some_c : ∀ {k}, aft call (evOp P ra.env c s) s (oPth o.dst) k ra = .ok .normal ra' s' → ∃ c, compOp P o = some c ∧ aft call (evOp P ra.env c s) s (oPth o.dst) k ra = .ok .normal ra' s' := fun {k} h => by
    rcases hc with hc | hc
    · exact ⟨c, hc, h⟩
    · subst hc; cases h
  rcases hg with ⟨hg, rfl⟩ | ⟨j, want, oj, d, hg, hoj, hod, rfl⟩
  · left
    refine ⟨by unfold Region.wanted; rw [hg], some_c ?_⟩
    unfold mkItem at h
    cases hdd : o.dst with
    | none => rw [hdd] at h; exact h
    | some d => rw [hdd] at h; cases c <;> exact h
  · have hw := wanted_eq hg hoj hod hA
    have h : itGd P call c (oPth o.dst) (pth d) want k ra s = .ok .normal ra' s' := h
    unfold itGd at h
    cases hr : rWanted (rSlot ra.t (pth d)) want with
    | true => rw [hr] at h; exact .inl ⟨hw.trans hr, some_c h⟩
    | false => rw [hr] at h; exact .inr ⟨hw.trans hr, h⟩

theorem kindOf_eq {i : Nat} {o : Oper} {c : COp} (ho : ops[i]? = some o) (hc : compOp P o = some c) : kindOf P ops i = cKind c ∧ classOf P ops i = cClass c := by
  unfold kindOf classOf compOpN
  simp only [ho, hc]; exact ⟨trivial, trivial⟩

/-- all that is read again -/
theorem checks_ok (hsel : Region.noSelect ops = true) {pe : Option Nat} {L : List Nat} {items : List CItem} {ad : List Pl} {ra : RAct} {am a : Act} {s : RSt} {w : World} (h : DRel P call N ops ad0 s0 w0 pe ad ra am a s w)
    (hm : oMap (compD P N ops) L = some items) (hev : evItems P call items ra s = .ok .normal ra' s') {V : Pr} (hV : V w) : ∀ (chk : List Nat), chkOk P ops pe L chk = true → checksV P ops a V chk w
  | [], _ => hV
  | k :: chk, hc => by
    unfold chkOk at hc
    simp only [List.all_cons, Bool.and_eq_true] at hc
    obtain ⟨⟨⟨⟨h1, h2⟩, h3⟩, h4⟩, h5⟩ := hc
    have ih := checks_ok hsel h hm hev hV chk h5
    have hk : k < 1000 := by simpa [Nat.blt, Nat.succ_le_iff] using h1
    obtain ⟨hA, hS, hF, h0, hp⟩ := id h
    obtain ⟨o, d, ho, hd, hread⟩ := ck_read hA hk hm hev (by simpa using h2)
    obtain ⟨e1, e2⟩ := h.look hsel ho h4
    simp only [checksV, ho]
    cases hw : Region.wanted o (yielded ops a.tmps) with
    | false => exact ih
    | true =>
      rw [e2] at hw
      obtain ⟨c, v, s1, hcc, hv, rfl⟩ := hread hw
      have hop := compOp_sound (w := w) hcc (fun f => rfl) hA.er hS
      rw [hv] at hop
      have hkk : cKind c ≤ 1 := by have := Nat.le_of_ble_eq_true h3; rw [(kindOf_eq ho hcc).1] at this; exact this
      have hr : ReadOk P ad w (execOp am.eval o) (rSlot ra.t (pth d)) := by
        rcases Nat.lt_or_ge (cKind c) 1 with h | h
        · exact ((hop.1 (by omega)).2).read w
        · exact (hop.2.1 (by omega)).2
      obtain ⟨x, hx1, hx2⟩ := hr
      have hx3 := hA.slots d
      rw [hx2] at hx3
      have hsl : slot a d = x := by
        rw [Option.some.inj hx3]
        cases pe with
        | none => rw [h0 rfl]
        | some j =>
          obtain ⟨oj, dj, _, _, ha, hoj, hdj, _⟩ := hp j rfl
          simp only [peOk, Bool.and_eq_true] at h4
          have hne : dj ≠ d := by
            have := unlike_spec h4.1.2 (d := dj) (by simp [dstIs, hoj, hdj])
            intro he; subst he; exact this (by simp [dstIs, ho, hd])
          rw [ha, slot_set, if_neg (fun h => hne h.1)]
      refine ⟨?_, ih⟩
      rw [e1, hd]
      simp only [hsl]
      exact hx1

theorem headOk_spec {pe : Option Nat} {i j : Nat} {l : List Nat} (h : headOk P ops pe i l j = true) : i = j ∧ i < 1000 ∧ peOk P ops pe i = true := by
  simp only [headOk, Bool.and_eq_true] at h
  exact ⟨Nat.eq_of_beq_eq_true h.1.1, by simpa [Nat.blt, Nat.succ_le_iff] using h.1.2, h.2⟩
theorem isRaw_spec {t : Ty} (h : isRaw t = true) : t = tRaw := by
  unfold isRaw at h
  split at h
  · rfl
  · cases h
end
end Go.Sh
end

section
/- Regions that draw their order: what the interpreter tells of one order holds of all: the whole. -/
set_option linter.unusedSimpArgs false
set_option linter.unusedVariables false
set_option maxHeartbeats 4000000
set_option linter.unusedSectionVars false
namespace Go.Sh
variable [Env]

section
variable {P : Program} {N : Nat} {ops : Array Oper} {ad0 : List Pl} {s0 : RSt} {w0 : World} {call : CallF} {ra' : RAct} {s' : RSt}

/-- what holds behind the region -/
def NextD (P : Program) (N : Nat) (ad0 : List Pl) (s0 : RSt) (w0 : World) (ra' : RAct) (s' : RSt) (a : Act) (w : World) : Prop := ∃ ad', AR ad' N ra' a ∧ SR P ad' s' w ∧ FR ad0 ad' s0 s' w0 w

/-- the head of the list is taken -/
theorem head_ok {pe : Option Nat} {i : Nat} {l : List Nat} {items : List CItem} {ad : List Pl} {ra : RAct} {am a : Act} {s : RSt} {w : World} (hsel : Region.noSelect ops = true) (hi : i < 1000) (hp : peOk P ops pe i = true)
    (h : DRel P call N ops ad0 s0 w0 pe ad ra am a s w) (hm : oMap (compD P N ops) (i :: l) = some items) (hev : evItems P call items ra s = .ok .normal ra' s') :
    ∃ o m, ops[i]? = some o ∧ oMap (compD P N ops) l = some m ∧
      ((Region.wanted o (yielded ops a.tmps) = false ∧ ∃ am', DRel P call N ops ad0 s0 w0 pe ad (ra.put? (oPth o.dst) rUndef) am' (a.put o.dst undef) s w ∧ evItems P call m (ra.put? (oPth o.dst) rUndef) s = .ok .normal ra' s') ∨
       (Region.wanted o (yielded ops a.tmps) = true ∧ ∃ c, compOp P o = some c ∧ aft call (evOp P ra.env c s) s (oPth o.dst) (evItems P call m) ra = .ok .normal ra' s' ∧ OpOk P ad s w (cKind c) (execOp a.eval o) (evOp P ra.env c s) ∧
        ∀ ad1 v x s1 w1, rabs ad1 v = some x → SR P ad1 s1 w1 → FR ad ad1 s s1 w w1 → ∃ am', DRel P call N ops ad0 s0 w0 pe ad1 (ra.put? (oPth o.dst) v) am' (a.put o.dst x) s1 w1)) := by
  obtain ⟨it, m, h1, h2, rfl⟩ := oMap_cons hm
  rw [compD_it hi] at h1
  rw [evItems_cons] at hev
  obtain ⟨hA, hS, hF, h0, hpe⟩ := id h
  obtain ⟨o, ho, hd, hw⟩ := item_split h1 hA hev
  obtain ⟨e1, e2⟩ := h.look hsel ho hp
  refine ⟨o, m, ho, h2, ?_⟩
  rcases hw with ⟨hw, c, hc, hk⟩ | ⟨hw, hk⟩
  · right
    refine ⟨e2.trans hw, c, hc, hk, ?_, fun ad1 v x s1 w1 hv hS1 hF1 => h.put ho hd hp hv hS1 hF1⟩
    rw [e1]
    exact compOp_sound hc (fun f => rfl) hA.er hS
  · left
    obtain ⟨am', h3⟩ := h.put ho hd hp (v := rUndef) (x := undef) rfl hS (FR.refl _ _ _)
    exact ⟨e2.trans hw, am', h3, hk⟩

theorem pe_lt {pe : Option Nat} {L : List Nat} (h : ∀ j, pe = some j → j < 1000) : ∀ j, (popD pe L).1 = some j → j < 1000 := by
  intro j hj
  unfold popD at hj
  cases pe with
  | none => cases hj
  | some k =>
    simp only at hj
    split at hj
    · split at hj
      · cases hj
      · exact h j hj
    · exact h j hj

theorem kc {c : COp} (h : cKind c ≤ 1) : cClass c = 0 := by
  cases c <;> first | rfl | (simp [cKind] at h)

/-- a value that was yielded -/
theorem val_of {c : COp} {ρ : CEnv} {s : RSt} {d : Option Pth} {k : Cont} {ra : RAct} (h0 : cClass c = 0) (hk : aft call (evOp P ρ c s) s d k ra = .ok .normal ra' s') : ∃ v s1, evOp P ρ c s = .val v s1 ∧ k (ra.put? d v) s1 = .ok .normal ra' s' := by
  have hvb := cls0 (P := P) (s := s) (ρ := ρ) h0
  cases hres : evOp P ρ c s with
  | val v s1 => rw [hres] at hk; exact ⟨v, s1, rfl, hk⟩
  | bad y => rw [hres] at hk; cases hk
  | _ => rw [hres] at hvb; exact hvb.elim

theorem take_ok {pe : Option Nat} {ad : List Pl} {ra : RAct} {am a : Act} {s : RSt} {w : World} {o : Oper} {c : COp} {m : Mode} {i : Nat} (h1 : DRel P call N ops ad0 s0 w0 pe ad ra am a s w) (ho : ops[i]? = some o) (hc : compOp P o = some c)
    (hmode : modeOk m (kindOf P ops i) = true) {k : Cont} (hk : aft call (evOp P ra.env c s) s (oPth o.dst) k ra = .ok .normal ra' s') (hop : OpOk P ad s w (cKind c) (execOp a.eval o) (evOp P ra.env c s))
    (htr : ∀ ad1 v x s1 w1, rabs ad1 v = some x → SR P ad1 s1 w1 → FR ad ad1 s s1 w w1 → ∃ am', DRel P call N ops ad0 s0 w0 pe ad1 (ra.put? (oPth o.dst) v) am' (a.put o.dst x) s1 w1) {next : Act → Pr}
    (hn : ∀ v x am', DRel P call N ops ad0 s0 w0 pe ad (ra.put? (oPth o.dst) v) am' (a.put o.dst x) s w → k (ra.put? (oPth o.dst) v) s = .ok .normal ra' s' → next (a.put o.dst x) w) : takeV P m o a next w := by
  have hkk := (kindOf_eq ho hc).1
  have hle : cKind c ≤ 1 := by
    cases m with
    | pure => simp [modeOk] at hmode
    | val t => simp only [modeOk, Bool.and_eq_true] at hmode; have := Nat.eq_of_beq_eq_true hmode.2; omega
    | get t => simp only [modeOk, Bool.and_eq_true] at hmode; have := Nat.le_of_ble_eq_true hmode.2; omega
  obtain ⟨v, s2, hres, hk2⟩ := val_of (kc hle) hk
  rw [hres] at hop
  obtain ⟨hA1, hS1, hF1, _⟩ := id h1
  have fin : ∀ x, s2 = s → rabs ad v = some x → next (a.put o.dst x) w := by
    intro x hs hx
    subst hs
    obtain ⟨am', h4⟩ := htr ad v x _ w hx hS1 (FR.refl _ _ _)
    exact hn v x am' h4 hk2
  cases m with
  | pure => simp [modeOk] at hmode
  | val t =>
    simp only [modeOk, Bool.and_eq_true] at hmode
    have := isRaw_spec hmode.1; subst this
    have h0 := Nat.eq_of_beq_eq_true hmode.2
    rw [hkk] at h0
    obtain ⟨hs, x, hx1, hx2⟩ := hop.1 h0
    exact ⟨x, fun w => pureRun_sound _ hx1 w, fin x hs hx2⟩
  | get t =>
    simp only [modeOk, Bool.and_eq_true] at hmode
    have := isRaw_spec hmode.1; subst this
    rcases Nat.lt_or_ge (cKind c) 1 with h | h
    · obtain ⟨hs, x, hx1, hx2⟩ := hop.1 (by omega)
      exact ⟨x, pureRun_sound _ hx1 w, fin x hs hx2⟩
    · obtain ⟨hs, x, hx1, hx2⟩ := hop.2.1 (by omega)
      exact ⟨x, hx1, fin x hs hx2⟩

theorem act_acts {ad : List Pl} {s s1 : RSt} {w : World} {k : Nat} {sem : Sem Next} {v : RV} (h : OpOk P ad s w k sem (.val v s1)) : ActOk P ad s w sem v s1 := h.2.2

theorem draw_ev (hcall : CallOk P call) (hgnd : GndOk call) (hsel : Region.noSelect ops = true) : ∀ (ds : DSteps) (pe : Option Nat) (L : List Nat) (items : List CItem) (ad : List Pl) (ra : RAct) (am a : Act) (s : RSt) (w : World),
    okD P N ops ds pe L = true → (∀ j, pe = some j → j < 1000) → DRel P call N ops ad0 s0 w0 pe ad ra am a s w → oMap (compD P N ops) L = some items → evItems P call items ra s = .ok .normal ra' s' →
    vcDraw P ops ds (NextD P N ad0 s0 w0 ra' s') a w
  | .nil, pe, L, items, ad, ra, am, a, s, w, hok, hj, h, hm, hev => by
    obtain ⟨items', ad1, ra1, am1, s1, h1, h2, h3⟩ := pop_ok h hm hev hj
    simp only [okD] at hok
    split at hok
    · rename_i he
      rw [he] at h1 h2
      simp only [oMap] at h2; cases h2
      rw [evItems_nil] at h3; cases h3
      obtain ⟨hA, hS, hF, h0, _⟩ := h1
      rw [← h0 rfl] at hA
      exact ⟨ad1, hA, hS, hF⟩
    · cases hok
  | .take i m r, pe, L, items, ad, ra, am, a, s, w, hok, hj, h, hm, hev => by
    obtain ⟨items', ad1, ra1, am1, s1, h1, h2, h3⟩ := pop_ok h hm hev hj
    simp only [okD] at hok
    split at hok
    · rename_i pe' j l he
      have hj' := pe_lt (L := L) hj
      rw [he] at h1 h2 hj'
      simp only [Bool.and_eq_true] at hok
      obtain ⟨⟨hh, hmode⟩, hr⟩ := hok
      obtain ⟨rfl, hi, hp⟩ := headOk_spec hh
      obtain ⟨o, m', ho, hm', hcase⟩ := head_ok hsel hi hp h1 h2 h3
      simp only [vcDraw, ifWanted, ho]
      rcases hcase with ⟨hw, am', h4, h5⟩ | ⟨hw, c, hc, hk, hop, htr⟩
      · rw [hw]
        exact draw_ev hcall hgnd hsel r pe' l m' _ _ _ _ _ _ hr hj' h4 hm' h5
      · rw [hw]
        exact take_ok h1 ho hc hmode hk hop htr fun v x am' h4 hk => draw_ev hcall hgnd hsel r pe' l m' _ _ _ _ _ _ hr hj' h4 hm' hk
    · cases hok
  | .now i m chk r, pe, L, items, ad, ra, am, a, s, w, hok, hj, h, hm, hev => by
    obtain ⟨items', ad1, ra1, am1, s1, h1, h2, h3⟩ := pop_ok h hm hev hj
    simp only [okD] at hok
    split at hok
    · rename_i pe' j l he
      have hj' := pe_lt (L := L) hj
      rw [he] at h1 h2 hj'
      simp only [Bool.and_eq_true] at hok
      obtain ⟨⟨⟨hh, hmode⟩, hchk⟩, hr⟩ := hok
      obtain ⟨rfl, hi, hp⟩ := headOk_spec hh
      obtain ⟨o, m', ho, hm', hcase⟩ := head_ok hsel hi hp h1 h2 h3
      simp only [vcDraw, ifWanted, ho]
      rcases hcase with ⟨hw, am', h4, h5⟩ | ⟨hw, c, hc, hk, hop, htr⟩
      · rw [hw]
        exact draw_ev hcall hgnd hsel r pe' l m' _ _ _ _ _ _ hr hj' h4 hm' h5
      · rw [hw]
        exact take_ok h1 ho hc hmode hk hop htr fun v x am' h4 hk => checks_ok hsel h4 hm' hk (draw_ev hcall hgnd hsel r pe' l m' _ _ _ _ _ _ hr hj' h4 hm' hk) chk hchk
    · cases hok
  | .eff i t chk r, pe, L, items, ad, ra, am, a, s, w, hok, hj, h, hm, hev => by
    simp only [okD, Bool.or_eq_true] at hok
    rcases hok with hok | hok
    · obtain ⟨items', ad1, ra1, am1, s1, h1, h2, h3⟩ := pop_ok h hm hev hj
      split at hok
      · rename_i pe' j l he
        have hj' := pe_lt (L := L) hj
        rw [he] at h1 h2 hj'
        simp only [Bool.and_eq_true] at hok
        obtain ⟨⟨⟨⟨hh, ht⟩, hcl⟩, hchk⟩, hr⟩ := hok
        obtain ⟨rfl, hi, hp⟩ := headOk_spec hh
        have := isRaw_spec ht; subst this
        obtain ⟨o, m', ho, hm', hcase⟩ := head_ok hsel hi hp h1 h2 h3
        simp only [vcDraw, ifWanted, ho]
        rcases hcase with ⟨hw, am', h4, h5⟩ | ⟨hw, c, hc, hk, hop, htr⟩
        · rw [hw]
          exact draw_ev hcall hgnd hsel r pe' l m' _ _ _ _ _ _ hr hj' h4 hm' h5
        · rw [hw]
          have h0 := Nat.eq_of_beq_eq_true hcl
          rw [(kindOf_eq ho hc).2] at h0
          obtain ⟨v, s2, hres, hk⟩ := val_of h0 hk
          rw [hres] at hop
          obtain ⟨ad2, x, w2, hx1, hx2, hS2, hF2⟩ := act_acts hop
          obtain ⟨am', h4⟩ := htr ad2 v x s2 w2 hx2 hS2 hF2
          exact ⟨x, w2, hx1, checks_ok hsel h4 hm' hk (draw_ev hcall hgnd hsel r pe' l m' _ _ _ _ _ _ hr hj' h4 hm' hk) chk hchk⟩
      · cases hok
    · -- ahead of its time
      simp only [Bool.and_eq_true] at hok
      obtain ⟨⟨⟨⟨⟨hpn, ht⟩, hi1, hearly⟩, hmk⟩, hchk⟩, hr⟩ := hok
      have hpn : pe = none := by cases pe <;> first | rfl | simp at hpn
      subst hpn
      have := isRaw_spec ht; subst this
      unfold earlyOk at hearly
      split at hearly
      · rename_i o ho
        split at hearly
        · rename_i d hg hd
          have hdN : d < N := by simpa [Nat.blt, Nat.succ_le_iff] using hearly
          obtain ⟨hA, hS, hF, h0, _⟩ := id h
          have hae := h0 rfl; subst hae
          obtain ⟨o', f, rb, ho', hnew⟩ := nw_read (by simpa [Nat.blt, Nat.succ_le_iff] using hi1) hm hev (by simpa using hmk)
          rw [ho] at ho'; cases ho'
          have hcc : ∃ c, compOp P o = some c ∧ newOf ra.env c = some (f, rb) := by
            unfold compOpN at hnew
            cases hc : compOp P o with
            | none => rw [hc] at hnew; cases hnew
            | some c => rw [hc] at hnew; exact ⟨c, rfl, hnew⟩
          obtain ⟨c, hc, hnew⟩ := hcc
          obtain ⟨obj, hrun, hbr⟩ := new_run hc hA.er hnew w ⟨w.heap.size, 0⟩
          obtain ⟨hS2, hF2⟩ := hS.beside obj
          have hw : Region.wanted o (yielded ops a.tmps) = true := by unfold Region.wanted; rw [hg]
          simp only [vcDraw, ifWanted, ho]
          rw [hw]
          have hi1000 : i < 1000 ∨ True := .inr trivial
          have h4 : DRel P call N ops ad0 s0 w0 (some i) ad ra a (a.put o.dst (f.val w.heap.size)) s { w with heap := w.heap.push obj } := by
            refine ⟨hA, hS2, hF.trans hF2, fun hn => (by cases hn), fun j hj => ?_⟩
            cases hj
            refine ⟨o, d, c, f.val w.heap.size, by rw [hd]; rfl, ho, hd, hdN, hg, hc, .inl ⟨f, rb, ⟨w.heap.size, 0⟩, obj, rfl, hnew, by simp, hF.size, by simp, hbr, fun b q hb hq => ?_⟩⟩
            have := hS.lt q (List.mem_of_getElem? hq)
            exact fun hc => by simp only at hc; omega
          have hil : ∀ j, (some i : Option Nat) = some j → j < 1000 := by
            intro j hj; cases hj
            simpa [Nat.blt, Nat.succ_le_iff] using hi1
          exact ⟨f.val w.heap.size, _, hrun, checks_ok hsel h4 hm hev (draw_ev hcall hgnd hsel r (some i) L items _ _ _ _ _ _ hr hil h4 hm hev) chk hchk⟩
        · cases hearly
      · cases hearly
  | .effU i chk r, pe, L, items, ad, ra, am, a, s, w, hok, hj, h, hm, hev => by
    obtain ⟨items', ad1, ra1, am1, s1, h1, h2, h3⟩ := pop_ok h hm hev hj
    simp only [okD] at hok
    split at hok
    · rename_i pe' j l he
      have hj' := pe_lt (L := L) hj
      rw [he] at h1 h2 hj'
      simp only [Bool.and_eq_true] at hok
      obtain ⟨⟨⟨hh, hcl⟩, hchk⟩, hr⟩ := hok
      obtain ⟨rfl, hi, hp⟩ := headOk_spec hh
      obtain ⟨o, m', ho, hm', hcase⟩ := head_ok hsel hi hp h1 h2 h3
      simp only [vcDraw, ifWanted, ho]
      rcases hcase with ⟨hw, am', h4, h5⟩ | ⟨hw, c, hc, hk, hop, htr⟩
      · rw [hw]
        exact draw_ev hcall hgnd hsel r pe' l m' _ _ _ _ _ _ hr hj' h4 hm' h5
      · rw [hw]
        have h0 := Nat.eq_of_beq_eq_true hcl
        rw [(kindOf_eq ho hc).2] at h0
        rcases cls1 (P := P) (s := s1) (ρ := ra1.env) h0 with ⟨s2, hres⟩ | ⟨y, hres⟩
        · rw [hres] at hop hk
          obtain ⟨w2, hx1, hS2, hF2⟩ := hop
          obtain ⟨am', h4⟩ := htr ad1 rUndef undef s2 w2 rfl hS2 hF2
          have hk : evItems P call m' (ra1.put? (oPth o.dst) rUndef) s2 = .ok .normal ra' s' := hk
          exact ⟨w2, hx1, checks_ok hsel h4 hm' hk (draw_ev hcall hgnd hsel r pe' l m' _ _ _ _ _ _ hr hj' h4 hm' hk) chk hchk⟩
        · rw [hres] at hk; cases hk
    · cases hok
  | .call i t chk r, pe, L, items, ad, ra, am, a, s, w, hok, hj, h, hm, hev => by
    simp only [okD, Bool.or_eq_true] at hok
    rcases hok with hok | hok
    · obtain ⟨items', ad1, ra1, am1, s1, h1, h2, h3⟩ := pop_ok h hm hev hj
      split at hok
      · rename_i pe' j l he
        have hj' := pe_lt (L := L) hj
        rw [he] at h1 h2 hj'
        simp only [Bool.and_eq_true] at hok
        obtain ⟨⟨⟨⟨hh, ht⟩, hcl⟩, hchk⟩, hr⟩ := hok
        obtain ⟨rfl, hi, hp⟩ := headOk_spec hh
        have := isRaw_spec ht; subst this
        obtain ⟨o, m', ho, hm', hcase⟩ := head_ok hsel hi hp h1 h2 h3
        simp only [vcDraw, ifWanted, ho]
        rcases hcase with ⟨hw, am', h4, h5⟩ | ⟨hw, c, hc, hk, hop, htr⟩
        · rw [hw]
          exact draw_ev hcall hgnd hsel r pe' l m' _ _ _ _ _ _ hr hj' h4 hm' h5
        · rw [hw]
          have h0 := Nat.eq_of_beq_eq_true hcl
          rw [(kindOf_eq ho hc).2] at h0
          rcases cls2 (P := P) (s := s1) (ρ := ra1.env) h0 with ⟨f, args, hres⟩ | ⟨y, hres⟩
          · rw [hres] at hop hk
            have hk : aftR s1 (call f args s1) (oPth o.dst) (evItems P call m') ra1 = .ok .normal ra' s' := hk
            have nb : ∀ y, call f args s1 ≠ .bad y := fun y hy => by rw [hy] at hk; cases hk
            obtain ⟨hg, hcalls⟩ := hcall f args s1 _ rfl nb
            obtain ⟨xs, hx1, hx2⟩ := hop hg
            simp only [callV, hx1]
            obtain ⟨hA1, hS1, hF1, _⟩ := id h1
            have hcl := hcalls ad1 w xs hS1 hx2
            cases hr2 : call f args s1 with
            | bad y => exact absurd hr2 (nb y)
            | panic v s2 => rw [hr2] at hk; cases hk
            | gnd g =>
              rw [hr2] at hk hcl
              have hk : evItems P call m' (ra1.put? (oPth o.dst) (.g g)) s1 = .ok .normal ra' s' := hk
              refine ⟨Calls.mono hcl fun e w2 he => ?_⟩
              obtain ⟨ad2, he, hS2, hF2⟩ := he
              obtain ⟨am', h4⟩ := htr ad2 (.g g) g s1 w2 rfl hS2 hF2
              exact ⟨g, he, checks_ok hsel h4 hm' hk (draw_ev hcall hgnd hsel r pe' l m' _ _ _ _ _ _ hr hj' h4 hm' hk) chk hchk⟩
            | ret v s2 =>
              rw [hr2] at hk hcl
              have hk : evItems P call m' (ra1.put? (oPth o.dst) v) s2 = .ok .normal ra' s' := hk
              refine ⟨Calls.mono hcl fun e w2 he => ?_⟩
              obtain ⟨ad2, x, he, hv, hS2, hF2⟩ := he
              obtain ⟨am', h4⟩ := htr ad2 v x s2 w2 hv hS2 hF2
              exact ⟨x, he, checks_ok hsel h4 hm' hk (draw_ev hcall hgnd hsel r pe' l m' _ _ _ _ _ _ hr hj' h4 hm' hk) chk hchk⟩
          · rw [hres] at hk; cases hk
      · cases hok
    · -- ahead of its time
      simp only [Bool.and_eq_true] at hok
      obtain ⟨⟨⟨⟨⟨hpn, ht⟩, hi1, hearly⟩, hmk⟩, hchk⟩, hr⟩ := hok
      have hpn : pe = none := by cases pe <;> first | rfl | simp at hpn
      subst hpn
      have := isRaw_spec ht; subst this
      have hi1000 : i < 1000 := by simpa [Nat.blt, Nat.succ_le_iff] using hi1
      unfold earlyOk at hearly
      split at hearly
      · rename_i o ho
        split at hearly
        · rename_i d hg hd
          have hdN : d < N := by simpa [Nat.blt, Nat.succ_le_iff] using hearly
          obtain ⟨hA, hS, hF, h0, _⟩ := id h
          have hae := h0 rfl; subst hae
          obtain ⟨o', f, args, g, ho', hc, hg1⟩ := pc_read hm hev (by simpa using hmk)
          rw [ho] at ho'; cases ho'
          have hw : Region.wanted o (yielded ops a.tmps) = true := by unfold Region.wanted; rw [hg]
          have hop : OpOk P ad s w (cKind (.call f args)) (execOp a.eval o) (evOp P ra.env (.call f args) s) := compOp_sound hc (fun f => rfl) hA.er hS
          obtain ⟨hgf, hcalls⟩ := hcall f (args.map ra.env) s _ hg1 (fun y hy => by cases hy)
          obtain ⟨xs, hx1, hx2⟩ := hop hgf
          simp only [vcDraw, ifWanted, ho]
          rw [hw]
          simp only [callV, hx1]
          refine ⟨Calls.mono (hcalls ad w xs hS hx2) fun e w2 he => ?_⟩
          obtain ⟨ad2, he, hS2, hF2⟩ := he
          have h4 : DRel P call N ops ad0 s0 w0 (some i) ad2 ra a (a.put o.dst g) s w2 := by
            refine ⟨hA.mono hF2.ext, hS2, hF.trans hF2, fun hn => (by cases hn), fun j hj => ?_⟩
            cases hj
            exact ⟨o, d, .call f args, g, by rw [hd]; rfl, ho, hd, hdN, hg, hc, .inr ⟨f, args, rfl, fun s' => hgnd f _ s s' g hg1⟩⟩
          have hil : ∀ j, (some i : Option Nat) = some j → j < 1000 := by
            intro j hj; cases hj; exact hi1000
          exact ⟨g, he, checks_ok hsel h4 hm hev (draw_ev hcall hgnd hsel r (some i) L items _ _ _ _ _ _ hr hil h4 hm hev) chk hchk⟩
        · cases hearly
      · cases hearly
  | .inv i t chk r, pe, L, items, ad, ra, am, a, s, w, hok, hj, h, hm, hev => by simp [okD] at hok
  | .split g r, pe, L, items, ad, ra, am, a, s, w, hok, hj, h, hm, hev => by
    have ih := draw_ev hcall hgnd hsel r pe L items ad ra am a s w hok hj h hm hev
    simp only [vcDraw]
    cases hc : slot a g with
    | bool c =>
      refine ⟨fun hb => ?_, fun hb => ?_⟩
      · rw [hb] at hc; rw [set_slot hc]; exact ih
      · rw [hb] at hc; rw [set_slot hc]; exact ih
    | _ => exact ih
  | .alt r1 r2, pe, L, items, ad, ra, am, a, s, w, hok, hj, h, hm, hev => by
    simp only [okD, Bool.and_eq_true] at hok
    exact ⟨draw_ev hcall hgnd hsel r1 pe L items ad ra am a s w hok.1 hj h hm hev, draw_ev hcall hgnd hsel r2 pe L items ad ra am a s w hok.2 hj h hm hev⟩

/-- a region that draws is good -/
theorem drawGood {idx : List Nat} {ds : DSteps} (hm : P.follows .mixedOrders = true) (hcall : CallOk P call) (hgnd : GndOk call) (hsel : Region.noSelect ops = true) (hok : drawOk ops N [] [] [] ds = true) (hcov : ∀ i, i < ops.size → i ∈ ds.idx)
    (hokD : okD P N ops ds none idx = true) : DrawGood P N call ops idx := by
  intro id items ad ra a s w ra' s' Q hmm hA hS hev hp
  refine draw_sound (ro := none) hm hsel hA.size hok hcov (next := NextD P N ad s w ra' s') ?_ fun a' w' hn _ => ?_
  · refine ⟨?_⟩
    have h : DRel P call N ops ad s w none ad ra a a s { w with drawn := w.drawn + 1 } := ⟨hA, hS.drew, FR.drew _ _ _, fun _ => rfl, fun j hj => by cases hj⟩
    exact draw_ev hcall hgnd hsel ds none idx items ad ra a a s _ hokD (fun j hj => by cases hj) h hmm hev
  · obtain ⟨ad', hA', hS', hF'⟩ := hn
    exact hp ad' .normal a' w' trivial hA' hS' hF'
end
end Go.Sh
end

section
/- What the interpreter tells of a call, as a contract. -/
set_option linter.unusedSimpArgs false
set_option linter.unusedVariables false
set_option linter.unusedSectionVars false
namespace Go.Sh
variable [Env]

section
variable {P : Program}

/-- all regions that draw: checked -/
def drawsB (P : Program) (N : Nat) (dr : List (Nat × List Nat)) (dt : List (Nat × DSteps)) : Code → Bool
  | .region id ops draw => match draw with
    | true => match dr.find? (fun x => Nat.beq x.1 id) with
      | some x => match dt.find? (fun x => Nat.beq x.1 id) with
        | some y => Region.noSelect ops && drawOk ops N [] [] [] y.2 && (List.range ops.size).all (fun i => y.2.idx.contains i) && okD P N ops y.2 none x.2
        | none => false
      | none => true
    | false => true
  | .seq x y => drawsB P N dr dt x && drawsB P N dr dt y
  | .cond _ x y => drawsB P N dr dt x && drawsB P N dr dt y
  | .block _ x => drawsB P N dr dt x
  | .loop x => drawsB P N dr dt x
  | .scope x => drawsB P N dr dt x
  | _ => true

theorem drawsB_ok (hm : P.follows .mixedOrders = true) {call : CallF} (hcall : CallOk P call) (hgnd : GndOk call) {N : Nat} {dr : List (Nat × List Nat)} {dt : List (Nat × DSteps)} : ∀ (c : Code), drawsB P N dr dt c = true → DrawsOk P N call dr c
  | .region id ops draw, h => by
    cases draw with
    | false => trivial
    | true =>
      intro x hx
      simp only [drawsB, hx] at h
      split at h
      · rename_i y hy
        simp only [Bool.and_eq_true] at h
        obtain ⟨⟨⟨h1, h2⟩, h3⟩, h4⟩ := h
        exact drawGood hm hcall hgnd h1 h2 (fun i hi => by
          have := List.all_eq_true.1 h3 i (by simpa using hi)
          simpa using this) h4
      · cases h
  | .seq x y, h => by simp only [drawsB, Bool.and_eq_true] at h; exact ⟨drawsB_ok hm hcall hgnd x h.1, drawsB_ok hm hcall hgnd y h.2⟩
  | .cond _ x y, h => by simp only [drawsB, Bool.and_eq_true] at h; exact ⟨drawsB_ok hm hcall hgnd x h.1, drawsB_ok hm hcall hgnd y h.2⟩
  | .block _ x, h => drawsB_ok hm hcall hgnd x h
  | .loop x, h => drawsB_ok hm hcall hgnd x h
  | .scope x, h => drawsB_ok hm hcall hgnd x h
  | .skip, _ => trivial
  | .exit _, _ => trivial
  | .ret, _ => trivial
  | .label _, _ => trivial
  | .goto _, _ => trivial
  | .rangeFunc _ _ _ _, _ => trivial
  | .refuse _, _ => trivial

def fnOkB (P : Program) (dr : List (Nat × List Nat)) (dt : List (Nat × DSteps)) (f : FuncId) : Bool := match P.funcs[f]? with
  | some fn => match fn.body with
    | some c => drawsB P fn.ntmps dr dt c
    | none => false
  | none => false

theorem cf_ok (hm : P.follows .mixedOrders = true) {call : CallF} (hcall : CallOk P call) (hgnd : GndOk call) {dr : List (Nat × List Nat)} {dt : List (Nat × DSteps)} {f : FuncId} {cf : CFunc} (h : compFn P dr f = some cf) (hd : fnOkB P dr dt f = true) : CfOk P call f cf :=
  compFn_ok h fun fn c hfn hc => by
    unfold fnOkB at hd
    simp only [hfn, hc] at hd
    exact drawsB_ok hm hcall hgnd c hd

/-- a call without arguments, as a contract -/
theorem CallP.of_res {f : FuncId} {v : RV} {g : Value} {s1 : RSt} {t : Ty} {x : t.den} (h : ResOk P f [] S0 (.ret v s1)) (hv : v.toG = some g) (hg : t.val x = g) {E w : World} {L : List HProp} (hL : Holds E w L) {k : t.den → Pr} (hk : ∀ w', Holds E w' L → k x w') :
    CallP P f #[] t k w := by
  refine ⟨Calls.mono (h.2 [] w [] (SR.none w) rfl) fun e w' he => ?_⟩
  obtain ⟨ad', y, he, hx, hS', hF⟩ := he
  have hxg : y = g := toG_eq hv hx
  subst hxg
  refine ⟨x, by rw [he, hg], hk w' ⟨hF.tape.trans hL.tape, hF.os.trans hL.os, hF.output.trans hL.output, ?_⟩⟩
  obtain ⟨hh, h1, h2⟩ := hL.heap
  refine ⟨hh, fun b x' o hb => ?_, h2⟩
  have h3 := h1 b x' o hb
  rw [hF.stay b (own_size_lt h3) (fun b p hb => (by obtain ⟨rb, h1, _⟩ := hb; cases h1))]
  exact h3
end
end Go.Sh
namespace Go.Sh
variable [Env]
def Tr.AllAt {α : Type} (p : Nat → α → Prop) (up : Nat → Nat) : Tr α → Prop
  | .nil => True
  | .node v l r => (∀ x, v = some x → p (up 0) x) ∧ l.AllAt p (fun n => up (2 * n + 1)) ∧ r.AllAt p (fun n => up (2 * n + 2))
theorem Tr.AllAt_get {α : Type} {p : Nat → α → Prop} : ∀ {t : Tr α} {up : Nat → Nat}, t.AllAt p up → ∀ {n : Nat} {x : α}, t.get n = some x → p (up n) x
  | .nil, up, _, n, x, h => by cases h
  | .node v l r, up, ha, n, x, h => by
    rw [Tr.get_node] at h
    split at h
    · rename_i hn; subst hn; exact ha.1 x h
    · split at h
      · have := Tr.AllAt_get ha.2.1 h
        rw [show 2 * (n / 2) + 1 = n by omega] at this; exact this
      · have := Tr.AllAt_get ha.2.2 h
        rw [show 2 * (n / 2 - 1) + 2 = n by omega] at this; exact this
end Go.Sh
end

section
/- A call that was run on a part of the heap tells what it does on the whole. -/
set_option linter.unusedSimpArgs false
set_option linter.unusedVariables false
set_option linter.unusedSectionVars false
namespace Go.Sh
variable [Env]

section
variable {P : Program}

theorem ResOk.sub {f : FuncId} {args : List RV} {t : RSt} {v : RV} {t' : RSt} (h : ResOk P f args t (.ret v t')) {s s' : RSt} (hsub : ∀ b rb, t.t.get b = some rb → rb ≠ .dead → s.t.get b = some rb) (hn : s.n = t.n) (hn' : s'.n = t'.n)
    (hs' : ∀ b rb, s'.t.get b = some rb → rb ≠ .dead → t'.t.get b = some rb ∨ (s.t.get b = some rb ∧ ¬ Pres t b)) : ResOk P f args s (.ret v s') := by
  refine ⟨h.1, fun ad w xs hS hx => ?_⟩
  have pres : ∀ {b}, Pres t b → Pres s b := fun ⟨rb, h1, h2⟩ => ⟨rb, hsub _ _ h1 h2, h2⟩
  have hT : SR P ad t w := ⟨by rw [← hn]; exact hS.n, fun b b' p p' h1 h2 => hS.inj b b' p p' (pres h1) (pres h2), hS.lt, fun b rb hb hd => hS.blk b rb (hsub b rb hb hd) hd⟩
  refine Calls.mono (h.2 ad w xs hT hx) fun e w' he => ?_
  obtain ⟨ad', x, he, hx', hT', hF⟩ := he
  obtain ⟨m, hm⟩ := hF.ext
  -- a block of the rest
  have rest : ∀ {b rb}, s.t.get b = some rb → rb ≠ .dead → ¬ Pres t b → ∃ p o, ad[b]? = some p ∧ ad'[b]? = some p ∧ w'.heap[p.a]? = some o ∧ BR P ad p rb o ∧ p.a < w.heap.size ∧ ∀ b0 p0, Pres t b0 → ad[b0]? = some p0 → p0.a ≠ p.a := by
    intro b rb hb hd hnp
    obtain ⟨p, o, hp, ho, hr⟩ := hS.blk b rb hb hd
    have hlt := hS.lt p (List.mem_of_getElem? hp)
    have hne : ∀ b0 p0, Pres t b0 → ad[b0]? = some p0 → p0.a ≠ p.a := by
      intro b0 p0 h0 hp0 hc
      have := hS.inj b0 b p0 p (pres h0) ⟨rb, hb, hd⟩ hp0 hp hc
      subst this; exact hnp h0
    exact ⟨p, o, hp, by rw [hm]; exact get_app hp, by rw [hF.stay p.a hlt hne]; exact ho, hr, hlt, hne⟩
  have cases' : ∀ {b}, Pres s' b → Pres t' b ∨ ∃ rb, s.t.get b = some rb ∧ rb ≠ .dead ∧ ¬ Pres t b := by
    intro b ⟨rb, h1, h2⟩
    rcases hs' b rb h1 h2 with h3 | ⟨h3, h4⟩
    · exact .inl ⟨rb, h3, h2⟩
    · exact .inr ⟨rb, h3, h2, h4⟩
  have mixed : ∀ {b1 b2 p1 p2}, Pres t' b1 → (∃ rb, s.t.get b2 = some rb ∧ rb ≠ .dead ∧ ¬ Pres t b2) → ad'[b1]? = some p1 → ad'[b2]? = some p2 → p1.a ≠ p2.a := by
    intro b1 b2 p1 p2 h1 ⟨rb, h2, h3, h4⟩ hp1 hp2 hc
    obtain ⟨p, o, hp, hp', _, _, hlt, hne⟩ := rest h2 h3 h4
    rw [hp'] at hp2; cases hp2
    rcases hF.pres b1 p1 h1 hp1 with ⟨b0, p0, h5, h6, h7⟩ | h5
    · exact hne b0 p0 h5 h6 (h7.trans hc)
    · omega
  refine ⟨ad', x, he, hx', ⟨by rw [hn']; exact hT'.n, fun b1 b2 p1 p2 h1 h2 hp1 hp2 hc => ?_, hT'.lt, fun b rb hb hd => ?_⟩, ⟨⟨m, hm⟩, hF.size, fun y hy hno => hF.stay y hy fun b p hb hp => hno b p (pres hb) hp, fun b p hb hp => ?_, hF.tape, hF.os, hF.output⟩⟩
  · rcases cases' h1 with h1 | h1 <;> rcases cases' h2 with h2 | h2
    · exact hT'.inj _ _ _ _ h1 h2 hp1 hp2 hc
    · exact absurd hc (mixed h1 h2 hp1 hp2)
    · exact absurd hc.symm (mixed h2 h1 hp2 hp1)
    · obtain ⟨r1, e1, e2, e3⟩ := h1
      obtain ⟨r2, f1, f2, f3⟩ := h2
      obtain ⟨q1, _, hq1, hq1', _⟩ := rest e1 e2 e3
      obtain ⟨q2, _, hq2, hq2', _⟩ := rest f1 f2 f3
      rw [hq1'] at hp1; cases hp1
      rw [hq2'] at hp2; cases hp2
      exact hS.inj _ _ _ _ ⟨r1, e1, e2⟩ ⟨r2, f1, f2⟩ hq1 hq2 hc
  · rcases hs' b rb hb hd with h3 | ⟨h3, h4⟩
    · exact hT'.blk b rb h3 hd
    · obtain ⟨p, o, _, hp', ho, hr, _⟩ := rest h3 hd h4
      exact ⟨p, o, hp', ho, by rw [hm]; exact hr.mono⟩
  · rcases cases' hb with h1 | ⟨rb, h1, h2, h3⟩
    · rcases hF.pres b p h1 hp with ⟨b0, p0, h5, h6, h7⟩ | h5
      · exact .inl ⟨b0, p0, pres h5, h6, h7⟩
      · exact .inr h5
    · obtain ⟨q, _, hq, hq', _⟩ := rest h1 h2 h3
      rw [hq'] at hp; cases hp
      exact .inl ⟨b, _, ⟨rb, h1, h2⟩, hq, rfl⟩
end
end Go.Sh
end

section
/- A run, cut: calls whose runs are checked by themselves. -/
set_option linter.unusedSimpArgs false
set_option linter.unusedVariables false
set_option linter.unusedSectionVars false
namespace Go.Sh
variable [Env]

def entsEq : List (RV × RV × Nat) → List (RV × RV × Nat) → Bool
  | [], [] => true
  | (k, v, n) :: r, (k', v', n') :: q => rvEq k k' && rvEq v v' && Nat.beq n n' && entsEq r q
  | _, _ => false
theorem entsEq_eq : ∀ {a b : List (RV × RV × Nat)}, entsEq a b = true → a = b
  | [], [], _ => rfl
  | [], (_, _, _) :: _, h => by simp [entsEq] at h
  | (_, _, _) :: _, [], h => by simp [entsEq] at h
  | (k, v, n) :: r, (k', v', n') :: q, h => by
    simp only [entsEq, Bool.and_eq_true] at h
    rw [rvEq_eq h.1.1.1, rvEq_eq h.1.1.2, Nat.eq_of_beq_eq_true h.1.2, entsEq_eq h.2]
def viewEq : List (Nat × Option RV) → List (Nat × Option RV) → Bool
  | [], [] => true
  | (i, none) :: r, (j, none) :: q => Nat.beq i j && viewEq r q
  | (i, some v) :: r, (j, some u) :: q => Nat.beq i j && rvEq v u && viewEq r q
  | _, _ => false
theorem viewEq_eq : ∀ {a b : List (Nat × Option RV)}, viewEq a b = true → a = b
  | [], [], _ => rfl
  | (i, none) :: r, (j, none) :: q, h => by
    simp only [viewEq, Bool.and_eq_true] at h
    rw [Nat.eq_of_beq_eq_true h.1, viewEq_eq h.2]
  | (i, some v) :: r, (j, some u) :: q, h => by
    simp only [viewEq, Bool.and_eq_true] at h
    rw [Nat.eq_of_beq_eq_true h.1.1, rvEq_eq h.1.2, viewEq_eq h.2]
  | [], _ :: _, h => by simp [viewEq] at h
  | _ :: _, [], h => by simp [viewEq] at h
  | (i, none) :: r, (j, some u) :: q, h => by simp [viewEq] at h
  | (i, some v) :: r, (j, none) :: q, h => by simp [viewEq] at h
def rbEq : RB → RB → Bool
  | .view m es, .view n fs => Nat.beq m n && viewEq es fs
  | .cells a T true, .cells b U true => Nat.beq T U && rvEqs a b
  | .cells a T false, .cells b U false => Nat.beq T U && rvEqs a b
  | .map es c, .map fs d => Nat.beq c d && entsEq es fs
  | _, _ => false
theorem rbEq_eq {a b : RB} (h : rbEq a b = true) : a = b := by
  unfold rbEq at h
  split at h
  · simp only [Bool.and_eq_true] at h
    rw [Nat.eq_of_beq_eq_true h.1, viewEq_eq h.2]
  · simp only [Bool.and_eq_true] at h
    rw [Nat.eq_of_beq_eq_true h.1, rvEqs_eq h.2]
  · simp only [Bool.and_eq_true] at h
    rw [Nat.eq_of_beq_eq_true h.1, rvEqs_eq h.2]
  · simp only [Bool.and_eq_true] at h
    rw [Nat.eq_of_beq_eq_true h.1, entsEq_eq h.2]
  · cases h

noncomputable def preOk (s : RSt) : List (Nat × RB) → Bool
  | [] => true
  | (b, rb) :: l => match s.get b with
    | some r => match rbEq r rb with | true => preOk s l | false => false
    | none => false
noncomputable def postOk (s : RSt) : List (Nat × RB) → Bool
  | [] => true
  | (b, rb) :: l => match rb with
    | .dead => postOk s l
    | rb => match s.get b with
      | some r => match rbEq r rb with | true => postOk s l | false => false
      | none => false
noncomputable def putAll : List (Nat × RB) → RSt → RSt
  | [], s => s
  | (b, rb) :: l, s => putAll l (s.put b rb)
def keyIn (b : Nat) : List (Nat × RB) → Bool
  | [] => false
  | (a, _) :: l => match Nat.beq b a with | true => true | false => keyIn b l
def keysIn : List (Nat × RB) → List (Nat × RB) → Bool
  | [], _ => true
  | (a, _) :: l, m => match keyIn a m with | true => keysIn l m | false => false
def keysOnce : List (Nat × RB) → Bool
  | [] => true
  | (a, _) :: l => match keyIn a l with | true => false | false => keysOnce l

structure Cut where
  f : FuncId
  args : List RV
  n : Nat
  pre : List (Nat × RB)
  v : RV
  n' : Nat
  post : List (Nat × RB)

/-- what it answers -/
noncomputable def Cut.ov (c : Cut) (f : FuncId) (args : List RV) (s : RSt) : Option RRes := match Nat.beq f c.f with
  | false => none
  | true => match Nat.beq s.n c.n with
    | false => none
    | true => match rvEqs args c.args with
      | false => none
      | true => match preOk s c.pre with
        | false => none
        | true => some (.ret c.v { n := c.n', t := (putAll c.post s).t })
noncomputable def cutEnd (c : Cut) : RRes → Bool
  | .ret v t => match rvEq v c.v with
    | false => false
    | true => match Nat.beq t.n c.n' with
      | false => false
      | true => postOk t c.post
  | _ => false
def cutForm (c : Cut) : Bool := keysOnce c.pre && keysOnce c.post && keysIn c.pre c.post
/-- its run -/
noncomputable def Cut.run (call : CallF) (c : Cut) : Bool := match cutForm c with
  | false => false
  | true => cutEnd c (call c.f c.args (putAll c.pre { n := c.n, t := .nil }))
noncomputable def ovs : List Cut → FuncId → List RV → RSt → Option RRes
  | [], _, _, _ => none
  | c :: l, f, args, s => match c.ov f args s with
    | some r => some r
    | none => ovs l f args s

theorem keyIn_of {b : Nat} {rb : RB} : ∀ {l : List (Nat × RB)}, (b, rb) ∈ l → keyIn b l = true
  | (a, _) :: l, h => by
    simp only [keyIn]
    rcases List.mem_cons.1 h with h | h
    · cases h; simp
    · rw [keyIn_of h]; split <;> rfl
theorem keyIn_mem {b : Nat} : ∀ {l : List (Nat × RB)}, keyIn b l = true → ∃ rb, (b, rb) ∈ l
  | (a, rb) :: l, h => by
    simp only [keyIn] at h
    split at h
    · rename_i he; have := Nat.eq_of_beq_eq_true he; subst this; exact ⟨rb, by simp⟩
    · obtain ⟨x, hx⟩ := keyIn_mem h; exact ⟨x, List.mem_cons_of_mem _ hx⟩
theorem keysIn_of {b : Nat} : ∀ {l m : List (Nat × RB)}, keysIn l m = true → keyIn b l = true → keyIn b m = true
  | (a, _) :: l, m, h, hb => by
    simp only [keysIn] at h
    split at h
    · rename_i ha
      simp only [keyIn] at hb
      split at hb
      · rename_i he; have := Nat.eq_of_beq_eq_true he; subst this; exact ha
      · exact keysIn_of h hb
    · cases h
theorem putAll_n : ∀ (l : List (Nat × RB)) (s : RSt), (putAll l s).n = s.n
  | [], s => rfl
  | (b, rb) :: l, s => putAll_n l (s.put b rb)
theorem get_putAll {m : Nat} : ∀ (l : List (Nat × RB)) (s : RSt), keysOnce l = true →
    (∃ rb, (m, rb) ∈ l ∧ (putAll l s).t.get m = some rb) ∨ (keyIn m l = false ∧ (putAll l s).t.get m = s.t.get m)
  | [], s, _ => .inr ⟨rfl, rfl⟩
  | (b, rb) :: l, s, h => by
    simp only [keysOnce] at h
    split at h
    · cases h
    · rename_i hb
      rcases get_putAll (m := m) l (s.put b rb) h with ⟨x, h1, h2⟩ | ⟨h1, h2⟩
      · exact .inl ⟨x, List.mem_cons_of_mem _ h1, h2⟩
      · rw [RSt.get_put] at h2
        by_cases he : m = b
        · subst he
          rw [if_pos rfl] at h2
          exact .inl ⟨rb, by simp, h2⟩
        · rw [if_neg he] at h2
          refine .inr ⟨?_, h2⟩
          simp only [keyIn]
          split
          · rename_i hc; exact absurd (Nat.eq_of_beq_eq_true hc) he
          · exact h1
theorem preOk_get {s : RSt} {b : Nat} {rb : RB} : ∀ {l : List (Nat × RB)}, preOk s l = true → (b, rb) ∈ l → s.t.get b = some rb
  | (a, x) :: l, h, hm => by
    simp only [preOk] at h
    split at h
    · rename_i r hr
      split at h
      · rename_i he
        rcases List.mem_cons.1 hm with hm | hm
        · cases hm
          have := rbEq_eq he; subst this; exact hr
        · exact preOk_get h hm
      · cases h
    · cases h
theorem postOk_get {s : RSt} {b : Nat} {rb : RB} (hd : rb ≠ .dead) : ∀ {l : List (Nat × RB)}, postOk s l = true → (b, rb) ∈ l → s.t.get b = some rb
  | (a, x) :: l, h, hm => by
    simp only [postOk] at h
    split at h
    · rcases List.mem_cons.1 hm with hm | hm
      · cases hm; exact absurd rfl hd
      · exact postOk_get hd h hm
    · split at h
      · rename_i r hr
        split at h
        · rename_i he
          rcases List.mem_cons.1 hm with hm | hm
          · cases hm
            have := rbEq_eq he; subst this; exact hr
          · exact postOk_get hd h hm
        · cases h
      · cases h

section
variable {P : Program}
theorem Cut.sound {call : CallF} (hcall : CallOk P call) {c : Cut} (hrun : c.run call = true) {f : FuncId} {args : List RV} {s : RSt} {r : RRes} (h : c.ov f args s = some r) : ResOk P f args s r ∧ ∀ g, r ≠ .gnd g := by
  unfold Cut.ov at h
  split at h
  · cases h
  rename_i h1
  split at h
  · cases h
  rename_i h2
  split at h
  · cases h
  rename_i h3
  split at h
  · cases h
  rename_i h4
  cases h
  have h1 := Nat.eq_of_beq_eq_true h1
  have h2 := Nat.eq_of_beq_eq_true h2
  have h3 := rvEqs_eq h3
  subst h1 h3
  refine ⟨?_, fun g hg => by cases hg⟩
  unfold Cut.run at hrun
  split at hrun
  · cases hrun
  rename_i hform
  simp only [cutForm, Bool.and_eq_true] at hform
  obtain ⟨⟨k1, k2⟩, k3⟩ := hform
  cases hres : call c.f c.args (putAll c.pre { n := c.n, t := .nil }) with
  | ret v t' =>
    rw [hres] at hrun
    simp only [cutEnd] at hrun
    split at hrun
    · cases hrun
    rename_i hv
    split at hrun
    · cases hrun
    rename_i hn
    have hv := rvEq_eq hv
    have hn := Nat.eq_of_beq_eq_true hn
    subst hv
    have hok := hcall _ _ _ _ hres (fun y hy => by cases hy)
    have hpre : ∀ b, (∃ rb, (b, rb) ∈ c.pre ∧ (putAll c.pre { n := c.n, t := .nil }).t.get b = some rb) ∨ (keyIn b c.pre = false ∧ (putAll c.pre { n := c.n, t := .nil }).t.get b = none) := fun b => get_putAll (m := b) c.pre _ k1
    refine hok.sub (fun b rb hb hd => ?_) (by rw [putAll_n]; exact h2) hn.symm (fun b rb hb hd => ?_)
    · rcases hpre b with ⟨x, e1, e2⟩ | ⟨_, e2⟩
      · rw [e2] at hb; cases hb
        exact preOk_get h4 e1
      · rw [e2] at hb; cases hb
    · rcases get_putAll (m := b) c.post s k2 with ⟨x, e1, e2⟩ | ⟨e1, e2⟩
      · have hb : (putAll c.post s).t.get b = some rb := hb
        rw [e2] at hb; cases hb
        exact .inl (postOk_get hd hrun e1)
      · have hb : (putAll c.post s).t.get b = some rb := hb
        rw [e2] at hb
        refine .inr ⟨hb, fun ⟨x, e3, _⟩ => ?_⟩
        rcases hpre b with ⟨y, e4, _⟩ | ⟨_, e5⟩
        · have := keysIn_of k3 (keyIn_of e4)
          rw [e1] at this; cases this
        · rw [e5] at e3; cases e3
  | gnd g => rw [hres] at hrun; cases hrun
  | panic v t' => rw [hres] at hrun; cases hrun
  | bad y => rw [hres] at hrun; cases hrun

theorem ovs_sound {l : List Cut} (hl : ∀ c ∈ l, ∃ call, CallOk P call ∧ c.run call = true) {f : FuncId} {args : List RV} {s : RSt} {r : RRes} (h : ovs l f args s = some r) : ResOk P f args s r ∧ ∀ g, r ≠ .gnd g := by
  induction l with
  | nil => cases h
  | cons c l ih =>
    simp only [ovs] at h
    split at h
    · rename_i r' hr; cases h
      obtain ⟨call, h1, h2⟩ := hl c (by simp)
      exact Cut.sound h1 h2 hr
    · exact ih (fun c hc => hl c (List.mem_cons_of_mem _ hc)) h
end
end Go.Sh
end

section
/- A run of the interpreter on blocks of one's own, as a contract. -/
set_option linter.unusedSimpArgs false
set_option linter.unusedVariables false
set_option linter.unusedSectionVars false
namespace Go.Sh
/-- a whole number -/
def gi (n : Nat) : RV := .g (.int .i64 (.ofNat n))
variable [Env]

/-- a block of one's own, as the interpreter tells it -/
def blk (P : Program) (ad : List Pl) (e : Nat × RB) : HProp := fun h => (e.2 = .dead ∧ h = fun _ => none) ∨ (e.2 ≠ .dead ∧ ∃ p o, ad[e.1]? = some p ∧ BR P ad p e.2 o ∧ pto p.a o h)
def blks (P : Program) (ad : List Pl) (l : List (Nat × RB)) : HProp := stars (l.map (blk P ad))

section
variable {P : Program} {ad : List Pl}

theorem blks_mem : ∀ {l : List (Nat × RB)} {h : Hp}, blks P ad l h → ∀ {b : Nat} {rb : RB}, (b, rb) ∈ l → rb ≠ .dead → ∃ p o, ad[b]? = some p ∧ BR P ad p rb o ∧ h p.a = some (false, o)
  | e :: l, h, hh, b, rb, hm, hd => by
    obtain ⟨h1, h2, hc, rfl, ha, hl⟩ := hh
    rcases List.mem_cons.1 hm with hm | hm
    · subst hm
      rcases ha with ⟨h3, _⟩ | ⟨_, p, o, hp, hr, rfl⟩
      · exact absurd h3 hd
      · exact ⟨p, o, hp, hr, hunion_some_left (by simp)⟩
    · obtain ⟨p, o, hp, hr, ho⟩ := blks_mem (l := l) hl hm hd
      refine ⟨p, o, hp, hr, ?_⟩
      rcases hc p.a with h3 | h3 | ⟨h3, o', h4⟩
      · rw [hunion_none_left h3]; exact ho
      · rw [h3] at ho; cases ho
      · rw [← h3, h4] at ho; cases ho
theorem blks_dom : ∀ {l : List (Nat × RB)} {h : Hp}, blks P ad l h → ∀ {x : Nat} {y : Bool × Obj}, h x = some y → ∃ b rb p o, (b, rb) ∈ l ∧ rb ≠ .dead ∧ ad[b]? = some p ∧ p.a = x ∧ y = (false, o)
  | [], h, hh, x, y, hx => by
    have : h = fun _ => none := hh
    rw [this] at hx; cases hx
  | e :: l, h, hh, x, y, hx => by
    obtain ⟨h1, h2, hc, rfl, ha, hl⟩ := hh
    cases hx1 : h1 x with
    | none =>
      rw [hunion_none_left hx1] at hx
      obtain ⟨b, rb, p, o, h3, h4⟩ := blks_dom (l := l) hl hx
      exact ⟨b, rb, p, o, List.mem_cons_of_mem _ h3, h4⟩
    | some z =>
      rw [hunion_some_left hx1] at hx; cases hx
      rcases ha with ⟨_, rfl⟩ | ⟨h3, p, o, hp, hr, rfl⟩
      · cases hx1
      · simp only at hx1
        split at hx1
        · rename_i he; cases hx1
          exact ⟨e.1, e.2, p, o, by simp, h3, hp, he.symm, rfl⟩
        · cases hx1
theorem blks_inj : ∀ {l : List (Nat × RB)} {h : Hp}, blks P ad l h → ∀ {b b' : Nat} {rb rb' : RB} {p p' : Pl}, (b, rb) ∈ l → rb ≠ .dead → (b', rb') ∈ l → rb' ≠ .dead → ad[b]? = some p → ad[b']? = some p' → p.a = p'.a → b = b'
  | e :: l, h, hh, b, b', rb, rb', p, p', hm, hd, hm', hd', hp, hp', he => by
    obtain ⟨h1, h2, hc, rfl, ha, hl⟩ := hh
    have mixed : ∀ {b b' : Nat} {rb rb' : RB} {p p' : Pl}, (b, rb) = e → rb ≠ .dead → (b', rb') ∈ l → rb' ≠ .dead → ad[b]? = some p → ad[b']? = some p' → p.a ≠ p'.a := by
      clear hm hm' hd hd' hp hp' he
      intro b b' rb rb' p p' hm hd hm' hd' hp hp' he
      subst hm
      rcases ha with ⟨h3, _⟩ | ⟨_, q, o, hq, hr, rfl⟩
      · exact hd h3
      · rw [hp] at hq; cases hq
        obtain ⟨q', o', hq', _, ho'⟩ := blks_mem (l := l) hl hm' hd'
        rw [hp'] at hq'; cases hq'
        rcases hc p.a with h3 | h3 | ⟨h3, o2, h4⟩
        · simp at h3
        · rw [he] at h3; rw [h3] at ho'; cases ho'
        · rw [h3, he, ho'] at h4; cases h4
    rcases List.mem_cons.1 hm with hm | hm <;> rcases List.mem_cons.1 hm' with hm' | hm'
    · rw [← hm'] at hm; cases hm; rfl
    · exact absurd he (mixed hm hd hm' hd' hp hp')
    · exact absurd he.symm (mixed hm' hd' hm hd hp' hp)
    · exact blks_inj (l := l) hl hm hd hm' hd' hp hp' he
theorem blks_make {H : Nat → Option Obj} : ∀ {l : List (Nat × RB)}, keysOnce l = true → (∀ b rb, (b, rb) ∈ l → rb ≠ .dead → ∃ p o, ad[b]? = some p ∧ BR P ad p rb o ∧ H p.a = some o) →
    (∀ b b' rb rb' p p', (b, rb) ∈ l → rb ≠ .dead → (b', rb') ∈ l → rb' ≠ .dead → ad[b]? = some p → ad[b']? = some p' → p.a = p'.a → b = b') →
    ∃ h, blks P ad l h ∧ ∀ x y, h x = some y → ∃ b rb p o, (b, rb) ∈ l ∧ rb ≠ .dead ∧ ad[b]? = some p ∧ p.a = x ∧ y = (false, o) ∧ H x = some o
  | [], _, _, _ => ⟨_, rfl, fun x y h => by cases h⟩
  | (b, rb) :: l, hk, hb, hi => by
    simp only [keysOnce] at hk
    split at hk
    · cases hk
    rename_i hbl
    obtain ⟨h2, h3, h4⟩ := blks_make (l := l) hk (fun b rb hm => hb b rb (List.mem_cons_of_mem _ hm)) (fun b b' rb rb' p p' hm hd hm' => hi b b' rb rb' p p' (List.mem_cons_of_mem _ hm) hd (List.mem_cons_of_mem _ hm'))
    by_cases hd : rb = .dead
    · refine ⟨hunion (fun _ => none) h2, ⟨_, h2, fun x => .inl rfl, rfl, .inl ⟨hd, rfl⟩, h3⟩, fun x y hx => ?_⟩
      rw [hunion_none_left rfl] at hx
      obtain ⟨b', rb', p, o, h5, h6⟩ := h4 x y hx
      exact ⟨b', rb', p, o, List.mem_cons_of_mem _ h5, h6⟩
    · obtain ⟨p, o, hp, hr, ho⟩ := hb b rb (by simp) hd
      have hn : h2 p.a = none := by
        cases hx : h2 p.a with
        | none => rfl
        | some y =>
          obtain ⟨b', rb', p', o', h5, h6, h7, h8, _⟩ := h4 _ _ hx
          have := hi b b' rb rb' p p' (by simp) hd (List.mem_cons_of_mem _ h5) h6 hp h7 h8.symm
          subst this
          rw [keyIn_of h5] at hbl; cases hbl
      refine ⟨hunion (fun x => if x = p.a then some (false, o) else none) h2, ⟨_, h2, fun x => ?_, rfl, .inr ⟨hd, p, o, hp, hr, rfl⟩, h3⟩, fun x y hx => ?_⟩
      · by_cases he : x = p.a
        · subst he; exact .inr (.inl hn)
        · exact .inl (by simp [he])
      · by_cases he : x = p.a
        · subst he
          rw [hunion_some_left (x := (false, o)) (by simp)] at hx; cases hx
          exact ⟨b, rb, p, o, by simp, hd, hp, rfl, rfl, ho⟩
        · rw [hunion_none_left (by simp [he])] at hx
          obtain ⟨b', rb', p, o, h5, h6⟩ := h4 x y hx
          exact ⟨b', rb', p, o, List.mem_cons_of_mem _ h5, h6⟩

def fullB (n : Nat) (l : List (Nat × RB)) : Bool := (List.range n).all fun i => l.any fun e => Nat.beq e.1 i && (match e.2 with | .dead => false | _ => true)

theorem fullB_mem {n : Nat} {l : List (Nat × RB)} (h : fullB n l = true) {i : Nat} (hi : i < n) : ∃ rb, (i, rb) ∈ l ∧ rb ≠ .dead := by
  have := List.all_eq_true.1 h i (by simpa using hi)
  obtain ⟨e, h1, h2⟩ := List.any_eq_true.1 this
  simp only [Bool.and_eq_true] at h2
  have := Nat.eq_of_beq_eq_true h2.1
  subst this
  exact ⟨e.2, h1, fun hd => by rw [hd] at h2; exact absurd h2.2 (by simp)⟩

/-- a run on blocks of one's own, as a contract -/
theorem CallP.of_cut {call : CallF} (hcall : CallOk P call) {c : Cut} (hrun : c.run call = true) (hfull : fullB c.n c.pre = true) {xs : List Value} (hn : ad.length = c.n) (hargs : rabsL ad c.args = some xs) {t : Ty}
    {E w : World} {L : List HProp} (hL : Holds E w (blks P ad c.pre :: L)) {k : t.den → Pr} (hk : ∀ w' m y, rabs (ad ++ m) c.v = some y → Holds E w' (blks P (ad ++ m) c.post :: L) → ∃ x, y = t.val x ∧ k x w') :
    CallP P c.f ⟨xs⟩ t k w := by
  unfold Cut.run at hrun
  split at hrun
  · cases hrun
  rename_i hform
  simp only [cutForm, Bool.and_eq_true] at hform
  obtain ⟨⟨k1, k2⟩, k3⟩ := hform
  cases hres : call c.f c.args (putAll c.pre { n := c.n, t := .nil }) with
  | ret v t' =>
    rw [hres] at hrun
    simp only [cutEnd] at hrun
    split at hrun
    · cases hrun
    rename_i hv
    split at hrun
    · cases hrun
    rename_i hn'
    have hv := rvEq_eq hv
    subst hv
    have hok := hcall _ _ _ _ hres (fun y hy => by cases hy)
    obtain ⟨_, hw, hh, hl, hcc, rfl, hb, hst⟩ := hL.heap
    have hget : ∀ b rb, (putAll c.pre { n := c.n, t := .nil }).t.get b = some rb → (b, rb) ∈ c.pre := by
      intro b rb hb
      rcases get_putAll (m := b) c.pre { n := c.n, t := .nil } k1 with ⟨x, e1, e2⟩ | ⟨_, e2⟩
      · rw [e2] at hb; cases hb; exact e1
      · rw [e2] at hb; cases hb
    have own : ∀ {b rb}, (b, rb) ∈ c.pre → rb ≠ .dead → ∃ p o, ad[b]? = some p ∧ BR P ad p rb o ∧ w.heap[p.a]? = some o ∧ hh p.a = some (false, o) := by
      intro b rb hm hd
      obtain ⟨p, o, hp, hr, ho⟩ := blks_mem hb hm hd
      exact ⟨p, o, hp, hr, hw _ _ _ (hunion_some_left ho), ho⟩
    have hS : SR P ad (putAll c.pre { n := c.n, t := .nil }) w := by
      refine ⟨by rw [putAll_n]; exact hn.symm, fun b b' p p' ⟨rb, h1, h2⟩ ⟨rb', h3, h4⟩ hp hp' he => blks_inj hb (hget _ _ h1) h2 (hget _ _ h3) h4 hp hp' he, fun p hp => ?_, fun b rb h1 h2 => ?_⟩
      · obtain ⟨i, hi, rfl⟩ := List.mem_iff_getElem.1 hp
        obtain ⟨rb, h1, h2⟩ := fullB_mem hfull (i := i) (by rw [← hn]; exact hi)
        obtain ⟨q, o, hq, _, ho, _⟩ := own h1 h2
        rw [List.getElem?_eq_getElem hi] at hq; cases hq
        exact own_size_lt ho
      · obtain ⟨p, o, hp, hr, ho, _⟩ := own (hget _ _ h1) h2
        exact ⟨p, o, hp, ho, hr⟩
    refine ⟨Calls.mono (hok.2 ad w xs hS hargs) fun e w' he => ?_⟩
    obtain ⟨ad', y, he, hy, hS', hF⟩ := he
    obtain ⟨m, rfl⟩ := hF.ext
    obtain ⟨hp2, hp3, hp4⟩ := blks_make (P := P) (ad := ad ++ m) (H := fun x => w'.heap[x]?) (l := c.post) k2
      (fun b rb hm hd => let ⟨p, o, h1, h2, h3⟩ := hS'.blk b rb (postOk_get hd hrun hm) hd; ⟨p, o, h1, h3, h2⟩)
      (fun b b' rb rb' p p' hm hd hm' hd' hp hp' he => hS'.inj b b' p p' ⟨rb, postOk_get hd hrun hm, hd⟩ ⟨rb', postOk_get hd' hrun hm', hd'⟩ hp hp' he)
    have hlne : ∀ x y, hl x = some y → w.heap[x]? = some y.2 ∧ hh x = none := by
      intro x y hx
      rcases hcc x with h1 | h1 | ⟨h1, o, h2⟩
      · exact ⟨hw x y.1 y.2 (by rw [hunion_none_left h1]; exact hx), h1⟩
      · rw [h1] at hx; cases hx
      · obtain ⟨b, rb, p, o', _, _, _, _, h3⟩ := blks_dom hb h2
        cases h3
    have apart : ∀ x y, hp2 x = some y → hl x = none := by
      intro x y hx
      obtain ⟨b, rb, p, o, h1, h2, h3, h4, h5, h6⟩ := hp4 x y hx
      cases hlx : hl x with
      | none => rfl
      | some z =>
        obtain ⟨h7, h8⟩ := hlne x z hlx
        rcases hF.pres b p ⟨rb, postOk_get h2 hrun h1, h2⟩ h3 with ⟨b0, p0, ⟨rb0, e1, e2⟩, e3, e4⟩ | h9
        · obtain ⟨q, o', hq, _, _, hho⟩ := own (hget _ _ e1) e2
          rw [e3] at hq; cases hq
          rw [e4, h4, h8] at hho; cases hho
        · have := own_size_lt h7
          omega
    have hH : Holds E w' (blks P (ad ++ m) c.post :: L) := by
      refine ⟨hF.tape.trans hL.tape, hF.os.trans hL.os, hF.output.trans hL.output, hunion hp2 hl, fun b x o hx => ?_, hp2, hl, fun x => ?_, rfl, hp3, hst⟩
      · cases hbx : hp2 b with
        | none =>
          rw [hunion_none_left hbx] at hx
          obtain ⟨h7, h8⟩ := hlne b _ hx
          rw [hF.stay b (own_size_lt h7) (fun b0 p0 ⟨rb0, e1, e2⟩ e3 e4 => by
            obtain ⟨q, o', hq, _, _, hho⟩ := own (hget _ _ e1) e2
            rw [e3] at hq; cases hq
            rw [e4, h8] at hho; cases hho)]
          exact h7
        | some y =>
          rw [hunion_some_left hbx] at hx; cases hx
          obtain ⟨_, _, _, o', _, _, _, _, h5, h6⟩ := hp4 b _ hbx
          cases h5; exact h6
      · cases hx : hp2 x with
        | none => exact .inl rfl
        | some y => exact .inr (.inl (apart x y hx))
    obtain ⟨x, rfl, hkx⟩ := hk w' m y hy hH
    exact ⟨x, he, hkx⟩
  | gnd g => rw [hres] at hrun; cases hrun
  | panic v t' => rw [hres] at hrun; cases hrun
  | bad y => rw [hres] at hrun; cases hrun
end
end Go.Sh
end

section
/- Into the interpreter's blocks and out of them; contracts as answers of the interpreter. -/
set_option linter.unusedSimpArgs false
set_option linter.unusedVariables false
set_option linter.unusedSectionVars false
namespace Go.Sh
variable [Env]

section
variable {P : Program} {ad : List Pl} {E w : World} {L : List HProp}

theorem Holds.blks_nil (h : Holds E w L) : Holds E w (blks P ad [] :: L) := h.emp_in
theorem Holds.blks_cons {e : Nat × RB} {l : List (Nat × RB)} (h : Holds E w (blk P ad e :: blks P ad l :: L)) : Holds E w (blks P ad (e :: l) :: L) := h.star_in
theorem Holds.blks_out {e : Nat × RB} {l : List (Nat × RB)} (h : Holds E w (blks P ad (e :: l) :: L)) : Holds E w (blk P ad e :: blks P ad l :: L) := h.star_out
/-- one block more -/
theorem Holds.blk_in {b : Nat} {rb : RB} {l : List (Nat × RB)} {p : Pl} {o : Obj} (h : Holds E w (pto p.a o :: blks P ad l :: L)) (hp : ad[b]? = some p) (hd : rb ≠ .dead) (hr : BR P ad p rb o) : Holds E w (blks P ad ((b, rb) :: l) :: L) :=
  (h.mono (B := blk P ad (b, rb)) fun x hx => .inr ⟨hd, p, o, hp, hr, hx⟩).blks_cons
theorem Holds.cells_in {b a cap : Nat} {c : List RV} {vs : List Value} {T : TypeId} {l : List (Nat × RB)} (h : Holds E w (pto a (.cells ⟨vs⟩ T (0, 0)) :: blks P ad l :: L)) (hp : ad[b]? = some ⟨a, cap⟩) (hc : rabsL ad c = some vs) :
    Holds E w (blks P ad ((b, .cells c T false) :: l) :: L) := Holds.blk_in (p := ⟨a, cap⟩) h hp (by simp) (.cells hc)
theorem Holds.opn_in {b a cap : Nat} {c : List RV} {vs slack : List Value} {T : TypeId} {fr : Nat × Nat} {sz : Nat} {l : List (Nat × RB)} (h : Holds E w (pto a (.cells ⟨vs ++ slack⟩ T fr) :: blks P ad l :: L)) (hp : ad[b]? = some ⟨a, cap⟩) (hc : rabsL ad c = some vs)
    (hs : cSize P T = some sz) (h0 : 0 < sz) (hl : vs.length + slack.length = cap * sz) (hf : FrOk fr (vs.length + slack.length)) :
    Holds E w (blks P ad ((b, .cells c T true) :: l) :: L) := Holds.blk_in (p := ⟨a, cap⟩) h hp (by simp) (.opn hc hs h0 hl hf)
theorem Holds.map_in {b a cap clock : Nat} {es : List (RV × RV × Nat)} {ms : List MapEntry} {l : List (Nat × RB)} (h : Holds E w (pto a (.map ⟨ms⟩ clock) :: blks P ad l :: L)) (hp : ad[b]? = some ⟨a, cap⟩) (hc : Pl.ents ad es = some ms) :
    Holds E w (blks P ad ((b, .map es clock) :: l) :: L) := Holds.blk_in (p := ⟨a, cap⟩) h hp (by simp) (.map hc)
theorem Holds.view_in {b a cap m : Nat} {es : List (Nat × Option RV)} {l : List (Nat × RB)} (h : Holds E w (pto a (.map ⟨Env.mp m⟩ (Env.ck m)) :: blks P ad l :: L)) (hp : ad[b]? = some ⟨a, cap⟩) (hc : ViewOk ad es (Env.mp m)) :
    Holds E w (blks P ad ((b, .view m es) :: l) :: L) := Holds.blk_in (p := ⟨a, cap⟩) h hp (by simp) (.view hc)

theorem Holds.blk_out {b : Nat} {rb : RB} {l : List (Nat × RB)} (h : Holds E w (blks P ad ((b, rb) :: l) :: L)) (hd : rb ≠ .dead) : ∃ p o, ad[b]? = some p ∧ BR P ad p rb o ∧ Holds E w (pto p.a o :: blks P ad l :: L) := by
  obtain ⟨_, h1, h2, h3, hc, rfl, ha, hL⟩ := h.blks_out.heap
  rcases ha with ⟨h4, _⟩ | ⟨_, p, o, hp, hr, ha⟩
  · exact absurd h4 hd
  · exact ⟨p, o, hp, hr, h.tape, h.os, h.output, _, h1, h2, h3, hc, rfl, ha, hL⟩
theorem Holds.dead_out {b : Nat} {l : List (Nat × RB)} (h : Holds E w (blks P ad ((b, .dead) :: l) :: L)) : Holds E w (blks P ad l :: L) := h.blks_out.drop
theorem Holds.skip_out {e : Nat × RB} {l : List (Nat × RB)} (h : Holds E w (blks P ad (e :: l) :: L)) : Holds E w (blks P ad l :: L) := h.blks_out.drop
theorem Holds.cells_out {b : Nat} {c : List RV} {T : TypeId} {l : List (Nat × RB)} (h : Holds E w (blks P ad ((b, .cells c T false) :: l) :: L)) :
    ∃ p vs, ad[b]? = some p ∧ rabsL ad c = some vs ∧ Holds E w (pto p.a (.cells ⟨vs⟩ T (0, 0)) :: blks P ad l :: L) := by
  obtain ⟨p, o, hp, hr, h⟩ := h.blk_out (by simp)
  cases hr with
  | cells hc => exact ⟨p, _, hp, hc, h⟩
theorem Holds.opn_out {b : Nat} {c : List RV} {T : TypeId} {l : List (Nat × RB)} (h : Holds E w (blks P ad ((b, .cells c T true) :: l) :: L)) :
    ∃ p vs slack fr sz, ad[b]? = some p ∧ rabsL ad c = some vs ∧ cSize P T = some sz ∧ 0 < sz ∧ vs.length + slack.length = p.cap * sz ∧ FrOk fr (vs.length + slack.length) ∧ Holds E w (pto p.a (.cells ⟨vs ++ slack⟩ T fr) :: blks P ad l :: L) := by
  obtain ⟨p, o, hp, hr, h⟩ := h.blk_out (by simp)
  cases hr with
  | opn hc hs h0 hl hf => exact ⟨p, _, _, _, _, hp, hc, hs, h0, hl, hf, h⟩
theorem Holds.map_out {b clock : Nat} {es : List (RV × RV × Nat)} {l : List (Nat × RB)} (h : Holds E w (blks P ad ((b, .map es clock) :: l) :: L)) :
    ∃ p ms, ad[b]? = some p ∧ Pl.ents ad es = some ms ∧ Holds E w (pto p.a (.map ⟨ms⟩ clock) :: blks P ad l :: L) := by
  obtain ⟨p, o, hp, hr, h⟩ := h.blk_out (by simp)
  cases hr with
  | map hc => exact ⟨p, _, hp, hc, h⟩
theorem Holds.view_out {b m : Nat} {es : List (Nat × Option RV)} {l : List (Nat × RB)} (h : Holds E w (blks P ad ((b, .view m es) :: l) :: L)) :
    ∃ p, ad[b]? = some p ∧ ViewOk ad es (Env.mp m) ∧ Holds E w (pto p.a (.map ⟨Env.mp m⟩ (Env.ck m)) :: blks P ad l :: L) := by
  obtain ⟨p, o, hp, hr, h⟩ := h.blk_out (by simp)
  cases hr with
  | view hc => exact ⟨p, hp, hc, h⟩

/-- a contract of a call that leaves all as it is, as an answer -/
theorem ResOk.of_call {f : FuncId} {args : List RV} {s : RSt} {v : RV} (hcl : Callable P f) (h : ∀ ad w xs, SR P ad s w → rabsL ad args = some xs → ∃ (t : Ty) (x : t.den), rabs ad v = some (t.val x) ∧ ∀ k : t.den → Pr, (∀ w', Holds w w' [old w] → k x w') → CallP P f ⟨xs⟩ t k w) :
    ResOk P f args s (.ret v s) := by
  refine ⟨hcl, fun ad w xs hS hx => ?_⟩
  obtain ⟨t, x, hv, hc⟩ := h ad w xs hS hx
  refine Calls.mono (hc (fun y w' => y = x ∧ Holds w w' [old w]) fun w' hw => ⟨rfl, hw⟩).out fun e w' he => ?_
  obtain ⟨y, he, rfl, hw⟩ := he
  have hh : ∀ b o, w.heap[b]? = some o → w'.heap[b]? = some o := fun b o hb => hw.old hb
  have hsz : w.heap.size ≤ w'.heap.size := by
    rcases Nat.eq_zero_or_pos w.heap.size with h0 | h0
    · omega
    · have h1 := hh (w.heap.size - 1) _ (Array.getElem?_eq_getElem (by omega))
      have := own_size_lt h1
      omega
  have hst : ∀ x, x < w.heap.size → w'.heap[x]? = w.heap[x]? := fun x hx => by
    rw [Array.getElem?_eq_getElem hx]; exact hh x _ (Array.getElem?_eq_getElem hx)
  refine ⟨ad, _, he, hv, ⟨hS.n, hS.inj, fun p hp => Nat.lt_of_lt_of_le (hS.lt p hp) hsz, fun b rb hb hd => ?_⟩, ⟨⟨[], by simp⟩, hsz, fun x hx _ => hst x hx, fun b p hb hp => .inl ⟨b, p, hb, hp, rfl⟩, hw.tape, hw.os, hw.output⟩⟩
  obtain ⟨p, o, hp, ho, hr⟩ := hS.blk b rb hb hd
  exact ⟨p, o, hp, hh _ _ ho, hr⟩
end
end Go.Sh
end

section
/- Blocks of the interpreter and assertions: the same thing, told in two ways. -/
set_option linter.unusedSimpArgs false
set_option linter.unusedVariables false
set_option linter.unusedSectionVars false
namespace Go.Sh

/-- a block made by an append: its first cells; behind them there is room -/
def opnA (P : Program) (p : Pl) (T : TypeId) (cs : List Value) : HProp := fun h => ∃ slack fr sz, cSize P T = some sz ∧ 0 < sz ∧ cs.length + slack.length = p.cap * sz ∧ FrOk fr (cs.length + slack.length) ∧ pto p.a (.cells ⟨cs ++ slack⟩ T fr) h

variable [Env]
section
variable {P : Program} {ad : List Pl} {E w : World} {L : List HProp}

/-- the assertion A tells of the block what e tells -/
structure IsB (P : Program) (ad : List Pl) (e : Nat × RB) (A : HProp) : Prop where
  inn : ∀ h, A h → blk P ad e h
  out : ∀ m h, blk P (ad ++ m) e h → A h

theorem rabsL_mono' {m : List Pl} {c : List RV} {vs us : List Value} (h : rabsL ad c = some vs) (h' : rabsL (ad ++ m) c = some us) : us = vs := by
  rw [rabsL_mono h] at h'; exact (Option.some.inj h').symm
theorem IsB.cells {b : Nat} {p : Pl} {c : List RV} {vs : List Value} {T : TypeId} (hp : ad[b]? = some p) (hc : rabsL ad c = some vs) : IsB P ad (b, .cells c T false) (pto p.a (.cells ⟨vs⟩ T (0, 0))) := by
  refine ⟨fun h hx => .inr ⟨by simp, p, _, hp, .cells hc, hx⟩, fun m h hx => ?_⟩
  rcases hx with ⟨h1, _⟩ | ⟨_, q, o, hq, hr, hx⟩
  · cases h1
  · have hq' : (ad ++ m)[b]? = some q := hq
    rw [get_app hp] at hq'; cases hq'
    cases hr with
    | cells h2 => rw [rabsL_mono' hc h2] at hx; exact hx
theorem IsB.opn {b : Nat} {p : Pl} {c : List RV} {vs : List Value} {T : TypeId} (hp : ad[b]? = some p) (hc : rabsL ad c = some vs) : IsB P ad (b, .cells c T true) (opnA P p T vs) := by
  refine ⟨fun h ⟨slack, fr, sz, h1, h2, h3, h4, hx⟩ => .inr ⟨by simp, p, _, hp, .opn hc h1 h2 h3 h4, hx⟩, fun m h hx => ?_⟩
  rcases hx with ⟨h1, _⟩ | ⟨_, q, o, hq, hr, hx⟩
  · cases h1
  · have hq' : (ad ++ m)[b]? = some q := hq
    rw [get_app hp] at hq'; cases hq'
    cases hr with
    | opn h2 h3 h4 h5 h6 =>
      have := rabsL_mono' hc h2; subst this
      exact ⟨_, _, _, h3, h4, h5, h6, hx⟩
theorem IsB.map {b clock : Nat} {p : Pl} {es : List (RV × RV × Nat)} {l : List MapEntry} (hp : ad[b]? = some p) (hc : Pl.ents ad es = some l) : IsB P ad (b, .map es clock) (pto p.a (.map ⟨l⟩ clock)) := by
  refine ⟨fun h hx => .inr ⟨by simp, p, _, hp, .map hc, hx⟩, fun m h hx => ?_⟩
  rcases hx with ⟨h1, _⟩ | ⟨_, q, o, hq, hr, hx⟩
  · cases h1
  · have hq' : (ad ++ m)[b]? = some q := hq
    rw [get_app hp] at hq'; cases hq'
    cases hr with
    | map h2 =>
      rw [ents_mono hc] at h2; cases h2; exact hx
theorem IsB.view {b v : Nat} {p : Pl} {es : List (Nat × Option RV)} (hp : ad[b]? = some p) (hc : ViewOk ad es (Env.mp v)) : IsB P ad (b, .view v es) (pto p.a (.map ⟨Env.mp v⟩ (Env.ck v))) := by
  refine ⟨fun h hx => .inr ⟨by simp, p, _, hp, .view hc, hx⟩, fun m h hx => ?_⟩
  rcases hx with ⟨h1, _⟩ | ⟨_, q, o, hq, hr, hx⟩
  · cases h1
  · have hq' : (ad ++ m)[b]? = some q := hq
    rw [get_app hp] at hq'; cases hq'
    cases hr with
    | view _ => exact hx

theorem so_some {b : Nat} {p : Pl} (hp : ad[b]? = some p) (hc : 1 ≤ p.cap) : rabs ad (.sl b 0 1 (.opn 0)) = some (.slice (some ⟨p.a, 0, none⟩) 1 p.cap) := by
  simp only [rabs, hp]; rw [if_pos (by omega)]; rfl
theorem so_none {b : Nat} {p : Pl} (hp : ad[b]? = some p) (hc : ¬ 1 ≤ p.cap) : rabs ad (.sl b 0 1 (.opn 0)) = none := by
  simp only [rabs, hp]; rw [if_neg (by omega)]
theorem rabs_g (v : Value) : rabs ad (.g v) = some v := rfl
theorem rabs_gi (n : Nat) : rabs ad (gi n) = some (.int .i64 (.ofNat n)) := rfl
theorem rabs_sy (i : Nat) : rabs ad (.sy i) = some (Env.ρ i) := rfl
theorem rabs_si {b : Nat} {p : Pl} (hp : ad[b]? = some p) : rabs ad (.sl b 0 1 (.is 1)) = some (.slice (some ⟨p.a, 0, none⟩) 1 1) := by simp only [rabs, hp]
theorem rabs_m {b : Nat} {p : Pl} (hp : ad[b]? = some p) : rabs ad (.mp b) = some (.map (some p.a)) := by simp only [rabs, hp]
theorem rabs_p {b : Nat} {p : Pl} (hp : ad[b]? = some p) : rabs ad (.ptr b 0) = some (.pointer (some ⟨p.a, 0, none⟩)) := by simp only [rabs, hp]
theorem Holds.into : ∀ {es : List (Nat × RB)} {As : List HProp}, All2 (IsB P ad) es As → Holds E w (As ++ L) → Holds E w (blks P ad es :: L)
  | _, _, .nil, h => h.emp_in
  | _, _, .cons h1 h2, h => by
    refine Holds.blks_cons (Holds.imp h fun x hx => ?_)
    obtain ⟨ha, hb, hc, rfl, hA, hr⟩ := hx
    refine ⟨ha, hb, hc, rfl, h1.inn _ hA, ?_⟩
    have key : ∀ {es : List (Nat × RB)} {As : List HProp}, All2 (IsB P ad) es As → ∀ x, stars (As ++ L) x → stars (blks P ad es :: L) x := by
      intro es As h
      induction h with
      | nil => exact fun x hx => ⟨fun _ => none, x, fun _ => .inl rfl, by funext b; simp [hunion], rfl, hx⟩
      | cons g _ ih =>
        intro x hx
        obtain ⟨u, v, hc, rfl, hA, hr⟩ := hx
        exact hstar_assoc' ⟨u, v, hc, rfl, g.inn _ hA, ih _ hr⟩
    exact key h2 _ hr
theorem Holds.back {m : List Pl} {fs : List (Nat × RB)} : ∀ {es : List (Nat × RB)} {As : List HProp}, All2 (IsB P ad) es As → Holds E w (blks P (ad ++ m) (es ++ fs) :: L) → Holds E w (As ++ (blks P (ad ++ m) fs :: L)) := by
  intro es As hA h
  refine h.imp ?_
  clear h
  induction hA with
  | nil => exact fun x hx => hx
  | cons g _ ih =>
    intro x hx
    obtain ⟨u, v, hc, rfl, h1, h2⟩ := hstar_assoc hx
    exact ⟨u, v, hc, rfl, g.out _ _ h1, ih _ h2⟩
theorem Holds.out_same {m : List Pl} {e : Nat × RB} {A : HProp} {l : List (Nat × RB)} (h : Holds E w (blks P (ad ++ m) (e :: l) :: L)) (g : IsB P ad e A) : Holds E w (A :: blks P (ad ++ m) l :: L) := h.blks_out.mono (g.out m)
/-- a new block, all of its cells -/
theorem Holds.out_cells {b : Nat} {c : List RV} {T : TypeId} {l : List (Nat × RB)} (h : Holds E w (blks P ad ((b, .cells c T false) :: l) :: L)) :
    ∃ p vs, ad[b]? = some p ∧ rabsL ad c = some vs ∧ Holds E w (pto p.a (.cells ⟨vs⟩ T (0, 0)) :: blks P ad l :: L) := h.cells_out
theorem Holds.out_opn {b : Nat} {c : List RV} {T : TypeId} {l : List (Nat × RB)} (h : Holds E w (blks P ad ((b, .cells c T true) :: l) :: L)) :
    ∃ p vs, ad[b]? = some p ∧ rabsL ad c = some vs ∧ Holds E w (opnA P p T vs :: blks P ad l :: L) := by
  obtain ⟨p, vs, slack, fr, sz, h1, h2, h3, h4, h5, h6, h7⟩ := h.opn_out
  exact ⟨p, vs, h1, h2, h7.mono fun x hx => ⟨slack, fr, sz, h3, h4, h5, h6, hx⟩⟩
theorem Holds.done {m : List Pl} {es : List (Nat × RB)} {As : List HProp} (hA : All2 (IsB P ad) es As) (h : Holds E w (blks P (ad ++ m) es :: L)) : Holds E w (As ++ L) := by
  have h' : Holds E w (blks P (ad ++ m) (es ++ []) :: L) := by rw [List.append_nil]; exact h
  have h2 := h'.back hA
  refine h2.imp fun x hx => ?_
  clear h h' h2 hA
  induction As generalizing x with
  | nil =>
    obtain ⟨u, v, hc, rfl, h1, h2⟩ := hx
    have : u = fun _ => none := h1
    subst this
    have e : hunion (fun _ => none) v = v := by funext b; simp [hunion]
    rw [e]; exact h2
  | cons A As ih =>
    obtain ⟨u, v, hc, rfl, h1, h2⟩ := hx
    exact ⟨u, v, hc, rfl, h1, ih _ h2⟩
/-- a call that leaves all blocks as they are -/
theorem CallP.ro_cut {call : CallF} (hcall : CallOk P call) {c : Cut} (hrun : c.run call = true) (hfull : fullB c.n c.pre = true) (hsame : c.post = c.pre) {xs : List Value} (hn : ad.length = c.n) (hargs : rabsL ad c.args = some xs) {t : Ty} {As : List HProp} (hA : All2 (IsB P ad) c.pre As)
    (hL : Holds E w (As ++ L)) {k : t.den → Pr} {x : t.den} (hv : ∀ m, rabs (ad ++ m) c.v = some (t.val x)) (hk : ∀ w', Holds E w' (As ++ L) → k x w') : CallP P c.f ⟨xs⟩ t k w :=
  CallP.of_cut hcall hrun hfull hn hargs (hL.into hA) fun w' m y hy h => by
    rw [hsame] at h
    rw [hv m] at hy; cases hy
    exact ⟨x, rfl, hk w' (h.done hA)⟩
end
end Go.Sh
end
