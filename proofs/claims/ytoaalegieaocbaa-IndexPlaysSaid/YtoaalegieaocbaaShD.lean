/- A region that draws its order: one canonical order serves all, if what was read early is read anew behind each act that may come between. -/
import Derived.Test.YtoaalegieaocbaaShB
namespace Go.Sh
section
variable {ro : Option Nat} {P : Program} {ops : Array Oper} {Q : Exit → Act → World → Prop}

theorem slot_eq_getElem? {a a' : Act} {x : Tmp} (hsz : a'.tmps.size = a.tmps.size) (h : slot a' x = slot a x) : a'.tmps[x]? = a.tmps[x]? := by
  by_cases hx : x < a.tmps.size
  · have hx' : x < a'.tmps.size := by rw [hsz]; exact hx
    simp [slot, Array.getD_eq_getD_getElem?, hx, hx'] at h
    simp [hx, hx', h]
  · have hx' : ¬ x < a'.tmps.size := by rw [hsz]; exact hx
    simp [hx, hx']

theorem look_congr {o : Oper} (hs : ∀ cs b, o.op ≠ .select cs b) {a a' : Act} (hsz : a'.tmps.size = a.tmps.size)
    (h : ∀ x ∈ o.looksAt ops, slot a' x = slot a x) :
    execOp a'.eval o = execOp a.eval o ∧ Region.wanted o (yielded ops a'.tmps) = Region.wanted o (yielded ops a.tmps) := by
  constructor
  · refine execOp_congr o hs fun x hx => ?_
    cases x with
    | tmp t =>
      have : t ∈ o.looksAt ops := by
        unfold Oper.looksAt
        rw [List.mem_append]; left
        rw [List.mem_filterMap]
        exact ⟨.tmp t, by simpa using hx, rfl⟩
      exact h t this
    | _ => rfl
  · unfold Region.wanted
    cases hg : o.guard with
    | none => rfl
    | some gw =>
      obtain ⟨g, want⟩ := gw
      simp only
      congr 1
      unfold yielded
      cases hd : (ops[g]?).bind (·.dst) with
      | none => rfl
      | some d =>
        have : d ∈ o.looksAt ops := by
          unfold Oper.looksAt
          rw [List.mem_append]; right
          rw [hg]; simp [hd]
        simp only [Option.bind_some]
        rw [slot_eq_getElem? hsz (h d this)]

def DSteps.idx : DSteps → List Nat
  | .nil => []
  | .take i _ r => i :: r.idx
  | .now i _ _ r => i :: r.idx
  | .eff i _ _ r => i :: r.idx
  | .effU i _ r => i :: r.idx
  | .call i _ _ r => i :: r.idx
  | .split _ r => r.idx
  | .alt r1 _ => r1.idx

/-- the operations that o waits for -/
def preds (ops : Array Oper) (i : Nat) : List Nat :=
  match ops[i]? with
  | some o => (o.after.toList.filter (Region.binds .any)).map (·.on)
  | none => []

def looks (ops : Array Oper) (i : Nat) : List Tmp :=
  match ops[i]? with
  | some o => o.looksAt ops
  | none => []

def dstIs (ops : Array Oper) (i : Nat) : Option Tmp := (ops[i]?).bind (·.dst)

/-- j does not look at what i writes -/
def blind (ops : Array Oper) (i j : Nat) : Bool :=
  match dstIs ops i with
  | some d => !(looks ops j).contains d
  | none => true

def unlike (ops : Array Oper) (i j : Nat) : Bool :=
  match dstIs ops i, dstIs ops j with
  | some d, some e => d != e
  | _, _ => true

def Mode.isGet : Mode → Bool
  | .get _ => true
  | _ => false

/-- what an act (number i) asks of the order -/
def eventOk (ops : Array Oper) (i : Nat) (chk done : List Nat) (pend : List (Nat × Bool)) (al rest : List Nat) : Bool :=
  (ops[i]?).isSome && !done.contains i && (preds ops i).all (fun k => done.contains k) &&
  ((pend.filter fun k => !(preds ops i).contains k.1).all fun k => (!k.2 || chk.contains k.1) && blind ops i k.1 && blind ops k.1 i && unlike ops k.1 i) &&
  rest.all fun j => al.contains j || (preds ops j).any fun k => (i :: rest).contains k

def drawOk (ops : Array Oper) (N : Nat) : List Nat → List (Nat × Bool) → List Nat → DSteps → Bool
  | done, _, al, .nil => al.isEmpty && (List.range ops.size).all fun i => done.contains i
  | done, pend, al, .take i m r =>
    al.isEmpty && ((match dstIs ops i with | some d => decide (d < N) && blind ops i i | none => false) && !done.contains i && (preds ops i).all (fun k => done.contains k) &&
    (pend.all fun k => blind ops i k.1 && unlike ops k.1 i && ((preds ops i).contains k.1 || blind ops k.1 i)) &&
    drawOk ops N (i :: done) ((i, m.isGet) :: pend) [] r)
  | done, pend, al, .now i _ chk r => eventOk ops i chk done pend al r.idx && drawOk ops N (i :: done) (pend.filter fun k => !(preds ops i).contains k.1) [] r
  | done, pend, al, .eff i _ chk r => eventOk ops i chk done pend al r.idx && drawOk ops N (i :: done) (pend.filter fun k => !(preds ops i).contains k.1) [] r
  | done, pend, al, .effU i chk r => eventOk ops i chk done pend al r.idx && drawOk ops N (i :: done) (pend.filter fun k => !(preds ops i).contains k.1) [] r
  | done, pend, al, .call i _ chk r => eventOk ops i chk done pend al r.idx && drawOk ops N (i :: done) (pend.filter fun k => !(preds ops i).contains k.1) [] r
  | done, pend, al, .split _ r => al.isEmpty && drawOk ops N done pend [] r
  | done, pend, al, .alt r1 r2 => al.isEmpty && (decide (r1.idx ≠ []) && decide (r2.idx ≠ []) && drawOk ops N done pend (r2.idx.take 1) r1 && drawOk ops N done pend (r1.idx.take 1) r2 &&
    r1.idx.all (fun k => r2.idx.contains k) && r2.idx.all (fun k => r1.idx.contains k) && r1.idx.length == r2.idx.length)

/-! ### the proof -/

def OrdD (ops : Array Oper) : List Nat → Prop
  | [] => True
  | i :: l => (∀ k ∈ preds ops i, k ∈ l) ∧ OrdD ops l

theorem OrdD.first : ∀ (done : List Nat) (p : List Nat), OrdD ops done → (∀ k ∈ p, k ∈ done) → p ≠ [] →
    ∃ k ∈ p, ∀ j ∈ preds ops k, j ∈ done ∧ j ∉ p
  | [], p, _, hp, hne => by
    cases p with
    | nil => exact absurd rfl hne
    | cons k p => exact absurd (hp k (by simp)) (by simp)
  | i :: l, p, ho, hp, hne => by
    by_cases h : ∃ k ∈ p, k ∈ l
    · obtain ⟨k0, hk0, hk0l⟩ := h
      have hne' : p.filter (fun k => l.contains k) ≠ [] := by
        intro he
        have : k0 ∈ p.filter (fun k => l.contains k) := List.mem_filter.2 ⟨hk0, by simpa using hk0l⟩
        rw [he] at this; cases this
      obtain ⟨k, hk, hkp⟩ := OrdD.first l (p.filter fun k => l.contains k) ho.2 (fun k hk => by simpa using (List.mem_filter.1 hk).2) hne'
      refine ⟨k, (List.mem_filter.1 hk).1, fun j hj => ?_⟩
      obtain ⟨h1, h2⟩ := hkp j hj
      exact ⟨List.mem_cons_of_mem _ h1, fun hjp => h2 (List.mem_filter.2 ⟨hjp, by simpa using h1⟩)⟩
    · obtain ⟨k, hk⟩ := List.exists_mem_of_ne_nil p hne
      have hki : k = i := by
        rcases List.mem_cons.1 (hp k hk) with h' | h'
        · exact h'
        · exact absurd ⟨k, hk, h'⟩ h
      subst hki
      exact ⟨k, hk, fun j hj => ⟨List.mem_cons_of_mem _ (ho.1 j hj), fun hjp => h ⟨j, hjp, ho.1 j hj⟩⟩⟩

def Prom (P : Program) (ops : Array Oper) (k : Nat × Bool) (a : Act) (w : World) : Prop :=
  ∃ o d, ops[k.1]? = some o ∧ o.dst = some d ∧ d < a.tmps.size ∧
    ((Region.wanted o (yielded ops a.tmps) = true ∧ ∀ w', (k.2 = true → w' = w) → (execOp a.eval o).run P w' = .ok (.value (slot a d)) w') ∨
     (Region.wanted o (yielded ops a.tmps) = false ∧ slot a d = undef))

def Frames (ops : Array Oper) (p : List (Nat × Bool)) (aa ac : Act) : Prop :=
  aa.defers = ac.defers ∧ aa.tmps.size = ac.tmps.size ∧ ∀ x, (∀ k ∈ p, dstIs ops k.1 ≠ some x) → slot aa x = slot ac x

theorem noSel (hsel : Region.noSelect ops = true) {i : Nat} {o : Oper} (h : ops[i]? = some o) : ∀ cs b, o.op ≠ .select cs b :=
  fun cs b => Region.noSelect_spec hsel i o cs b h

theorem blind_spec {i j : Nat} (h : blind ops i j = true) {d : Tmp} (hd : dstIs ops i = some d) {o : Oper} (ho : ops[j]? = some o) : d ∉ o.looksAt ops := by
  unfold blind at h
  rw [hd] at h
  simpa [looks, ho] using h
theorem unlike_spec {i j : Nat} (h : unlike ops i j = true) {d : Tmp} (hd : dstIs ops i = some d) : dstIs ops j ≠ some d := by
  unfold unlike at h
  rw [hd] at h
  intro he
  rw [he] at h
  simp at h

/-- what does not look at a slot that is written is the same behind it -/
theorem put_look (hsel : Region.noSelect ops = true) {i j : Nat} {oi oj : Oper} (hi : ops[i]? = some oi) (hj : ops[j]? = some oj) (h : blind ops i j = true) (a : Act) (v : Value) :
    execOp (a.put oi.dst v).eval oj = execOp a.eval oj ∧ Region.wanted oj (yielded ops (a.put oi.dst v).tmps) = Region.wanted oj (yielded ops a.tmps) := by
  cases hd : oi.dst with
  | none => exact ⟨rfl, rfl⟩
  | some d =>
    have hdi : dstIs ops i = some d := by simp [dstIs, hi, hd]
    refine look_congr (noSel hsel hj) (by rw [put_some, size_set]) fun x hx => ?_
    rw [put_some, slot_set, if_neg]
    intro h'
    exact blind_spec h hdi hj (h'.1 ▸ hx)

theorem slot_put_ne {i k : Nat} {oi : Oper} (hi : ops[i]? = some oi) (h : unlike ops k i = true) {d : Tmp} (hd : dstIs ops k = some d) (a : Act) (v : Value) :
    slot (a.put oi.dst v) d = slot a d := by
  cases he : oi.dst with
  | none => rfl
  | some e =>
    rw [put_some, slot_set, if_neg]
    intro h'
    have := unlike_spec h hd
    apply this
    simp [dstIs, hi, he, h'.1]

theorem size_put (a : Act) (d : Option Tmp) (v : Value) : (a.put d v).tmps.size = a.tmps.size := by
  cases d with
  | none => rfl
  | some d => rw [put_some, size_set]

theorem Prom.put (hsel : Region.noSelect ops = true) {k : Nat × Bool} {a : Act} {w w' : World} {i : Nat} {oi : Oper} {v : Value} (hp : Prom P ops k a w) (hi : ops[i]? = some oi)
    (hb : blind ops i k.1 = true) (hu : unlike ops k.1 i = true)
    (hchk : k.2 = true → w' = w ∨ ∀ o, ops[k.1]? = some o → Region.wanted o (yielded ops (a.put oi.dst v).tmps) = true →
      (execOp (a.put oi.dst v).eval o).run P w' = .ok (.value (match o.dst with | some d => slot (a.put oi.dst v) d | none => undef)) w') :
    Prom P ops k (a.put oi.dst v) w' := by
  obtain ⟨o, d, ho, hd, hlt, hcase⟩ := hp
  obtain ⟨h1, h2⟩ := put_look hsel hi ho hb a v
  have hdk : dstIs ops k.1 = some d := by simp [dstIs, ho, hd]
  have h3 := slot_put_ne hi hu hdk a v
  refine ⟨o, d, ho, hd, by rw [size_put]; exact hlt, ?_⟩
  rcases hcase with ⟨hw, hr⟩ | ⟨hw, hs⟩
  · refine .inl ⟨by rw [h2]; exact hw, fun w1 hw1 => ?_⟩
    by_cases hg : k.2 = true
    · have hw1' := hw1 hg
      subst hw1'
      rcases hchk hg with he | hc
      · subst he
        rw [h1, h3]
        exact hr _ (fun _ => rfl)
      · have := hc o ho (by rw [h2]; exact hw)
        rw [hd] at this
        exact this
    · rw [h1, h3]
      exact hr w1 (fun h => absurd h hg)
  · exact .inr ⟨by rw [h2]; exact hw, by rw [h3]; exact hs⟩

theorem checks_out {a : Act} {k : Pr} {w : World} : ∀ (l : List Nat), checksV P ops a k l w →
    k w ∧ ∀ j ∈ l, ∀ o, ops[j]? = some o → Region.wanted o (yielded ops a.tmps) = true →
      (execOp a.eval o).run P w = .ok (.value (match o.dst with | some d => slot a d | none => undef)) w
  | [], h => ⟨h, fun j hj => by cases hj⟩
  | i :: l, h => by
    simp only [checksV] at h
    cases hi : ops[i]? with
    | none => rw [hi] at h; exact h.elim
    | some o =>
      rw [hi] at h
      simp only at h
      cases hw : Region.wanted o (yielded ops a.tmps) with
      | true =>
        rw [hw] at h
        obtain ⟨h1, h2⟩ := h.out
        obtain ⟨h3, h4⟩ := checks_out l h2
        refine ⟨h3, fun j hj o' ho' hw' => ?_⟩
        rcases List.mem_cons.1 hj with rfl | hj
        · rw [hi] at ho'; cases ho'; exact h1
        · exact h4 j hj o' ho' hw'
      | false =>
        rw [hw] at h
        obtain ⟨h3, h4⟩ := checks_out l h
        refine ⟨h3, fun j hj o' ho' hw' => ?_⟩
        rcases List.mem_cons.1 hj with rfl | hj
        · rw [hi] at ho'; cases ho'; rw [hw] at hw'; cases hw'
        · exact h4 j hj o' ho' hw'

theorem ifWanted_wp' {i : Nat} {aa ac : Act} {w : World} {next K : Act → World → Prop} {run : Oper → Pr} (h : ifWanted ops i ac next run w)
    (hsame : ∀ o, ops[i]? = some o → Region.wanted o (yielded ops aa.tmps) = Region.wanted o (yielded ops ac.tmps))
    (hr : ∀ o, ops[i]? = some o → run o w → o.wpIn (Fr ro) 0 P aa w K Q) (hn : ∀ o, ops[i]? = some o → next (ac.put o.dst undef) w → K (aa.put o.dst undef) w) :
    wpOpIn (Fr ro) 0 P ops Q i K aa w := by
  unfold ifWanted at h
  unfold wpOpIn
  cases ho : ops[i]? with
  | none => simp [ho] at h
  | some o =>
    simp only [ho] at h ⊢
    rw [hsame o ho]
    cases hw : Region.wanted o (yielded ops ac.tmps) with
    | true => simp only [hw, if_true] at h ⊢; exact hr o ho h
    | false => simp only [hw] at h ⊢; exact ⟨fun _ _ => trivial, hn o ho h⟩

theorem takeV_wp' {m : Mode} {o : Oper} {aa ac : Act} {w : World} {next K : Act → World → Prop} (he : execOp aa.eval o = execOp ac.eval o) (h : takeV P m o ac next w)
    (hk : ∀ v, next (ac.put o.dst v) w → K (aa.put o.dst v) w) : o.wpIn (Fr ro) 0 P aa w K Q := by
  cases m with
  | pure =>
    simp only [takeV] at h
    cases hv : pureRun P (execOp ac.eval o) with
    | none => rw [hv] at h; exact h.elim
    | some n =>
      rw [hv] at h
      cases n <;> first | exact h.elim | exact wp_value (by rw [he]; exact pureRun_sound _ hv w) (hk _ h)
  | val t => obtain ⟨x, hx, hn⟩ := h.out; exact wp_value (by rw [he]; exact hx w) (hk _ hn)
  | get t => obtain ⟨x, hx, hn⟩ := h.out; exact wp_value (by rw [he]; exact hx) (hk _ hn)

theorem callV_wp' {t : Ty} {o : Oper} {aa ac : Act} {w : World} {next K : Act → World → Prop} (he : execOp aa.eval o = execOp ac.eval o) (h : callV P t o ac next w)
    (hk : ∀ v w', next (ac.put o.dst v) w' → K (aa.put o.dst v) w') : o.wpIn (Fr ro) 0 P aa w K Q := by
  simp only [callV] at h
  cases hv : pureRun P (execOp ac.eval o) with
  | none => rw [hv] at h; exact h.elim
  | some n =>
    rw [hv] at h
    cases n
    case enter f args =>
      refine ⟨fun _ _ => trivial, ?_⟩
      rw [semAt_run (by rw [he]; exact pureRun_sound _ hv w) (fun d hd => by cases hd), Oper.uponIn_enter]
      refine ⟨fun h => (by cases h), CallsIn.mono (calls_fr.2 h.out) fun e w' he => ?_⟩
      obtain ⟨x, rfl, hn⟩ := he
      exact hk _ _ hn
    all_goals exact h.elim

/-- what a take leaves: its promise -/
theorem takeV_prom {m : Mode} {o : Oper} {a : Act} {w : World} {next : Act → World → Prop} (h : takeV P m o a next w) {d : Tmp}
    (hd : o.dst = some d) (hlt : d < a.tmps.size) :
    ∃ v, next (a.put o.dst v) w ∧ slot (a.put o.dst v) d = v ∧ ∀ w', (m.isGet = true → w' = w) → (execOp a.eval o).run P w' = .ok (.value v) w' := by
  have hs : ∀ v, slot (a.put o.dst v) d = v := fun v => by rw [hd, put_some, slot_set, if_pos ⟨rfl, hlt⟩]
  cases m with
  | pure =>
    simp only [takeV] at h
    cases hv : pureRun P (execOp a.eval o) with
    | none => rw [hv] at h; exact h.elim
    | some n =>
      rw [hv] at h
      cases n <;> first | exact h.elim | exact ⟨_, h, hs _, fun w' _ => pureRun_sound _ hv w'⟩
  | val t => obtain ⟨x, hx, hn⟩ := h.out; exact ⟨_, hn, hs _, fun w' _ => hx w'⟩
  | get t => obtain ⟨x, hx, hn⟩ := h.out; exact ⟨_, hn, hs _, fun w' hw' => by rw [hw' rfl]; exact hx⟩

theorem drawOk_fresh {N : Nat} : ∀ (ds : DSteps) (done : List Nat) (pend : List (Nat × Bool)) (al : List Nat), drawOk ops N done pend al ds = true → ∀ k ∈ ds.idx, k ∉ done
  | .nil, _, _, _, _, k, hk => by cases hk
  | .split _ r, done, pend, al, h, k, hk => by
    simp only [drawOk, Bool.and_eq_true] at h
    exact drawOk_fresh r done pend _ h.2 k hk
  | .alt r1 _, done, pend, al, h, k, hk => by
    simp only [drawOk, Bool.and_eq_true] at h
    exact drawOk_fresh r1 done pend _ h.2.1.1.1.1.2 k hk
  | .take i m r, done, pend, al, h, k, hk => by
    simp only [drawOk, Bool.and_eq_true] at h
    rcases List.mem_cons.1 hk with rfl | hk
    · simpa using h.2.1.1.1.2
    · exact fun hd => drawOk_fresh r _ _ _ h.2.2 k hk (List.mem_cons_of_mem _ hd)
  | .now i _ chk r, done, pend, al, h, k, hk => by
    simp only [drawOk, eventOk, Bool.and_eq_true] at h
    rcases List.mem_cons.1 hk with rfl | hk
    · simpa using h.1.1.1.1.2
    · exact fun hd => drawOk_fresh r _ _ _ h.2 k hk (List.mem_cons_of_mem _ hd)
  | .eff i _ chk r, done, pend, al, h, k, hk => by
    simp only [drawOk, eventOk, Bool.and_eq_true] at h
    rcases List.mem_cons.1 hk with rfl | hk
    · simpa using h.1.1.1.1.2
    · exact fun hd => drawOk_fresh r _ _ _ h.2 k hk (List.mem_cons_of_mem _ hd)
  | .effU i chk r, done, pend, al, h, k, hk => by
    simp only [drawOk, eventOk, Bool.and_eq_true] at h
    rcases List.mem_cons.1 hk with rfl | hk
    · simpa using h.1.1.1.1.2
    · exact fun hd => drawOk_fresh r _ _ _ h.2 k hk (List.mem_cons_of_mem _ hd)
  | .call i _ chk r, done, pend, al, h, k, hk => by
    simp only [drawOk, eventOk, Bool.and_eq_true] at h
    rcases List.mem_cons.1 hk with rfl | hk
    · simpa using h.1.1.1.1.2
    · exact fun hd => drawOk_fresh r _ _ _ h.2 k hk (List.mem_cons_of_mem _ hd)

/-- the state of a walk: what is done (by the canonical order), what of it has not come up yet -/
structure St (P : Program) (ops : Array Oper) (N : Nat) (done : List Nat) (pend p : List (Nat × Bool)) (idx : List Nat) (listed : Array Bool) (aa ac : Act) (w : World) : Prop where
  sub : ∀ k ∈ p, k ∈ pend
  nodup : (p.map (·.1)).Nodup
  pdone : ∀ k ∈ pend, k.1 ∈ done
  ord : OrdD ops done
  cover : ∀ i, i < ops.size → i ∈ done ∨ i ∈ idx
  inb : ∀ i ∈ done, i < ops.size
  size : listed.size = ops.size
  mark : ∀ i, i < ops.size → (listed.getD i false = true ↔ i ∈ done ∧ i ∉ p.map (·.1))
  frames : Frames ops p aa ac
  acN : ac.tmps.size = N
  prom : ∀ k ∈ p, Prom P ops k ac w
  pair : ∀ x ∈ pend, ∀ y ∈ pend, x.1 = y.1 ∨ x.1 ∈ preds ops y.1 ∨ blind ops x.1 y.1 = true
  self : ∀ x ∈ pend, blind ops x.1 x.1 = true


theorem preds_some {i : Nat} {o : Oper} (h : ops[i]? = some o) {e : Edge} (he : e ∈ o.after) (hb : Region.binds .any e = true) : e.on ∈ preds ops i := by
  simp only [preds, h, List.mem_map, List.mem_filter]
  exact ⟨e, ⟨by simpa using he, hb⟩, rfl⟩
theorem mem_preds {i k : Nat} {o : Oper} (h : ops[i]? = some o) (hk : k ∈ preds ops i) : ∃ e ∈ o.after, Region.binds .any e = true ∧ e.on = k := by
  simp only [preds, h, List.mem_map, List.mem_filter] at hk
  obtain ⟨e, ⟨h1, h2⟩, h3⟩ := hk
  exact ⟨e, by simpa using h1, h2, h3⟩

theorem ready_preds {i : Nat} {listed : Array Bool} (h : i ∈ Region.ready .any ops listed) :
    (∃ o, ops[i]? = some o) ∧ listed.getD i true = false ∧ ∀ k ∈ preds ops i, listed.getD k false = true := by
  obtain ⟨hun, o, ho, hall⟩ := mem_ready.1 h
  refine ⟨⟨o, ho⟩, hun, fun k hk => ?_⟩
  obtain ⟨e, he, hb, rfl⟩ := mem_preds ho hk
  exact hall e he hb
theorem ready_of {i : Nat} {o : Oper} {listed : Array Bool} (ho : ops[i]? = some o) (hun : listed.getD i true = false) (h : ∀ k ∈ preds ops i, listed.getD k false = true) :
    i ∈ Region.ready .any ops listed :=
  mem_ready.2 ⟨hun, o, ho, fun _ he hb => h _ (preds_some ho he hb)⟩

theorem getD_tf {listed : Array Bool} {i : Nat} (h : i < listed.size) : listed.getD i true = false ↔ ¬ listed.getD i false = true := by
  simp [Array.getD_eq_getD_getElem?, h]
theorem lt_of_some {i : Nat} {o : Oper} (h : ops[i]? = some o) : i < ops.size := by
  rcases Nat.lt_or_ge i ops.size with h' | h'
  · exact h'
  · simp [Array.getElem?_eq_none h'] at h

section
variable {N : Nat} {done : List Nat} {pend p : List (Nat × Bool)} {idx : List Nat} {listed : Array Bool} {aa ac : Act} {w : World}

/-- what comes up is pending, or not done -/
theorem St.ready (h : St P ops N done pend p idx listed aa ac w) {j : Nat} (hj : j ∈ Region.ready .any ops listed) :
    j ∈ p.map (·.1) ∨ (j ∉ done ∧ j ∈ idx) := by
  obtain ⟨⟨o, ho⟩, hun, _⟩ := ready_preds hj
  have hlt := lt_of_some ho
  rw [getD_tf (h.size ▸ hlt), h.mark j hlt] at hun
  by_cases hp : j ∈ p.map (·.1)
  · exact .inl hp
  · have : j ∉ done := fun hd => hun ⟨hd, hp⟩
    exact .inr ⟨this, (h.cover j hlt).resolve_left this⟩

/-- of what is pending something comes up -/
theorem St.some_ready (h : St P ops N done pend p idx listed aa ac w) (hne : p ≠ []) : Region.ready .any ops listed ≠ [] := by
  obtain ⟨k, hk, hpre⟩ := OrdD.first done (p.map (·.1)) h.ord (fun k hk => by
    obtain ⟨x, hx, rfl⟩ := List.mem_map.1 hk
    exact h.pdone x (h.sub x hx)) (by simpa using hne)
  obtain ⟨x, hx, rfl⟩ := List.mem_map.1 hk
  obtain ⟨o, d, ho, _⟩ := h.prom x hx
  have hlt := lt_of_some ho
  have : x.1 ∈ Region.ready .any ops listed := by
    refine ready_of ho ?_ fun j hj => ?_
    · rw [getD_tf (h.size ▸ hlt), h.mark _ hlt]
      exact fun hh => hh.2 hk
    · obtain ⟨h1, h2⟩ := hpre j hj
      exact (h.mark j (h.inb j h1)).2 ⟨h1, h2⟩
  intro he
  rw [he] at this
  cases this

/-- pending operations look the same in both frames, once they come up -/
theorem St.same (hsel : Region.noSelect ops = true) (h : St P ops N done pend p idx listed aa ac w) {j : Nat} {o : Oper} (ho : ops[j]? = some o)
    (hb : ∀ k ∈ p, k.1 = j ∨ blind ops k.1 j = true) (hself : (∃ k ∈ p, k.1 = j) → blind ops j j = true) :
    execOp aa.eval o = execOp ac.eval o ∧ Region.wanted o (yielded ops aa.tmps) = Region.wanted o (yielded ops ac.tmps) := by
  refine look_congr (noSel hsel ho) h.frames.2.1 fun x hx => h.frames.2.2 x fun k hk he => ?_
  rcases hb k hk with hkj | hkj
  · have := blind_spec (hself ⟨k, hk, hkj⟩) (hkj ▸ he) ho
    exact this hx
  · exact blind_spec hkj he ho hx

/-- one pending operation comes up -/
theorem St.pop (h : St P ops N done pend p idx listed aa ac w) {k : Nat × Bool} (hk : k ∈ p) {o : Oper} {d : Tmp} (ho : ops[k.1]? = some o) (hd : o.dst = some d) :
    St P ops N done pend (p.filter fun x => x.1 != k.1) idx (listed.setIfInBounds k.1 true) (aa.put o.dst (slot ac d)) ac w where
  sub := fun x hx => h.sub x (List.mem_filter.1 hx).1
  nodup := by
    exact (List.filter_sublist.map _).nodup h.nodup
  pdone := h.pdone
  ord := h.ord
  cover := h.cover
  inb := h.inb
  size := by rw [Array.size_setIfInBounds]; exact h.size
  mark := fun i hi => by
    have hm := h.mark i hi
    have hkd := h.pdone k (h.sub k hk)
    have hlt := h.inb _ hkd
    by_cases he : k.1 = i
    · subst he
      have h1 : (listed.setIfInBounds k.1 true).getD k.1 false = true := by
        simp [Array.getD_eq_getD_getElem?, h.size, hlt]
      refine ⟨fun _ => ⟨hkd, ?_⟩, fun _ => h1⟩
      intro hmem
      obtain ⟨x, hx, hxe⟩ := List.mem_map.1 hmem
      have := (List.mem_filter.1 hx).2
      simp [hxe] at this
    · rw [getD_set_ne false he, hm]
      refine and_congr_right fun _ => not_congr ⟨fun hmem => ?_, fun hmem => ?_⟩
      · obtain ⟨x, hx, hxe⟩ := List.mem_map.1 hmem
        exact List.mem_map.2 ⟨x, List.mem_filter.2 ⟨hx, by simp [hxe, Ne.symm he]⟩, hxe⟩
      · obtain ⟨x, hx, hxe⟩ := List.mem_map.1 hmem
        exact List.mem_map.2 ⟨x, (List.mem_filter.1 hx).1, hxe⟩
  frames := by
    refine ⟨by rw [hd]; exact h.frames.1, by rw [size_put]; exact h.frames.2.1, fun x hx => ?_⟩
    rw [hd, put_some, slot_set]
    by_cases hdx : d = x
    · subst hdx
      by_cases hlt : d < aa.tmps.size
      · rw [if_pos ⟨rfl, hlt⟩]
      · rw [if_neg (fun h' => hlt h'.2)]
        have hlt' : ¬ d < ac.tmps.size := by rw [← h.frames.2.1]; exact hlt
        simp [slot, Array.getD_eq_getD_getElem?, hlt, hlt']
    · rw [if_neg (fun h' => hdx h'.1)]
      refine h.frames.2.2 x fun y hy he => ?_
      by_cases hyk : y.1 = k.1
      · rw [hyk] at he
        simp [dstIs, ho, hd] at he
        exact hdx he
      · exact hx y (List.mem_filter.2 ⟨hy, by simpa using hyk⟩) he
  acN := h.acN
  prom := fun x hx => h.prom x (List.mem_filter.1 hx).1
  pair := h.pair
  self := h.self

theorem length_pop : ∀ (p : List (Nat × Bool)) (k : Nat × Bool), (p.map (·.1)).Nodup → k ∈ p → (p.filter fun x => x.1 != k.1).length + 1 = p.length
  | [], k, _, hk => by cases hk
  | y :: p, k, hn, hk => by
    simp only [List.map_cons, List.nodup_cons] at hn
    rcases List.mem_cons.1 hk with rfl | hk
    · have : p.filter (fun x => x.1 != k.1) = p := by
        refine List.filter_eq_self.2 fun x hx => ?_
        have : x.1 ≠ k.1 := fun he => hn.1 (List.mem_map.2 ⟨x, hx, he⟩)
        simpa using this
      simp [this]
    · have hne : y.1 ≠ k.1 := fun he => hn.1 (List.mem_map.2 ⟨k, hk, he.symm⟩)
      have := length_pop p k hn.2 hk
      rw [List.filter_cons, if_pos (by simpa using hne)]
      simp only [List.length_cons]
      omega

/-- the pending one that comes up runs as promised -/
theorem St.run_pop (hsel : Region.noSelect ops = true) (h : St P ops N done pend p idx listed aa ac w) {j : Nat} (hj : j ∈ Region.ready .any ops listed)
    (hp : j ∈ p.map (·.1)) {K : Act → World → Prop}
    (hK : ∀ (k : Nat × Bool) (o : Oper) (d : Tmp), k ∈ p → k.1 = j → ops[k.1]? = some o → o.dst = some d → K (aa.put o.dst (slot ac d)) w) : wpOpIn (Fr ro) 0 P ops Q j K aa w := by
  obtain ⟨k, hk, rfl⟩ := List.mem_map.1 hp
  obtain ⟨o, d, ho, hd, hlt, hcase⟩ := h.prom k hk
  obtain ⟨_, hun, hpre⟩ := ready_preds hj
  have hnot : ∀ x ∈ p, x.1 ∉ preds ops k.1 := fun x hx hxp => by
    have h1 := hpre _ hxp
    have h2 := h.inb _ (h.pdone x (h.sub x hx))
    exact ((h.mark _ h2).1 h1).2 (List.mem_map.2 ⟨x, hx, rfl⟩)
  obtain ⟨he, hw⟩ := h.same hsel ho (fun x hx => by
    rcases h.pair x (h.sub x hx) k (h.sub k hk) with h1 | h1 | h1
    · exact .inl h1
    · exact absurd h1 (hnot x hx)
    · exact .inr h1) (fun _ => h.self k (h.sub k hk))
  have hK' := hK k o d hk rfl ho hd
  unfold wpOpIn
  simp only [ho]
  rcases hcase with ⟨h1, h2⟩ | ⟨h1, h2⟩
  · rw [hw, h1]
    simp only [if_true]
    exact wp_value (by rw [he]; exact h2 w (fun _ => rfl)) hK'
  · rw [hw, h1]
    simp only [Bool.false_eq_true, if_false]
    rw [← h2]; exact ⟨fun _ _ => trivial, hK'⟩

/-- behind an act -/
theorem St.event (hsel : Region.noSelect ops = true) {i : Nat} {chk al rest : List Nat} (h : St P ops N done pend p (i :: rest) listed aa ac w) (hok : eventOk ops i chk done pend al rest = true)
    (hi : i ∈ Region.ready .any ops listed) {o : Oper} (ho : ops[i]? = some o) (v : Value) {w' : World}
    (hchk : w' = w ∨ ∀ j ∈ chk, ∀ o', ops[j]? = some o' → Region.wanted o' (yielded ops (ac.put o.dst v).tmps) = true →
      (execOp (ac.put o.dst v).eval o').run P w' = .ok (.value (match o'.dst with | some d => slot (ac.put o.dst v) d | none => undef)) w') :
    St P ops N (i :: done) (pend.filter fun k => !(preds ops i).contains k.1) p rest (listed.setIfInBounds i true) (aa.put o.dst v) (ac.put o.dst v) w' := by
  simp only [eventOk, Bool.and_eq_true] at hok
  obtain ⟨⟨⟨⟨_, hfresh⟩, hpd⟩, hq⟩, hrest⟩ := hok
  have hfresh : i ∉ done := by simpa using hfresh
  obtain ⟨_, hun, hpre⟩ := ready_preds hi
  have hnot : ∀ x ∈ p, x.1 ∉ preds ops i := fun x hx hxp => by
    have h1 := hpre _ hxp
    have h2 := h.inb _ (h.pdone x (h.sub x hx))
    exact ((h.mark _ h2).1 h1).2 (List.mem_map.2 ⟨x, hx, rfl⟩)
  have hsub : ∀ k ∈ p, k ∈ pend.filter fun k => !(preds ops i).contains k.1 := fun k hk =>
    List.mem_filter.2 ⟨h.sub k hk, by simpa using hnot k hk⟩
  have hprop : ∀ k ∈ p, (k.2 = true → k.1 ∈ chk) ∧ blind ops i k.1 = true ∧ blind ops k.1 i = true ∧ unlike ops k.1 i = true := fun k hk => by
    have := List.all_eq_true.1 hq k (hsub k hk)
    simp only [Bool.and_eq_true, Bool.or_eq_true] at this
    refine ⟨fun hg => ?_, this.1.1.2, this.1.2, this.2⟩
    rcases this.1.1.1 with h1 | h1
    · rw [hg] at h1; simp at h1
    · simpa using h1
  have hlt := lt_of_some ho
  exact {
    sub := hsub
    nodup := h.nodup
    pdone := fun k hk => List.mem_cons_of_mem _ (h.pdone k (List.mem_filter.1 hk).1)
    ord := ⟨fun k hk => by simpa using List.all_eq_true.1 hpd k hk, h.ord⟩
    cover := fun j hj => by
      rcases h.cover j hj with h1 | h1
      · exact .inl (List.mem_cons_of_mem _ h1)
      · rcases List.mem_cons.1 h1 with rfl | h1
        · exact .inl (by simp)
        · exact .inr h1
    inb := fun j hj => by
      rcases List.mem_cons.1 hj with rfl | hj
      · exact hlt
      · exact h.inb j hj
    size := by rw [Array.size_setIfInBounds]; exact h.size
    mark := fun j hj => by
      by_cases he : i = j
      · subst he
        have h1 : (listed.setIfInBounds i true).getD i false = true := by simp [Array.getD_eq_getD_getElem?, h.size, hlt]
        refine ⟨fun _ => ⟨by simp, fun hm => ?_⟩, fun _ => h1⟩
        obtain ⟨x, hx, hxe⟩ := List.mem_map.1 hm
        exact hfresh (hxe ▸ h.pdone x (h.sub x hx))
      · rw [getD_set_ne false he, h.mark j hj]
        refine and_congr_left fun _ => ⟨fun h1 => List.mem_cons_of_mem _ h1, fun h1 => ?_⟩
        rcases List.mem_cons.1 h1 with h1 | h1
        · exact absurd h1.symm he
        · exact h1
    frames := by
      refine ⟨?_, by rw [size_put, size_put]; exact h.frames.2.1, fun x hx => ?_⟩
      · cases o.dst <;> exact h.frames.1
      · cases hd : o.dst with
        | none => exact h.frames.2.2 x hx
        | some d =>
          rw [put_some, put_some, slot_set, slot_set, h.frames.2.1]
          split
          · rfl
          · exact h.frames.2.2 x hx
    acN := by rw [size_put]; exact h.acN
    prom := fun k hk => by
      obtain ⟨h1, h2, h3, h4⟩ := hprop k hk
      refine (h.prom k hk).put hsel ho h2 h4 fun hg => ?_
      rcases hchk with hw | hc
      · exact .inl hw
      · exact .inr (hc k.1 (h1 hg))
    pair := fun x hx y hy => h.pair x (List.mem_filter.1 hx).1 y (List.mem_filter.1 hy).1
    self := fun x hx => h.self x (List.mem_filter.1 hx).1 }

/-- an act looks the same in both frames, when it comes up -/
theorem St.event_same (hsel : Region.noSelect ops = true) {i : Nat} {chk al rest : List Nat} (h : St P ops N done pend p (i :: rest) listed aa ac w) (hok : eventOk ops i chk done pend al rest = true)
    (hi : i ∈ Region.ready .any ops listed) {o : Oper} (ho : ops[i]? = some o) :
    execOp aa.eval o = execOp ac.eval o ∧ Region.wanted o (yielded ops aa.tmps) = Region.wanted o (yielded ops ac.tmps) := by
  simp only [eventOk, Bool.and_eq_true] at hok
  obtain ⟨⟨⟨⟨_, hfresh⟩, hpd⟩, hq⟩, hrest⟩ := hok
  have hfresh : i ∉ done := by simpa using hfresh
  obtain ⟨_, hun, hpre⟩ := ready_preds hi
  have hnot : ∀ x ∈ p, x.1 ∉ preds ops i := fun x hx hxp => by
    have h1 := hpre _ hxp
    have h2 := h.inb _ (h.pdone x (h.sub x hx))
    exact ((h.mark _ h2).1 h1).2 (List.mem_map.2 ⟨x, hx, rfl⟩)
  refine h.same hsel ho (fun k hk => .inr ?_) fun ⟨k, hk, hki⟩ => absurd (hki ▸ h.pdone k (h.sub k hk)) hfresh
  have := List.all_eq_true.1 hq k (List.mem_filter.2 ⟨h.sub k hk, by simpa using hnot k hk⟩)
  simp only [Bool.and_eq_true] at this
  exact this.1.2

/-- ahead of an act nothing else comes up -/
theorem St.only (h : St P ops N done pend p idx listed aa ac w) {i : Nat} {chk al rest : List Nat} (hidx : idx = i :: rest) (hok : eventOk ops i chk done pend al rest = true)
    (hfr : ∀ k ∈ i :: rest, k ∉ done) {j : Nat} (hj : j ∈ Region.ready .any ops listed) (hp : j ∉ p.map (·.1)) : j = i ∨ j ∈ al := by
  rcases h.ready hj with h1 | ⟨h1, h2⟩
  · exact absurd h1 hp
  · rw [hidx] at h2
    rcases List.mem_cons.1 h2 with h2 | h2
    · exact .inl h2
    · simp only [eventOk, Bool.and_eq_true] at hok
      have := List.all_eq_true.1 hok.2 j h2
      rw [Bool.or_eq_true] at this
      rcases this with this | this
      · exact .inr (by simpa using this)
      obtain ⟨k, hk, hk'⟩ := List.any_eq_true.1 this
      have hk' : k ∈ i :: rest := by simpa using hk'
      obtain ⟨⟨o, ho⟩, _, hpre⟩ := ready_preds hj
      have h3 := hpre k hk
      have hlt : k < ops.size := by
        rcases Nat.lt_or_ge k listed.size with h' | h'
        · rw [← h.size]; exact h'
        · rw [Array.getD_eq_getD_getElem?, Array.getElem?_eq_none h'] at h3; cases h3
      exact absurd ((h.mark k hlt).1 h3).1 (hfr k hk')

theorem St.event_ready {i : Nat} {chk al rest : List Nat} (h : St P ops N done pend p idx listed aa ac w) (hok : eventOk ops i chk done pend al rest = true) :
    Region.ready .any ops listed ≠ [] := by
  by_cases hp : p = []
  · simp only [eventOk, Bool.and_eq_true] at hok
    obtain ⟨⟨⟨⟨hs, hfresh⟩, hpd⟩, _⟩, _⟩ := hok
    have hfresh : i ∉ done := by simpa using hfresh
    obtain ⟨o, ho⟩ := Option.isSome_iff_exists.1 hs
    have hlt := lt_of_some ho
    have : i ∈ Region.ready .any ops listed := by
      refine ready_of ho ?_ fun k hk => ?_
      · rw [getD_tf (h.size ▸ hlt), h.mark _ hlt]
        exact fun hh => hfresh hh.1
      · have hkd : k ∈ done := by simpa using List.all_eq_true.1 hpd k hk
        exact (h.mark k (h.inb k hkd)).2 ⟨hkd, by rw [hp]; simp⟩
    intro he
    rw [he] at this
    cases this
  · exact h.some_ready hp

end

section
variable {N : Nat}

/-- taking one early -/
theorem St.take (hsel : Region.noSelect ops = true) {done : List Nat} {pend p : List (Nat × Bool)} {listed : Array Bool} {aa ac : Act} {w : World} {i : Nat} {m : Mode} {rest : List Nat}
    (h : St P ops N done pend p (i :: rest) listed aa ac w) {d : Tmp} (hlt : d < N) (hself : blind ops i i = true) (hfresh : i ∉ done) (hpd : ∀ k ∈ preds ops i, k ∈ done)
    (hp : ∀ k ∈ pend, blind ops i k.1 = true ∧ unlike ops k.1 i = true ∧ (k.1 ∈ preds ops i ∨ blind ops k.1 i = true))
    {o : Oper} (ho : ops[i]? = some o) (hd : o.dst = some d) (v : Value)
    (hrun : (Region.wanted o (yielded ops ac.tmps) = true ∧ ∀ w', (m.isGet = true → w' = w) → (execOp ac.eval o).run P w' = .ok (.value v) w') ∨
      (Region.wanted o (yielded ops ac.tmps) = false ∧ v = undef)) :
    St P ops N (i :: done) ((i, m.isGet) :: pend) ((i, m.isGet) :: p) rest listed aa (ac.put o.dst v) w where
  sub := fun k hk => by
    rcases List.mem_cons.1 hk with rfl | hk
    · simp
    · exact List.mem_cons_of_mem _ (h.sub k hk)
  nodup := by
    simp only [List.map_cons, List.nodup_cons]
    refine ⟨fun hm => ?_, h.nodup⟩
    obtain ⟨x, hx, hxe⟩ := List.mem_map.1 hm
    exact hfresh (hxe ▸ h.pdone x (h.sub x hx))
  pdone := fun k hk => by
    rcases List.mem_cons.1 hk with rfl | hk
    · simp
    · exact List.mem_cons_of_mem _ (h.pdone k hk)
  ord := ⟨hpd, h.ord⟩
  cover := fun j hj => by
    rcases h.cover j hj with h1 | h1
    · exact .inl (List.mem_cons_of_mem _ h1)
    · rcases List.mem_cons.1 h1 with rfl | h1
      · exact .inl (by simp)
      · exact .inr h1
  inb := fun j hj => by
    rcases List.mem_cons.1 hj with rfl | hj
    · exact lt_of_some ho
    · exact h.inb j hj
  size := h.size
  mark := fun j hj => by
    rw [h.mark j hj]
    simp only [List.map_cons, List.mem_cons, not_or]
    constructor
    · rintro ⟨h1, h2⟩
      exact ⟨.inr h1, fun he => hfresh (he ▸ h1), h2⟩
    · rintro ⟨h1 | h1, h2, h3⟩
      · exact absurd h1 h2
      · exact ⟨h1, h3⟩
  frames := by
    refine ⟨by rw [hd]; exact h.frames.1, by rw [size_put]; exact h.frames.2.1, fun x hx => ?_⟩
    have hxd : d ≠ x := fun he => hx (i, m.isGet) (by simp) (by simp [dstIs, ho, hd, he])
    rw [hd, put_some, slot_set, if_neg (fun h' => hxd h'.1)]
    exact h.frames.2.2 x fun k hk => hx k (List.mem_cons_of_mem _ hk)
  acN := by rw [size_put]; exact h.acN
  prom := fun k hk => by
    rcases List.mem_cons.1 hk with rfl | hk
    · obtain ⟨h1, h2⟩ := put_look hsel ho ho hself ac v
      have hs : slot (ac.put o.dst v) d = v := by rw [hd, put_some, slot_set, if_pos ⟨rfl, by rw [h.acN]; exact hlt⟩]
      refine ⟨o, d, ho, hd, by rw [size_put, h.acN]; exact hlt, ?_⟩
      rcases hrun with ⟨h3, h4⟩ | ⟨h3, h4⟩
      · exact .inl ⟨by rw [h2]; exact h3, fun w' hw' => by rw [h1, hs]; exact h4 w' hw'⟩
      · exact .inr ⟨by rw [h2]; exact h3, by rw [hs]; exact h4⟩
    · obtain ⟨h1, h2, _⟩ := hp k (h.sub k hk)
      exact (h.prom k hk).put hsel ho h1 h2 fun _ => .inl rfl
  pair := fun x hx y hy => by
    rcases List.mem_cons.1 hx with rfl | hx <;> rcases List.mem_cons.1 hy with rfl | hy
    · exact .inl rfl
    · exact .inr (.inr (hp y hy).1)
    · exact .inr ((hp x hx).2.2)
    · exact h.pair x hx y hy
  self := fun x hx => by
    rcases List.mem_cons.1 hx with rfl | hx
    · exact hself
    · exact h.self x hx

/-- what an act with checks leaves, or one that is passed over -/
def After (P : Program) (ops : Array Oper) (chk : List Nat) (V : Act → Pr) (o : Oper) (ac : Act) (w : World) (v : Value) (w' : World) : Prop :=
  checksV P ops (ac.put o.dst v) (V (ac.put o.dst v)) chk w' ∨ (w' = w ∧ V (ac.put o.dst v) w')

theorem After.fact {chk : List Nat} {V : Act → Pr} {o : Oper} {ac : Act} {w w' : World} {v : Value} (h : After P ops chk V o ac w v w') :
    V (ac.put o.dst v) w' ∧ (w' = w ∨ ∀ j ∈ chk, ∀ o', ops[j]? = some o' → Region.wanted o' (yielded ops (ac.put o.dst v).tmps) = true →
      (execOp (ac.put o.dst v).eval o').run P w' = .ok (.value (match o'.dst with | some d => slot (ac.put o.dst v) d | none => undef)) w') := by
  rcases h with h | ⟨h1, h2⟩
  · obtain ⟨h1, h2⟩ := checks_out chk h
    exact ⟨h1, .inr h2⟩
  · exact ⟨h2, .inl h1⟩

/-- **every order** -/
def isAct : DSteps → Bool
  | .now .. | .eff .. | .effU .. | .call .. => true
  | _ => false

theorem St.perm {done : List Nat} {pend p : List (Nat × Bool)} {idx idx' : List Nat} {listed : Array Bool} {aa ac : Act} {w : World} (h : St P ops N done pend p idx listed aa ac w) (hi : ∀ k ∈ idx, k ∈ idx') :
    St P ops N done pend p idx' listed aa ac w := { h with cover := fun i hl => (h.cover i hl).imp id (hi i) }

/-- what an act leads to, when it comes up -/
theorem act_step (hsel : Region.noSelect ops = true) (a0 : Act) (next : Act → Pr) {n : Nat}
    (agr : ∀ {i : Nat} {o : Oper} {ac : Act} (v : Value), ops[i]? = some o → Agree (dsts ops (List.range ops.size)) a0 ac → Agree (dsts ops (List.range ops.size)) a0 (ac.put o.dst v))
    (ihn : ∀ (ds : DSteps) (done : List Nat) (pend p : List (Nat × Bool)) (listed : Array Bool) (aa ac : Act) (w : World),
      drawOk ops N done pend [] ds = true → St P ops N done pend p ds.idx listed aa ac w → vcDraw P ops ds next ac w →
      Agree (dsts ops (List.range ops.size)) a0 ac → n = p.length + ds.idx.length → wpAnyIn (Fr ro) 0 P .any ops Q n listed aa w)
    (ds : DSteps) (hact : isAct ds = true) (al done : List Nat) (pend p : List (Nat × Bool)) (listed : Array Bool) (aa ac : Act) (w : World)
    (hok : drawOk ops N done pend al ds = true) (h : St P ops N done pend p ds.idx listed aa ac w) (hV : vcDraw P ops ds next ac w)
    (hag : Agree (dsts ops (List.range ops.size)) a0 ac) (hn : n + 1 = p.length + ds.idx.length) :
    ∃ i chk rest, ds.idx = i :: rest ∧ eventOk ops i chk done pend al rest = true ∧
      (i ∈ Region.ready .any ops listed → wpOpIn (Fr ro) 0 P ops Q i (wpAnyIn (Fr ro) 0 P .any ops Q n (listed.setIfInBounds i true)) aa w) := by
  have core : ∀ (i : Nat) (chk : List Nat) (r : DSteps), ds.idx = i :: r.idx → eventOk ops i chk done pend al r.idx = true → drawOk ops N (i :: done) (pend.filter fun k => !(preds ops i).contains k.1) [] r = true →
      (∀ K : Act → World → Prop, (∀ o, ops[i]? = some o → execOp aa.eval o = execOp ac.eval o ∧ Region.wanted o (yielded ops aa.tmps) = Region.wanted o (yielded ops ac.tmps)) →
          (∀ o v w', ops[i]? = some o → After P ops chk (vcDraw P ops r next) o ac w v w' → K (aa.put o.dst v) w') → wpOpIn (Fr ro) 0 P ops Q i K aa w) →
      ∃ i chk rest, ds.idx = i :: rest ∧ eventOk ops i chk done pend al rest = true ∧
      (i ∈ Region.ready .any ops listed → wpOpIn (Fr ro) 0 P ops Q i (wpAnyIn (Fr ro) 0 P .any ops Q n (listed.setIfInBounds i true)) aa w) := by
    intro i chk r hidx hev hokr hrun
    refine ⟨i, chk, r.idx, hidx, hev, fun hj => ?_⟩
    rw [hidx] at h
    refine hrun _ (fun o ho => h.event_same hsel hev hj ho) fun o v w' ho hafter => ?_
    obtain ⟨h1, h2⟩ := hafter.fact
    refine ihn r _ _ p _ _ _ w' hokr (h.event hsel hev hj ho v h2) h1 (agr v ho hag) ?_
    rw [hidx] at hn
    simp only [List.length_cons] at hn
    omega
  cases ds with
  | now i m chk r =>
    have hok' := hok
    simp only [drawOk, Bool.and_eq_true] at hok'
    refine core i chk r rfl hok'.1 hok'.2 fun K hs hK => ?_
    exact ifWanted_wp' hV (fun o ho => (hs o ho).2) (fun o ho hr => takeV_wp' (hs o ho).1 hr fun v hv => hK o v _ ho (.inl hv)) fun o ho hv => hK o _ _ ho (.inr ⟨rfl, hv⟩)
  | eff i t chk r =>
    have hok' := hok
    simp only [drawOk, Bool.and_eq_true] at hok'
    refine core i chk r rfl hok'.1 hok'.2 fun K hs hK => ?_
    refine ifWanted_wp' hV (fun o ho => (hs o ho).2) (fun o ho hr => ?_) fun o ho hv => hK o _ _ ho (.inr ⟨rfl, hv⟩)
    obtain ⟨x, w', hx, hv⟩ := hr.out
    exact wp_value (by rw [(hs o ho).1]; exact hx) (hK o _ _ ho (.inl hv))
  | effU i chk r =>
    have hok' := hok
    simp only [drawOk, Bool.and_eq_true] at hok'
    refine core i chk r rfl hok'.1 hok'.2 fun K hs hK => ?_
    refine ifWanted_wp' hV (fun o ho => (hs o ho).2) (fun o ho hr => ?_) fun o ho hv => hK o _ _ ho (.inr ⟨rfl, hv⟩)
    obtain ⟨w', hx, hv⟩ := hr.out
    exact wp_skipped (by rw [(hs o ho).1]; exact hx) (hK o _ _ ho (.inl hv))
  | call i t chk r =>
    have hok' := hok
    simp only [drawOk, Bool.and_eq_true] at hok'
    refine core i chk r rfl hok'.1 hok'.2 fun K hs hK => ?_
    exact ifWanted_wp' hV (fun o ho => (hs o ho).2) (fun o ho hr => callV_wp' (hs o ho).1 hr fun v w' hv => hK o v _ ho (.inl hv)) fun o ho hv => hK o _ _ ho (.inr ⟨rfl, hv⟩)
  | _ => cases hact

theorem draw_any (hsel : Region.noSelect ops = true) (a0 : Act) (next : Act → Pr)
    (hQ : ∀ a' w', next a' w' → Agree (dsts ops (List.range ops.size)) a0 a' → Q .normal a' w') :
    ∀ (n : Nat) (ds : DSteps) (done : List Nat) (pend p : List (Nat × Bool)) (listed : Array Bool) (aa ac : Act) (w : World),
      drawOk ops N done pend [] ds = true → St P ops N done pend p ds.idx listed aa ac w → vcDraw P ops ds next ac w →
      Agree (dsts ops (List.range ops.size)) a0 ac → n = p.length + ds.idx.length → wpAnyIn (Fr ro) 0 P .any ops Q n listed aa w := by
  have agr : ∀ {i : Nat} {o : Oper} {ac : Act} (v : Value), ops[i]? = some o → Agree (dsts ops (List.range ops.size)) a0 ac → Agree (dsts ops (List.range ops.size)) a0 (ac.put o.dst v) := by
    intro i o ac v ho h
    refine h.trans (Agree.put ac o.dst v) (fun _ h => h) fun x hx => ?_
    simp only [dsts, List.mem_flatMap, List.mem_range]
    exact ⟨i, lt_of_some ho, by rw [dstOf_some ho]; exact hx⟩
  intro n
  induction n with
  | zero =>
    intro ds
    induction ds with
    | nil =>
      intro done pend p listed aa ac w hok h hV hag hn
      have hp : p = [] := List.length_eq_zero_iff.1 (by simp only [DSteps.idx, List.length_nil] at hn; omega)
      subst hp
      refine ⟨?_, ?_⟩
      · rw [List.eq_nil_iff_forall_not_mem]
        intro j hj
        rcases h.ready hj with h1 | ⟨_, h1⟩
        · cases h1
        · cases h1
      · have : aa = ac := Act.ext_slot h.frames.1 h.frames.2.1 fun x _ => h.frames.2.2 x (fun k hk => by cases hk)
        subst this
        exact hQ _ _ hV hag
    | split g r ih =>
      intro done pend p listed aa ac w hok h hV hag hn
      simp only [vcDraw] at hV
      cases hc : slot ac g
      case bool c =>
        rw [hc] at hV
        refine ih done pend p listed aa ac w (by simp only [drawOk, Bool.and_eq_true] at hok; exact hok.2) h ?_ hag hn
        cases c with
        | true => have := hV.out.1 rfl; rwa [set_slot hc] at this
        | false => have := hV.out.2 rfl; rwa [set_slot hc] at this
      all_goals (rw [hc] at hV; exact ih done pend p listed aa ac w (by simp only [drawOk, Bool.and_eq_true] at hok; exact hok.2) h hV hag hn)
    | alt r1 r2 _ _ =>
      intro done pend p listed aa ac w hok h hV hag hn
      simp only [drawOk, Bool.and_eq_true, decide_eq_true_eq] at hok
      have := List.length_pos_iff.2 hok.2.1.1.1.1.1.1
      simp only [DSteps.idx] at hn
      omega
    | _ =>
      intro done pend p listed aa ac w hok h hV hag hn
      simp only [DSteps.idx, List.length_cons] at hn
      omega
  | succ n ihn =>
    intro ds
    -- an act comes up, or a pending one
    have top : ∀ (ds : DSteps) (done : List Nat) (pend p : List (Nat × Bool)) (listed : Array Bool) (aa ac : Act) (w : World),
        drawOk ops N done pend [] ds = true → St P ops N done pend p ds.idx listed aa ac w → vcDraw P ops ds next ac w →
        Agree (dsts ops (List.range ops.size)) a0 ac → n + 1 = p.length + ds.idx.length → Region.ready .any ops listed ≠ [] →
        (∀ j ∈ Region.ready .any ops listed, j ∉ p.map (·.1) → wpOpIn (Fr ro) 0 P ops Q j (wpAnyIn (Fr ro) 0 P .any ops Q n (listed.setIfInBounds j true)) aa w) →
        wpAnyIn (Fr ro) 0 P .any ops Q (n + 1) listed aa w := by
      intro ds done pend p listed aa ac w hds h hV hag hn hr hj'
      refine ⟨fun he => absurd he hr, fun j hj => ?_⟩
      by_cases hp : j ∈ p.map (·.1)
      · refine h.run_pop hsel hj hp fun k o d hk hkj ho hd => ?_
        subst hkj
        refine ihn ds done pend _ _ _ ac w hds (h.pop hk ho hd) hV hag ?_
        have := length_pop p k h.nodup hk
        omega
      · exact hj' j hj hp
    have act : ∀ (ds : DSteps), isAct ds = true → ∀ (done : List Nat) (pend p : List (Nat × Bool)) (listed : Array Bool) (aa ac : Act) (w : World),
        drawOk ops N done pend [] ds = true → St P ops N done pend p ds.idx listed aa ac w → vcDraw P ops ds next ac w →
        Agree (dsts ops (List.range ops.size)) a0 ac → n + 1 = p.length + ds.idx.length → wpAnyIn (Fr ro) 0 P .any ops Q (n + 1) listed aa w := by
      intro ds hact done pend p listed aa ac w hok h hV hag hn
      obtain ⟨i, chk, rest, hidx, hev, hrun⟩ := act_step hsel a0 next (fun v => agr v) ihn ds hact [] done pend p listed aa ac w hok h hV hag hn
      refine top ds done pend p listed aa ac w hok h hV hag hn (h.event_ready hev) fun j hj hp => ?_
      rcases h.only hidx hev (fun k hk => drawOk_fresh ds done pend _ hok k (hidx ▸ hk)) hj hp with rfl | hx
      · exact hrun hj
      · cases hx
    induction ds with
    | alt r1 r2 _ _ =>
      intro done pend p listed aa ac w hok h hV hag hn
      have hok0 := hok
      simp only [drawOk, Bool.and_eq_true, decide_eq_true_eq] at hok
      obtain ⟨_, ⟨⟨⟨⟨⟨hne1, hne2⟩, h1⟩, h2⟩, h12⟩, h21⟩, hlen⟩ := hok
      have hlen := eq_of_beq hlen
      have isA : ∀ (r : DSteps) (al : List Nat), al ≠ [] → drawOk ops N done pend al r = true → isAct r = true := by
        intro r al hal hr
        cases al with
        | nil => exact absurd rfl hal
        | cons x al => cases r <;> first | rfl | (simp [drawOk] at hr)
      have ht1 : r1.idx.take 1 ≠ [] := by cases hx : r1.idx with | nil => exact absurd hx hne1 | cons x l => simp
      have ht2 : r2.idx.take 1 ≠ [] := by cases hx : r2.idx with | nil => exact absurd hx hne2 | cons x l => simp
      have S1 : St P ops N done pend p r1.idx listed aa ac w := h
      have S2 : St P ops N done pend p r2.idx listed aa ac w := S1.perm fun k hk => by simpa using List.all_eq_true.1 h12 k hk
      have hn1 : n + 1 = p.length + r1.idx.length := hn
      obtain ⟨i, chk, rest, hidx, hev, hrun⟩ := act_step hsel a0 next (fun v => agr v) ihn r1 (isA _ _ ht2 h1) _ done pend p listed aa ac w h1 S1 hV.out.1 hag hn1
      obtain ⟨i2, chk2, rest2, hidx2, hev2, hrun2⟩ := act_step hsel a0 next (fun v => agr v) ihn r2 (isA _ _ ht1 h2) _ done pend p listed aa ac w h2 S2 hV.out.2 hag (by omega)
      refine top (.alt r1 r2) done pend p listed aa ac w hok0 h hV hag hn (S1.event_ready hev) fun j hj hp => ?_
      rcases S1.only hidx hev (fun k hk => drawOk_fresh r1 done pend _ h1 k (hidx ▸ hk)) hj hp with rfl | hx
      · exact hrun hj
      · rw [hidx2] at hx
        simp at hx
        subst hx
        exact hrun2 hj
    | nil =>
      intro done pend p listed aa ac w hok h hV hag hn
      have hp : p ≠ [] := fun he => by simp [he, DSteps.idx] at hn
      refine ⟨fun he => absurd he (h.some_ready hp), fun j hj => ?_⟩
      rcases h.ready hj with h1 | ⟨_, h1⟩
      · refine h.run_pop hsel hj h1 fun k o d hk hkj ho hd => ?_
        subst hkj
        refine ihn .nil done pend _ _ _ ac w hok (h.pop hk ho hd) hV hag ?_
        have := length_pop p k h.nodup hk
        omega
      · cases h1
    | split g r ih =>
      intro done pend p listed aa ac w hok h hV hag hn
      simp only [vcDraw] at hV
      cases hc : slot ac g
      case bool c =>
        rw [hc] at hV
        refine ih done pend p listed aa ac w (by simp only [drawOk, Bool.and_eq_true] at hok; exact hok.2) h ?_ hag hn
        cases c with
        | true => have := hV.out.1 rfl; rwa [set_slot hc] at this
        | false => have := hV.out.2 rfl; rwa [set_slot hc] at this
      all_goals (rw [hc] at hV; exact ih done pend p listed aa ac w (by simp only [drawOk, Bool.and_eq_true] at hok; exact hok.2) h hV hag hn)
    | take i m r ih =>
      intro done pend p listed aa ac w hok h hV hag hn
      simp only [drawOk, Bool.and_eq_true] at hok
      obtain ⟨_, ⟨⟨⟨hd0, hfresh⟩, hpd⟩, hpp⟩, hr⟩ := hok
      have hfresh : i ∉ done := by simpa using hfresh
      have hpd : ∀ k ∈ preds ops i, k ∈ done := fun k hk => by simpa using List.all_eq_true.1 hpd k hk
      have hpp : ∀ k ∈ pend, blind ops i k.1 = true ∧ unlike ops k.1 i = true ∧ (k.1 ∈ preds ops i ∨ blind ops k.1 i = true) := fun k hk => by
        have := List.all_eq_true.1 hpp k hk
        simp only [Bool.and_eq_true, Bool.or_eq_true] at this
        exact ⟨this.1.1, this.1.2, this.2.imp (fun h => by simpa using h) id⟩
      cases ho : ops[i]? with
      | none => simp [dstIs, ho] at hd0
      | some o =>
        cases hd : o.dst with
        | none => simp [dstIs, ho, hd] at hd0
        | some d =>
          simp [dstIs, ho, hd] at hd0
          simp only [vcDraw, ifWanted, ho] at hV
          have hlen : n + 1 = (((i, m.isGet) :: p).length) + r.idx.length := by
            simp only [DSteps.idx, List.length_cons] at hn ⊢; omega
          cases hw : Region.wanted o (yielded ops ac.tmps) with
          | true =>
            rw [hw] at hV
            obtain ⟨v, h1, h2, h3⟩ := takeV_prom hV hd (by rw [h.acN]; exact hd0.1)
            exact ih _ _ _ _ _ _ _ hr (h.take hsel hd0.1 hd0.2 hfresh hpd hpp ho hd v (.inl ⟨hw, h3⟩)) h1 (agr v ho hag) hlen
          | false =>
            rw [hw] at hV
            exact ih _ _ _ _ _ _ _ hr (h.take hsel hd0.1 hd0.2 hfresh hpd hpp ho hd undef (.inr ⟨hw, rfl⟩)) hV (agr undef ho hag) hlen
    | now i m chk r _ => exact act _ rfl
    | eff i t chk r _ => exact act _ rfl
    | effU i chk r _ => exact act _ rfl
    | call i t chk r _ => exact act _ rfl

theorem draw_sound (hm : P.follows .mixedOrders = true) (hsel : Region.noSelect ops = true) {id : Nat} {ds : DSteps} {a : Act} {w : World} {next : Act → Pr} (hN : a.tmps.size = N)
    (hok : drawOk ops N [] [] [] ds = true) (hcov : ∀ i, i < ops.size → i ∈ ds.idx) (h : DrewP (vcDraw P ops ds next a) w)
    (hQ : ∀ a' w', next a' w' → Agree (dsts ops (List.range ops.size)) a a' → Q .normal a' w') : (Code.region id ops true).wpIn (Fr ro) 0 P Q a w := by
  have hnd : ∀ (ds : DSteps) (done : List Nat) (pend : List (Nat × Bool)) (al : List Nat), drawOk ops N done pend al ds = true → ds.idx.Nodup ∧ ∀ i ∈ ds.idx, i < ops.size := by
    intro ds
    have lt_ev : ∀ {i : Nat} {chk done al rest} {pend : List (Nat × Bool)}, eventOk ops i chk done pend al rest = true → i < ops.size := fun h => by
      simp only [eventOk, Bool.and_eq_true] at h
      obtain ⟨o, ho⟩ := Option.isSome_iff_exists.1 h.1.1.1.1
      exact lt_of_some ho
    induction ds with
    | nil => intro done pend al _; exact ⟨List.nodup_nil, fun i hi => by cases hi⟩
    | split g r ih => intro done pend al h; simp only [drawOk, Bool.and_eq_true] at h; exact ih done pend _ h.2
    | alt r1 r2 ih _ => intro done pend al h; simp only [drawOk, Bool.and_eq_true] at h; exact ih done pend _ h.2.1.1.1.1.2
    | take i m r ih =>
      intro done pend al h
      simp only [drawOk, Bool.and_eq_true] at h
      obtain ⟨h1, h2⟩ := ih _ _ _ h.2.2
      have hlt : i < ops.size := by
        cases ho : ops[i]? with
        | none => simp [dstIs, ho] at h
        | some o => exact lt_of_some ho
      refine ⟨List.nodup_cons.2 ⟨fun hi => drawOk_fresh r _ _ _ h.2.2 i hi (by simp), h1⟩, fun j hj => ?_⟩
      rcases List.mem_cons.1 hj with rfl | hj
      · exact hlt
      · exact h2 j hj
    | now i m chk r ih =>
      intro done pend al h
      simp only [drawOk, Bool.and_eq_true] at h
      obtain ⟨h1, h2⟩ := ih _ _ _ h.2
      refine ⟨List.nodup_cons.2 ⟨fun hi => drawOk_fresh r _ _ _ h.2 i hi (by simp), h1⟩, fun j hj => ?_⟩
      rcases List.mem_cons.1 hj with rfl | hj
      · exact lt_ev h.1
      · exact h2 j hj
    | eff i m chk r ih =>
      intro done pend al h
      simp only [drawOk, Bool.and_eq_true] at h
      obtain ⟨h1, h2⟩ := ih _ _ _ h.2
      refine ⟨List.nodup_cons.2 ⟨fun hi => drawOk_fresh r _ _ _ h.2 i hi (by simp), h1⟩, fun j hj => ?_⟩
      rcases List.mem_cons.1 hj with rfl | hj
      · exact lt_ev h.1
      · exact h2 j hj
    | effU i chk r ih =>
      intro done pend al h
      simp only [drawOk, Bool.and_eq_true] at h
      obtain ⟨h1, h2⟩ := ih _ _ _ h.2
      refine ⟨List.nodup_cons.2 ⟨fun hi => drawOk_fresh r _ _ _ h.2 i hi (by simp), h1⟩, fun j hj => ?_⟩
      rcases List.mem_cons.1 hj with rfl | hj
      · exact lt_ev h.1
      · exact h2 j hj
    | call i m chk r ih =>
      intro done pend al h
      simp only [drawOk, Bool.and_eq_true] at h
      obtain ⟨h1, h2⟩ := ih _ _ _ h.2
      refine ⟨List.nodup_cons.2 ⟨fun hi => drawOk_fresh r _ _ _ h.2 i hi (by simp), h1⟩, fun j hj => ?_⟩
      rcases List.mem_cons.1 hj with rfl | hj
      · exact lt_ev h.1
      · exact h2 j hj
  obtain ⟨h1, h2⟩ := hnd ds [] [] [] hok
  have hlen : ds.idx.length = ops.size := by
    have hperm : ds.idx.Perm (List.range ops.size) := (List.perm_ext_iff_of_nodup h1 List.nodup_range).2 fun i => by
      rw [List.mem_range]
      exact ⟨h2 i, hcov i⟩
    rw [hperm.length_eq, List.length_range]
  refine wpIn_region_any hm (draw_any (N := N) hsel a next hQ ops.size ds [] [] [] _ a a _ hok ?_ h.out (Agree.refl _ _) (by rw [hlen]; simp))
  exact {
    sub := fun _ h => by cases h
    nodup := List.nodup_nil
    pdone := fun _ h => by cases h
    ord := trivial
    cover := fun i hi => .inr (hcov i hi)
    inb := fun _ h => by cases h
    size := by simp
    mark := fun i hi => by simp [Array.getD_eq_getD_getElem?, hi]
    frames := ⟨rfl, rfl, fun _ _ => rfl⟩
    acN := hN
    prom := fun _ h => by cases h
    pair := fun _ h => by cases h
    self := fun _ h => by cases h }
end
end
end Go.Sh
