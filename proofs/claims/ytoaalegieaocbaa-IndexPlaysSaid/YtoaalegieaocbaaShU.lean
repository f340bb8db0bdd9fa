/- Reslices, new slices, bytes and strings. -/
import Derived.Test.YtoaalegieaocbaaShT
import Derived.Laws.MakeOwn
import Derived.IntWalk
namespace Go.Sh
section
variable {P : Program} {E w : World} {L L' : List HProp}

/-! ### reslices -/
def subS (s : Sl) (l h m sz : Nat) : Sl := ⟨if m = l then s.a else s.a.map (·.add (l * sz)), h - l, m - l⟩

theorem run_sliceAt {T Te : TypeId} {sz : Nat} {s : Sl} {lo hi mx : Option Int} {l h m : Nat} (hT : pureRun P (underlying T) = some (.slice Te)) (hsz : pureRun P (sizeOf Te) = some sz)
    (hm : m = match mx with | some v => v.toNat | none => s.cap) (hm' : ∀ v, mx = some v → 0 ≤ v ∧ v ≤ s.cap)
    (hh : h = match hi with | some v => v.toNat | none => s.len) (hh' : ∀ v, hi = some v → 0 ≤ v ∧ v ≤ m) (hn : hi = none → mx = none)
    (hl : l = match lo with | some v => v.toNat | none => 0) (hl' : ∀ v, lo = some v → 0 ≤ v ∧ v ≤ h) :
    (Instr.sliceAt T (.slice s.a s.len s.cap) (lo.map (Value.int .i64)) (hi.map (Value.int .i64)) (mx.map (Value.int .i64))).run P w =
      .ok (.slice (subS s l h m sz).a (subS s l h m sz).len (subS s l h m sz).cap) w := by
  have hT' := fun w => pureRun_sound _ hT w
  have hsz' := fun w => pureRun_sound _ hsz w
  have hb : ∀ (v : Int) (y : Nat) (c : BoundsCode), 0 ≤ v ∧ v ≤ y → (Instr.sliceBound (.int .i64 v) y c).run P w = .ok v.toNat w := by
    intro v y c hv
    unfold Instr.sliceBound
    rw [run_ok (a := (IntKind.i64, v)) (w' := w) rfl]
    simp [hv]
  have hbs : (Instr.sliceBounds true s.len s.cap (lo.map (Value.int .i64)) (hi.map (Value.int .i64)) (mx.map (Value.int .i64))).run P w = .ok (l, h, m) w := by
    unfold Instr.sliceBounds
    cases mx with
    | none =>
      simp only [Option.map_none] at hm ⊢
      subst hm
      cases hi with
      | none =>
        simp only [Option.map_none] at hh ⊢
        subst hh
        cases lo with
        | none => simp only at hl; subst hl; simp
        | some v => simp only at hl; subst hl; simp [hb v _ _ (hl' v rfl)]
      | some u =>
        simp only at hh; subst hh
        cases lo with
        | none => simp only at hl; subst hl; simp [hb u _ _ (hh' u rfl)]
        | some v => simp only at hl; subst hl; simp [hb u _ _ (hh' u rfl), hb v _ _ (hl' v rfl)]
    | some x =>
      simp only at hm; subst hm
      cases hi with
      | none => cases hn rfl
      | some u =>
        simp only at hh; subst hh
        cases lo with
        | none => simp only at hl; subst hl; simp [hb x _ _ (hm' x rfl), hb u _ _ (hh' u rfl)]
        | some v => simp only at hl; subst hl; simp [hb x _ _ (hm' x rfl), hb u _ _ (hh' u rfl), hb v _ _ (hl' v rfl)]
  simp [Instr.sliceAt, Instr.slice, hT', hbs, hsz', subS]

theorem val_slice_to {T Te : TypeId} {sz : Nat} {s : Sl} {n : Int} {k : Sl → Pr} (hT : pureRun P (underlying T) = some (.slice Te)) (hsz : pureRun P (sizeOf Te) = some sz)
    (h0 : 0 ≤ n) (h1 : n ≤ s.cap) (hk : k (subS s 0 n.toNat s.cap sz) w) : ValP P (vN (Instr.sliceAt T (.slice s.a s.len s.cap) none (some (.int .i64 n)) none)) tSl k w :=
  ⟨_, fun w => run_vN (run_sliceAt (w := w) (lo := none) (hi := some n) (mx := none) hT hsz rfl (fun _ h => by cases h) rfl (fun v h => by cases h; exact ⟨h0, h1⟩) (fun h => by cases h) rfl (fun _ h => by cases h)), hk⟩
theorem val_slice_from {T Te : TypeId} {sz : Nat} {s : Sl} {n : Int} {k : Sl → Pr} (hT : pureRun P (underlying T) = some (.slice Te)) (hsz : pureRun P (sizeOf Te) = some sz)
    (h0 : 0 ≤ n) (h1 : n ≤ s.len) (hk : k (subS s n.toNat s.len s.cap sz) w) : ValP P (vN (Instr.sliceAt T (.slice s.a s.len s.cap) (some (.int .i64 n)) none none)) tSl k w :=
  ⟨_, fun w => run_vN (run_sliceAt (w := w) (lo := some n) (hi := none) (mx := none) hT hsz rfl (fun _ h => by cases h) rfl (fun v h => by cases h) (fun _ => rfl) rfl (fun v h => by cases h; exact ⟨h0, h1⟩)), hk⟩
theorem val_slice_both {T Te : TypeId} {sz : Nat} {s : Sl} {n m : Int} {k : Sl → Pr} (hT : pureRun P (underlying T) = some (.slice Te)) (hsz : pureRun P (sizeOf Te) = some sz)
    (h0 : 0 ≤ n) (h1 : n ≤ m) (h2 : m ≤ s.cap) (hk : k (subS s n.toNat m.toNat s.cap sz) w) : ValP P (vN (Instr.sliceAt T (.slice s.a s.len s.cap) (some (.int .i64 n)) (some (.int .i64 m)) none)) tSl k w :=
  ⟨_, fun w => run_vN (run_sliceAt (w := w) (lo := some n) (hi := some m) (mx := none) hT hsz rfl (fun _ h => by cases h) rfl (fun v h => by cases h; exact ⟨by omega, h2⟩) (fun h => by cases h) rfl (fun v h => by cases h; exact ⟨h0, by show n ≤ ((m.toNat : Nat) : Int); omega⟩)), hk⟩
theorem val_slice_three {T Te : TypeId} {sz : Nat} {s : Sl} {n m : Int} {k : Sl → Pr} (hT : pureRun P (underlying T) = some (.slice Te)) (hsz : pureRun P (sizeOf Te) = some sz)
    (h0 : 0 ≤ n) (h1 : n ≤ m) (h2 : m ≤ s.cap) (hk : k (subS s 0 n.toNat m.toNat sz) w) : ValP P (vN (Instr.sliceAt T (.slice s.a s.len s.cap) none (some (.int .i64 n)) (some (.int .i64 m)))) tSl k w :=
  ⟨_, fun w => run_vN (run_sliceAt (w := w) (lo := none) (hi := some n) (mx := some m) hT hsz rfl (fun v h => by cases h; exact ⟨by omega, h2⟩) rfl (fun v h => by cases h; exact ⟨h0, by show n ≤ ((m.toNat : Nat) : Int); omega⟩) (fun h => by cases h) rfl (fun _ h => by cases h)), hk⟩

theorem Holds.own_sub {Te : TypeId} {sz : Nat} {s : Sl} {cs : List Value} (hh : Holds E w (ownS Te sz s cs :: L)) {l h m : Nat} (h1 : l ≤ h) (h2 : h ≤ s.len) (h3 : h ≤ m) (h4 : m ≤ s.cap) :
    Holds E w (ownS Te sz (subS s l h m sz) ((cs.drop (l * sz)).take ((h - l) * sz)) :: L) := by
  rcases hh.own_cases with ⟨rfl, rfl, h'⟩ | ⟨b, pre, spare, ha, hl, hle, hsp, h'⟩
  · simp only at h2 h4
    have e1 : h = 0 := by omega
    have e2 : m = 0 := by omega
    have e3 : l = 0 := by omega
    subst e1; subst e2; subst e3
    simpa [subS] using h'.own_nil (T := Te) (sz := sz)
  · by_cases hml : m = l
    · have e1 : h = l := by omega
      subst e1
      have e : subS s h h m sz = ⟨s.a, 0, 0⟩ := by simp [subS, hml]
      rw [e]
      simp only [Nat.sub_self, Nat.zero_mul, List.take_zero]
      exact Holds.own_mk (pre := pre) (cs := []) (spare := cs ++ spare) (by simpa using h') ha (by simp) (Nat.le_refl _) (by simp)
    · have hmul : h * sz ≤ cs.length := by rw [hl]; exact Nat.mul_le_mul_right _ h2
      have hmul' : l * sz ≤ h * sz := Nat.mul_le_mul_right _ h1
      have hsub : (h - l) * sz = h * sz - l * sz := Nat.sub_mul _ _ _
      refine Holds.own_mk (pre := pre ++ cs.take (l * sz)) (spare := cs.drop (h * sz) ++ spare) (b := b) ?_ ?_ ?_ ?_ ?_
      · have e : pre ++ (cs ++ spare) = pre ++ cs.take (l * sz) ++ ((cs.drop (l * sz)).take ((h - l) * sz) ++ (cs.drop (h * sz) ++ spare)) := by
          have e1 : cs = cs.take (l * sz) ++ ((cs.drop (l * sz)).take ((h - l) * sz) ++ cs.drop (h * sz)) := by
            have e2 : cs.drop (h * sz) = (cs.drop (l * sz)).drop ((h - l) * sz) := by rw [List.drop_drop]; congr 1; omega
            rw [e2, List.take_append_drop, List.take_append_drop]
          conv => lhs; rw [e1]
          simp [List.append_assoc]
        rw [← e]; exact h'
      · simp only [subS, hml, if_false, ha, Option.map_some, Addr.add_mk, List.length_append, List.length_take]
        congr 2; omega
      · simp only [subS, List.length_take, List.length_drop]; omega
      · simp only [subS]; omega
      · simp only [subS, List.length_append, List.length_drop]
        have e1 : (m - l - (h - l)) = m - h := by omega
        rw [e1]
        have e2 : (m - h) * sz ≤ (s.cap - h) * sz := Nat.mul_le_mul_right _ (by omega)
        have e3 : (s.cap - h) * sz = (s.cap - s.len) * sz + (s.len - h) * sz := by rw [← Nat.add_mul]; congr 1; omega
        have e4 : (s.len - h) * sz = s.len * sz - h * sz := Nat.sub_mul _ _ _
        omega

/-! ### new slices -/
theorem do_build {Te : TypeId} {sz len : Nat} {s : Sem Value} {k : Sl → Pr} (cs : List Value) (h : Holds E w L)
    (hs : s.run P w = .ok (.slice (some ⟨w.heap.size, 0, none⟩) len len) { w with heap := w.heap.push (.cells ⟨cs⟩ Te (0, 0)) }) (hl : cs.length = len * sz)
    (hk : ∀ s' w', s'.len = len → Holds E w' (ownS Te sz s' cs :: L) → k s' w') : DoP P (vN s) tSl k w := by
  refine do_new (l := .slice) (x := ⟨some ⟨w.heap.size, 0, none⟩, len, len⟩) h hs rfl fun w' h' => ?_
  refine hk _ _ rfl (Holds.own_mk (pre := []) (spare := []) (by simpa using h') rfl hl (Nat.le_refl _) (by simp))

/-! ### bytes and strings -/
theorem get_bytesStr {Tb Ts e : TypeId} {s : Sl} {bs : List UInt8} {k : ByteArray → Pr} (hs : P.underlying Tb = some (.slice e)) (he : P.underlying e = some (.int .u8)) (hd : P.underlying Ts = some .string)
    (h : Reads w s 1 (bs.map fun b => .int .u8 b.toNat)) (hk : k ⟨bs.toArray⟩ w) : GetP P (vN (Go.convert Tb Ts (.slice s.a s.len s.cap))) tStr k w := by
  refine ⟨⟨bs.toArray⟩, run_vN ?_, hk⟩
  rw [run_convert_bytes_string w Tb Ts e _ _ _ hs he hd]
  have hlen : bs.length = s.len := by simpa using h.1
  obtain ⟨a, len, cap⟩ := s
  simp only at hlen ⊢
  cases a with
  | none =>
    have : bs = [] := by
      cases bs with
      | nil => rfl
      | cons v cs => obtain ⟨b, off, ha⟩ := h.addr (by simp); cases ha
    subst this
    rfl
  | some a =>
    have hf := run_firstCells (P := P) h
    simp only [Builtin.firstCells, Nat.mul_one] at hf
    have hb := run_bytesToString (P := P) w a len cap (bs.map fun b => (b.toNat : Int)) (by rw [hf]; simp [List.map_map])
    rw [hb]
    have key : ∀ (l : List UInt8) (acc : ByteArray), (l.map fun b => (b.toNat : Int)).foldl (fun r n => r.push (UInt8.ofNat n.toNat)) acc = ⟨acc.data ++ l.toArray⟩ := by
      intro l
      induction l with
      | nil => intro acc; simp
      | cons x l ih =>
        intro acc
        simp only [List.map_cons, List.foldl_cons, ih]
        congr 1
        simp [ByteArray.push]
    rw [key bs ByteArray.empty]
    simp [Ty.val, Comp.val, Leaf.val]

theorem val_strFrom {T : TypeId} {s : ByteArray} {n : Int} {k : ByteArray → Pr} (hT : P.underlying T = some .string) (h0 : 0 ≤ n) (h1 : n ≤ s.size) (hk : k (s.extract n.toNat s.size) w) :
    ValP P (vN (Instr.sliceAt T (.string s) (some (.int .i64 n)) none none)) tStr k w := by
  refine ⟨_, fun w => run_vN ?_, hk⟩
  have := run_slice_string_from_if (P := P) w T s .i64 n hT
  rw [if_pos ⟨h0, h1⟩] at this
  have hu := run_underlying (P := P) hT
  simp [Instr.sliceAt, hu, this, Ty.val, Comp.val, Leaf.val]

theorem val_strTo {T : TypeId} {s : ByteArray} {n : Int} {k : ByteArray → Pr} (hT : P.underlying T = some .string) (h0 : 0 ≤ n) (h1 : n ≤ s.size) (hk : k (s.extract 0 n.toNat) w) :
    ValP P (vN (Instr.sliceAt T (.string s) none (some (.int .i64 n)) none)) tStr k w := by
  refine ⟨_, fun w => run_vN ?_, hk⟩
  have := run_slice_string_to_if (P := P) w T s .i64 n hT
  rw [if_pos ⟨h0, h1⟩] at this
  have hu := run_underlying (P := P) hT
  simp [Instr.sliceAt, hu, this, Ty.val, Comp.val, Leaf.val]

theorem val_concat {T : TypeId} {x y : Operand} {a b : ByteArray} {k : ByteArray → Pr} (hb : a.size + b.size ≤ 9223372036854775807) (hk : k (a ++ b) w) :
    ValP P (cmpN .add T x y (.string a) (.string b)) tStr k w := by
  refine ⟨_, fun w => run_vN ?_, hk⟩
  rw [run_ok (a := ()) (w' := w) rfl]
  have : ¬ (((a.size + b.size : Nat) : Int) > IntKind.i64.max) := by
    have : IntKind.i64.max = 9223372036854775807 := by rfl
    rw [this]; omega
  simp only [Go.binOp, Op.stringOp]
  rw [if_neg this]
  rfl

/-- a new array of a size that is reckoned; elements of one cell -/
theorem do_makeSlice {T Te : TypeId} {i : TypeInfo} {z : Value} {n : Int} {k : Sl → Pr} (h : Holds E w L) (ht : P.underlying T = some (.slice Te)) (hi : P.info? Te = some i) (hz : i.zero = some z)
    (h1 : i.size = 1) (hzc : z.cells = #[z]) (h0 : 0 ≤ n) (hb : (i.bytes : Int) * n ≤ 281474976710656) (h2 : n ≤ 9223372036854775807)
    (hk : ∀ s' w', s'.len = n.toNat → Holds E w' (ownS Te 1 s' (List.replicate n.toNat z) :: L) → k s' w') :
    DoP P (vN (Instr.makeSlice T (.int .i64 n) (.int .i64 n))) tSl k w := by
  refine do_build (sz := 1) (len := n.toNat) (List.replicate n.toNat z) h ?_ (by simp) hk
  rw [run_make w T Te i z ht hi hz .i64 .i64 n n h0 (Int.le_refl _) hb h2]
  congr 1
  unfold World.alloc
  congr 3
  apply Array.ext'
  simp only [madeCells, h1, hzc, Nat.mul_one]
  refine List.ext_getElem (by simp) fun j h3 h4 => ?_
  simp [Nat.mod_one]
end
end Go.Sh
