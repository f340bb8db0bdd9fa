/- The disk: what each call comes to. -/
import Derived.Test.YtebicdddbeneoaaShW
import Derived.Test.YtebicdddbeneoaaRdDisk
namespace Go.Proofs.Ytebicdddbeneoaa
open Go.Sh
attribute [local irreducible] pto rob old ownS roS hstar hex hpure hemp mapB

/-! ### plain -/
def zeros : ByteArray := ⟨(List.replicate 128 (0 : UInt8)).toArray⟩
def pad (s : ByteArray) : ByteArray := s ++ ⟨(List.replicate (128 - s.size) (0 : UInt8)).toArray⟩

abbrev MS := List (MEnt Int ByteArray) × Nat
def layM (m : MS) (c : Int × ByteArray) : MS := if c.2.toList == zeros.toList then (mdel eqInt c.1 m.1, m.2) else (mset eqInt c.1 c.2 m.1 m.2, mclock eqInt c.1 m.1 m.2)
def encW (c : Int × ByteArray) : List Value := [.int .i64 c.1, .string c.2]
theorem encW_len (c : Int × ByteArray) : (encW c).length = 2 := rfl

structure DSt where
  n : Int
  m : MS
  cache : List (Int × ByteArray)
  writes : Int
  flushes : Int
  fused : Bool
  left : Int

def dcells (D : DSt) (r : Nat) (c : Sl) : Array Value :=
  #[.int .i64 D.n, .map (some r), .slice c.a c.len c.cap, .int .i64 D.writes, .int .i64 D.flushes, .bool D.fused, .int .i64 D.left]
abbrev mapI (r : Nat) (m : MS) : HProp := mapB (.int .i64) (.leaf .str) r m.1 m.2
def Disk (d : Nat) (D : DSt) : HProp := hex fun g : Nat × Sl =>
  hstar (pto d (.cells (dcells D g.1 g.2) 47 (0, 0))) (hstar (mapI g.1 D.m) (ownS 64 2 g.2 (D.cache.flatMap encW)))

section
variable {E w : World} {L L' : List HProp}
theorem Disk.opened {d : Nat} {D : DSt} (h : Holds E w (Disk d D :: L)) :
    ∃ r c, Holds E w (pto d (.cells (dcells D r c) 47 (0, 0)) :: mapI r D.m :: ownS 64 2 c (D.cache.flatMap encW) :: L) := by
  obtain ⟨⟨r, c⟩, h⟩ := h.ex_out
  exact ⟨r, c, h.star3_out⟩
theorem Disk.closed {d r : Nat} {c : Sl} {D : DSt} (h : Holds E w (pto d (.cells (dcells D r c) 47 (0, 0)) :: mapI r D.m :: ownS 64 2 c (D.cache.flatMap encW) :: L)) : Holds E w (Disk d D :: L) :=
  Holds.ex_in (r, c) h.star3_in
end

theorem kInt : KeyOK Try.prog 3 (.int .i64) eqInt := keyInt (by kernel_rfl)

theorem Len_spec {E w : World} {L L' : List HProp} {d : Nat} {c : Array Value} {n : Int} {k : Int → Pr} (h : Holds E w L) (p : Pick L (pto d (.cells c 47 (0, 0))) L')
    (hc : c[0]? = some (.int .i64 n)) (hk : k n w) : CallP Try.prog 18 #[.pointer (some ⟨d, 0, none⟩)] tInt k w := by
  refine rd18 _ _ _ ?_
  unfold sh18
  refine get_pure false (by kernel_rfl) ?_
  refine CondP.no rfl ?_
  refine val_nil ?_
  refine get_ld h rfl p (by kernel_rfl) (by rw [show (0 : Nat) = 0 from rfl, hc]; rfl) ?_
  exact hk

theorem burnt_spec {E w : World} {L L' : List HProp} {d : Nat} {c : Array Value} {f : Bool} {n : Int} {k : Bool → Pr} (h : Holds E w L) (p : Pick L (pto d (.cells c 47 (0, 0))) L')
    (hf : c[5]? = some (.bool f)) (hn : c[6]? = some (.int .i64 n)) (hk : k (f && n == 0) w) : CallP Try.prog 29 #[.pointer (some ⟨d, 0, none⟩)] tBool k w := by
  refine rd29 _ _ _ ?_
  unfold sh29
  refine val_nil ?_
  refine get_ld h rfl p (by kernel_rfl) (x := f) (by simp only [Nat.zero_add]; rw [hf]; rfl) ?_
  refine JoinP.go (CondP.mk' (fun hb => ?_) (fun hb => ?_))
  · subst hb
    refine val_nil ?_
    refine get_ld h rfl p (by kernel_rfl) (x := n) (by simp only [Nat.zero_add]; rw [hn]; rfl) ?_
    exact AnyP.go fun _ => hk
  · subst hb
    exact AnyP.go fun _ => hk


def rightM (n at_ : Int) : Int := if at_ < 0 ∨ n ≤ at_ then 2 else 0

theorem right_spec {E w : World} {L L' : List HProp} {d : Nat} {c : Array Value} {n at_ : Int} {k : Int → Pr} (h : Holds E w L) (p : Pick L (pto d (.cells c 47 (0, 0))) L')
    (hc : c[0]? = some (.int .i64 n)) (hn : 0 < n) (hk : k (rightM n at_) w) : CallP Try.prog 28 #[.pointer (some ⟨d, 0, none⟩), .int .i64 at_] tInt k w := by
  refine rd28 _ _ _ _ ?_
  unfold sh28
  refine Len_spec h p hc ?_
  have hne : n ≠ 0 := by omega
  refine CondP.no (beq_eq_false_iff_ne.2 hne) ?_
  refine JoinP.go (CondP.mk' (fun hb => ?_) (fun hb => ?_))
  · have hb : at_ < 0 := by simpa using hb
    refine AnyP.go fun _ => CondP.yes rfl ?_
    rw [rightM, if_pos (.inl hb)] at hk; exact hk
  · have hb : ¬ at_ < 0 := by simpa using hb
    refine val_nil ?_
    refine get_ld h rfl p (by kernel_rfl) (x := n) (by rw [hc]; rfl) ?_
    refine AnyP.go fun _ => CondP.mk' (fun h1 => ?_) (fun h1 => ?_)
    · have h1 : n ≤ at_ := by simpa using h1
      rw [rightM, if_pos (.inr h1)] at hk; exact hk
    · have h1 : ¬ n ≤ at_ := by simpa using h1
      rw [rightM, if_neg (fun hh => hh.elim hb h1)] at hk; exact hk

theorem empty_spec {E w : World} {L : List HProp} {k : ByteArray → Pr} (h : Holds E w L) (hk : ∀ w', Holds E w' L → k zeros w') : CallP Try.prog 30 #[] tStr k w := by
  refine rd30 _ _ ?_
  unfold sh30
  refine do_build (Te := 5) (sz := 1) (len := 128) (List.replicate 128 (.int .u8 0)) h (by kernel_rfl) (by rw [List.length_replicate]) fun s w hs h => ?_
  refine get_bytesStr (bs := List.replicate 128 0) Try.underlying69 Try.underlying5 Try.underlying9 ?_ (hk _ h.drop)
  have := h.reads_own
  rw [List.map_replicate]
  exact this

theorem size_mkrep (i : Nat) : ByteArray.size ⟨(List.replicate i (0 : UInt8)).toArray⟩ = i := by
  show (List.replicate i (0 : UInt8)).toArray.size = i
  rw [List.size_toArray, List.length_replicate]
theorem zeros_size : zeros.size = 128 := by
  have : zeros.data.size = 128 := by rw [zeros, List.size_toArray, List.length_replicate]
  rw [ByteArray.size_data] at this; exact this
theorem pad_data (s : ByteArray) : (pad s).data = s.data ++ (List.replicate (128 - s.size) (0 : UInt8)).toArray := by simp [pad]
theorem pad_size (s : ByteArray) (h : s.size ≤ 128) : (pad s).size = 128 := by
  have : (pad s).data.size = s.size + (128 - s.size) := by rw [pad_data]; simp
  rw [ByteArray.size_data] at this; omega

theorem Pad_spec {E w : World} {L : List HProp} {s : ByteArray} {k : ByteArray → Pr} (h : Holds E w L) (hs : s.size ≤ 4611686018427387904) (hk : k (pad s) w) : CallP Try.prog 9 #[.string s] tStr k w := by
  refine rd9 _ _ _ ?_
  unfold sh9
  refine LoopP.inv (fun t w' => w' = w ∧ ∃ i : Nat, t = s ++ ⟨(List.replicate i (0 : UInt8)).toArray⟩ ∧ (i = 0 ∨ s.size + i ≤ 128)) (fun t _ => 128 - t.size) ⟨rfl, 0, ?_, .inl rfl⟩ ?_
  · exact ByteArray.ext (by simp)
  · rintro next t w' ⟨rfl, i, rfl, hi⟩ hnext
    have hsz : (s ++ ⟨(List.replicate i (0 : UInt8)).toArray⟩ : ByteArray).size = s.size + i := by
      rw [ByteArray.size_append, size_mkrep]
    refine AnyP.go fun _ => CondP.mk' (fun h1 => ?_) (fun h1 => ?_)
    · have h1 : s.size + i < 128 := by first | (have h1 := cT h1; rw [hsz] at h1; omega) | (have h1 := cF h1; rw [hsz] at h1; omega)
      refine val_concat (by rw [hsz]; show s.size + i + 1 ≤ _; omega) ?_
      have e : (s ++ ⟨(List.replicate i (0 : UInt8)).toArray⟩ : ByteArray) ++ ⟨#[0]⟩ = s ++ ⟨(List.replicate (i + 1) (0 : UInt8)).toArray⟩ := by
        apply ByteArray.ext
        apply Array.ext'
        simp [List.replicate_succ']
      rw [e]
      refine hnext _ _ ⟨rfl, i + 1, rfl, .inr (by omega)⟩ ?_
      have hsz' : (s ++ ⟨(List.replicate (i + 1) (0 : UInt8)).toArray⟩ : ByteArray).size = s.size + (i + 1) := by
        rw [ByteArray.size_append, size_mkrep]
      rw [hsz, hsz']; omega
    · have h1 : ¬ s.size + i < 128 := by first | (have h1 := cT h1; rw [hsz] at h1; omega) | (have h1 := cF h1; rw [hsz] at h1; omega)
      have e : (s ++ ⟨(List.replicate i (0 : UInt8)).toArray⟩ : ByteArray) = pad s := by
        unfold pad
        rcases hi with rfl | hi
        · have : 128 - s.size = 0 := by omega
          rw [this]
        · have : 128 - s.size = i := by omega
          rw [this]
      rw [e]; exact hk

theorem pad_empty (s : ByteArray) : s ++ zeros.extract s.size zeros.size = pad s := by
  apply ByteArray.ext
  rw [pad_data, ByteArray.data_append, ByteArray.data_extract, zeros_size]
  refine congrArg (s.data ++ ·) ?_
  apply Array.ext'
  rw [Array.toList_extract]
  show ((List.replicate 128 (0 : UInt8)).drop s.size).take (128 - s.size) = List.replicate (128 - s.size) 0
  rw [List.drop_replicate, List.take_replicate, Nat.min_self]

def wr (D : DSt) (at_ : Int) (s : ByteArray) : Int × DSt :=
  if rightM D.n at_ ≠ 0 then (rightM D.n at_, D) else
  if 128 < s.size then (19, D) else
  if D.fused && D.left == 0 then (6, D) else
  (0, { D with left := IntKind.i64.wrap (D.left - 1), cache := D.cache ++ [(at_, pad s)], writes := IntKind.i64.wrap (D.writes + 1) })

theorem elemW : ElemT Try.prog 64 2 24 := ⟨(by kernel_rfl), (by kernel_rfl), (by kernel_rfl)⟩

theorem Write_spec {E w : World} {L' : List HProp} {d : Nat} {D : DSt} {at_ : Int} {s : ByteArray} {k : Int → Pr} (h : Holds E w (Disk d D :: L'))
    (hn : 0 < D.n) (hcl : D.cache.length ≤ 1073741824) (hk : ∀ w', Holds E w' (Disk d (wr D at_ s).2 :: L') → k (wr D at_ s).1 w') :
    CallP Try.prog 10 #[.pointer (some ⟨d, 0, none⟩), .int .i64 at_, .string s] tInt k w := by
  obtain ⟨r, c, h⟩ := Disk.opened h
  refine rd10 _ _ _ _ _ ?_
  unfold sh10
  refine right_spec h .head rfl hn ?_
  refine CondP.mk' (fun hb => ?_) (fun hb => ?_)
  · have hb : rightM D.n at_ ≠ 0 := neT hb
    have e : wr D at_ s = (rightM D.n at_, D) := by rw [wr, if_pos hb]
    rw [e] at hk
    exact hk _ (Disk.closed h)
  · have hb : ¬ rightM D.n at_ ≠ 0 := fun hh => hh (neF hb)
    refine CondP.mk' (fun h1 => ?_) (fun h1 => ?_)
    · have h1 : 128 < s.size := by have := cT h1; omega
      have e : wr D at_ s = (19, D) := by rw [wr, if_neg hb, if_pos h1]
      rw [e] at hk
      exact hk _ (Disk.closed h)
    · have h1 : ¬ 128 < s.size := by have := cF h1; omega
      refine burnt_spec h .head (f := D.fused) (n := D.left) rfl rfl ?_
      refine CondP.mk' (fun h2 => ?_) (fun h2 => ?_)
      · have e : wr D at_ s = (6, D) := by rw [wr, if_neg hb, if_neg h1, if_pos h2]
        rw [e] at hk
        exact hk _ (Disk.closed h)
      · have e : wr D at_ s = (0, { D with left := IntKind.i64.wrap (D.left - 1), cache := D.cache ++ [(at_, pad s)], writes := IntKind.i64.wrap (D.writes + 1) }) := by
          rw [wr, if_neg hb, if_neg h1, if_neg (by simp [h2])]
        rw [e] at hk
        repeat (first | refine val_nil ?_ | refine get_ld h rfl (by first | exact .head | exact (.tail .head) | exact (.tail (.tail .head)) | exact (.tail (.tail (.tail .head))) | exact (.tail (.tail (.tail (.tail .head)))) | exact (.tail (.tail (.tail (.tail (.tail .head))))) | exact (.tail (.tail (.tail (.tail (.tail (.tail .head)))))) | exact (.tail (.tail (.tail (.tail (.tail (.tail (.tail .head))))))) | exact (.tail (.tail (.tail (.tail (.tail (.tail (.tail (.tail .head))))))))) (by kernel_rfl) rfl ?_ | (refine do_st h rfl (by first | exact .head | exact (.tail .head) | exact (.tail (.tail .head)) | exact (.tail (.tail (.tail .head))) | exact (.tail (.tail (.tail (.tail .head)))) | exact (.tail (.tail (.tail (.tail (.tail .head))))) | exact (.tail (.tail (.tail (.tail (.tail (.tail .head)))))) | exact (.tail (.tail (.tail (.tail (.tail (.tail (.tail .head))))))) | exact (.tail (.tail (.tail (.tail (.tail (.tail (.tail (.tail .head))))))))) (by kernel_rfl) rfl rfl ?_; intro w h) | (refine DrewP.go h ?_; intro w h) | (refine AnyP.go ?_; intro _) | refine chk_ld h rfl (by first | exact .head | exact (.tail .head) | exact (.tail (.tail .head)) | exact (.tail (.tail (.tail .head))) | exact (.tail (.tail (.tail (.tail .head)))) | exact (.tail (.tail (.tail (.tail (.tail .head))))) | exact (.tail (.tail (.tail (.tail (.tail (.tail .head)))))) | exact (.tail (.tail (.tail (.tail (.tail (.tail (.tail .head))))))) | exact (.tail (.tail (.tail (.tail (.tail (.tail (.tail (.tail .head))))))))) (by kernel_rfl) rfl ?_)
        refine empty_spec h fun w h => ?_
        repeat (first | refine val_nil ?_ | refine get_ld h rfl (by first | exact .head | exact (.tail .head) | exact (.tail (.tail .head)) | exact (.tail (.tail (.tail .head))) | exact (.tail (.tail (.tail (.tail .head)))) | exact (.tail (.tail (.tail (.tail (.tail .head))))) | exact (.tail (.tail (.tail (.tail (.tail (.tail .head)))))) | exact (.tail (.tail (.tail (.tail (.tail (.tail (.tail .head))))))) | exact (.tail (.tail (.tail (.tail (.tail (.tail (.tail (.tail .head))))))))) (by kernel_rfl) rfl ?_ | (refine do_st h rfl (by first | exact .head | exact (.tail .head) | exact (.tail (.tail .head)) | exact (.tail (.tail (.tail .head))) | exact (.tail (.tail (.tail (.tail .head)))) | exact (.tail (.tail (.tail (.tail (.tail .head))))) | exact (.tail (.tail (.tail (.tail (.tail (.tail .head)))))) | exact (.tail (.tail (.tail (.tail (.tail (.tail (.tail .head))))))) | exact (.tail (.tail (.tail (.tail (.tail (.tail (.tail (.tail .head))))))))) (by kernel_rfl) rfl rfl ?_; intro w h) | (refine DrewP.go h ?_; intro w h) | (refine AnyP.go ?_; intro _) | refine chk_ld h rfl (by first | exact .head | exact (.tail .head) | exact (.tail (.tail .head)) | exact (.tail (.tail (.tail .head))) | exact (.tail (.tail (.tail (.tail .head)))) | exact (.tail (.tail (.tail (.tail (.tail .head))))) | exact (.tail (.tail (.tail (.tail (.tail (.tail .head)))))) | exact (.tail (.tail (.tail (.tail (.tail (.tail (.tail .head))))))) | exact (.tail (.tail (.tail (.tail (.tail (.tail (.tail (.tail .head))))))))) (by kernel_rfl) rfl ?_)
        refine val_strFrom Try.underlying9 (by omega) (by rw [zeros_size]; omega) ?_
        rw [show ((s.size : Int).toNat) = s.size from rfl]
        refine val_concat ?_ ?_
        · rw [ByteArray.size_extract, zeros_size]; omega
        rw [pad_empty s]
        refine do_build (Te := 64) (sz := 2) [.int .i64 at_, .string (pad s)] h (by kernel_rfl) rfl fun t w ht h => ?_
        repeat (first | refine val_nil ?_ | refine get_ld h rfl (by first | exact .head | exact (.tail .head) | exact (.tail (.tail .head)) | exact (.tail (.tail (.tail .head))) | exact (.tail (.tail (.tail (.tail .head)))) | exact (.tail (.tail (.tail (.tail (.tail .head))))) | exact (.tail (.tail (.tail (.tail (.tail (.tail .head)))))) | exact (.tail (.tail (.tail (.tail (.tail (.tail (.tail .head))))))) | exact (.tail (.tail (.tail (.tail (.tail (.tail (.tail (.tail .head))))))))) (by kernel_rfl) rfl ?_ | (refine do_st h rfl (by first | exact .head | exact (.tail .head) | exact (.tail (.tail .head)) | exact (.tail (.tail (.tail .head))) | exact (.tail (.tail (.tail (.tail .head)))) | exact (.tail (.tail (.tail (.tail (.tail .head))))) | exact (.tail (.tail (.tail (.tail (.tail (.tail .head)))))) | exact (.tail (.tail (.tail (.tail (.tail (.tail (.tail .head))))))) | exact (.tail (.tail (.tail (.tail (.tail (.tail (.tail (.tail .head))))))))) (by kernel_rfl) rfl rfl ?_; intro w h) | (refine DrewP.go h ?_; intro w h) | (refine AnyP.go ?_; intro _) | refine chk_ld h rfl (by first | exact .head | exact (.tail .head) | exact (.tail (.tail .head)) | exact (.tail (.tail (.tail .head))) | exact (.tail (.tail (.tail (.tail .head)))) | exact (.tail (.tail (.tail (.tail (.tail .head))))) | exact (.tail (.tail (.tail (.tail (.tail (.tail .head)))))) | exact (.tail (.tail (.tail (.tail (.tail (.tail (.tail .head))))))) | exact (.tail (.tail (.tail (.tail (.tail (.tail (.tail (.tail .head))))))))) (by kernel_rfl) rfl ?_)
        have hlen := (h.pick (.tail (.tail (.tail .head)))).own_len
        rw [flat_len encW 2 encW_len] at hlen
        have hc2 : c.len = D.cache.length := by omega
        refine do_append (Te2 := 64) h (.tail (.tail (.tail .head))) (by kernel_rfl) (by kernel_rfl) elemW h.reads_own ?_ ?_ ?_ ?_
        · intro v hv; simp at hv; rcases hv with rfl | rfl <;> rfl
        · rw [ht, hc2]; omega
        · rw [ht, hc2]; omega
        intro s' w hs' h
        repeat (first | refine val_nil ?_ | refine get_ld h rfl (by first | exact .head | exact (.tail .head) | exact (.tail (.tail .head)) | exact (.tail (.tail (.tail .head))) | exact (.tail (.tail (.tail (.tail .head)))) | exact (.tail (.tail (.tail (.tail (.tail .head))))) | exact (.tail (.tail (.tail (.tail (.tail (.tail .head)))))) | exact (.tail (.tail (.tail (.tail (.tail (.tail (.tail .head))))))) | exact (.tail (.tail (.tail (.tail (.tail (.tail (.tail (.tail .head))))))))) (by kernel_rfl) rfl ?_ | (refine do_st h rfl (by first | exact .head | exact (.tail .head) | exact (.tail (.tail .head)) | exact (.tail (.tail (.tail .head))) | exact (.tail (.tail (.tail (.tail .head)))) | exact (.tail (.tail (.tail (.tail (.tail .head))))) | exact (.tail (.tail (.tail (.tail (.tail (.tail .head)))))) | exact (.tail (.tail (.tail (.tail (.tail (.tail (.tail .head))))))) | exact (.tail (.tail (.tail (.tail (.tail (.tail (.tail (.tail .head))))))))) (by kernel_rfl) rfl rfl ?_; intro w h) | (refine DrewP.go h ?_; intro w h) | (refine AnyP.go ?_; intro _) | refine chk_ld h rfl (by first | exact .head | exact (.tail .head) | exact (.tail (.tail .head)) | exact (.tail (.tail (.tail .head))) | exact (.tail (.tail (.tail (.tail .head)))) | exact (.tail (.tail (.tail (.tail (.tail .head))))) | exact (.tail (.tail (.tail (.tail (.tail (.tail .head)))))) | exact (.tail (.tail (.tail (.tail (.tail (.tail (.tail .head))))))) | exact (.tail (.tail (.tail (.tail (.tail (.tail (.tail (.tail .head))))))))) (by kernel_rfl) rfl ?_)
        refine hk _ (Disk.closed (r := r) (c := s') (h.sub (M := pto d _ :: mapI r D.m :: ownS 64 2 s' ((D.cache ++ [(at_, pad s)]).flatMap encW) :: L') ?_))
        have e2 : (D.cache ++ [(at_, pad s)]).flatMap encW = D.cache.flatMap encW ++ [.int .i64 at_, .string (pad s)] := by simp [encW]
        rw [e2]
        exact (by repeat (first | exact Sub.done | refine Sub.take (by first | exact .head | exact (.tail .head) | exact (.tail (.tail .head)) | exact (.tail (.tail (.tail .head))) | exact (.tail (.tail (.tail (.tail .head)))) | exact (.tail (.tail (.tail (.tail (.tail .head))))) | exact (.tail (.tail (.tail (.tail (.tail (.tail .head)))))) | exact (.tail (.tail (.tail (.tail (.tail (.tail (.tail .head))))))) | exact (.tail (.tail (.tail (.tail (.tail (.tail (.tail (.tail .head))))))))) ?_ | refine Sub.skip ?_))


theorem lay_spec {E w : World} {L : List HProp} {d r : Nat} {c : Array Value} {m : MS} {x : Int × ByteArray} {k : Unit → Pr} (h : Holds E w (pto d (.cells c 47 (0, 0)) :: mapI r m :: L))
    (hc : c[1]? = some (.map (some r))) (hk : ∀ w', Holds E w' (pto d (.cells c 47 (0, 0)) :: mapI r (layM m x) :: L) → k () w') :
    CallP Try.prog 31 #[.pointer (some ⟨d, 0, none⟩), .agg #[.int .i64 x.1, .string x.2]] (.tup []) k w := by
  refine rd31 _ (x.1, x.2, ()) _ _ ?_
  unfold sh31
  refine do_box h fun b w h => ?_
  repeat (first | refine val_nil ?_ | refine get_ld h rfl (by first | exact .head | exact (.tail .head) | exact (.tail (.tail .head)) | exact (.tail (.tail (.tail .head))) | exact (.tail (.tail (.tail (.tail .head)))) | exact (.tail (.tail (.tail (.tail (.tail .head))))) | exact (.tail (.tail (.tail (.tail (.tail (.tail .head)))))) | exact (.tail (.tail (.tail (.tail (.tail (.tail (.tail .head))))))) | exact (.tail (.tail (.tail (.tail (.tail (.tail (.tail (.tail .head))))))))) (by kernel_rfl) rfl ?_ | (refine do_st h rfl (by first | exact .head | exact (.tail .head) | exact (.tail (.tail .head)) | exact (.tail (.tail (.tail .head))) | exact (.tail (.tail (.tail (.tail .head)))) | exact (.tail (.tail (.tail (.tail (.tail .head))))) | exact (.tail (.tail (.tail (.tail (.tail (.tail .head)))))) | exact (.tail (.tail (.tail (.tail (.tail (.tail (.tail .head))))))) | exact (.tail (.tail (.tail (.tail (.tail (.tail (.tail (.tail .head))))))))) (by kernel_rfl) rfl rfl ?_; intro w h) | (refine DrewP.go h ?_; intro w h) | (refine AnyP.go ?_; intro _) | refine chk_ld h rfl (by first | exact .head | exact (.tail .head) | exact (.tail (.tail .head)) | exact (.tail (.tail (.tail .head))) | exact (.tail (.tail (.tail (.tail .head)))) | exact (.tail (.tail (.tail (.tail (.tail .head))))) | exact (.tail (.tail (.tail (.tail (.tail (.tail .head)))))) | exact (.tail (.tail (.tail (.tail (.tail (.tail (.tail .head))))))) | exact (.tail (.tail (.tail (.tail (.tail (.tail (.tail (.tail .head))))))))) (by kernel_rfl) rfl ?_)
  refine empty_spec h fun w h => ?_
  repeat (first | refine val_nil ?_ | refine get_ld h rfl (by first | exact .head | exact (.tail .head) | exact (.tail (.tail .head)) | exact (.tail (.tail (.tail .head))) | exact (.tail (.tail (.tail (.tail .head)))) | exact (.tail (.tail (.tail (.tail (.tail .head))))) | exact (.tail (.tail (.tail (.tail (.tail (.tail .head)))))) | exact (.tail (.tail (.tail (.tail (.tail (.tail (.tail .head))))))) | exact (.tail (.tail (.tail (.tail (.tail (.tail (.tail (.tail .head))))))))) (by kernel_rfl) rfl ?_ | (refine do_st h rfl (by first | exact .head | exact (.tail .head) | exact (.tail (.tail .head)) | exact (.tail (.tail (.tail .head))) | exact (.tail (.tail (.tail (.tail .head)))) | exact (.tail (.tail (.tail (.tail (.tail .head))))) | exact (.tail (.tail (.tail (.tail (.tail (.tail .head)))))) | exact (.tail (.tail (.tail (.tail (.tail (.tail (.tail .head))))))) | exact (.tail (.tail (.tail (.tail (.tail (.tail (.tail (.tail .head))))))))) (by kernel_rfl) rfl rfl ?_; intro w h) | (refine DrewP.go h ?_; intro w h) | (refine AnyP.go ?_; intro _) | refine chk_ld h rfl (by first | exact .head | exact (.tail .head) | exact (.tail (.tail .head)) | exact (.tail (.tail (.tail .head))) | exact (.tail (.tail (.tail (.tail .head)))) | exact (.tail (.tail (.tail (.tail (.tail .head))))) | exact (.tail (.tail (.tail (.tail (.tail (.tail .head)))))) | exact (.tail (.tail (.tail (.tail (.tail (.tail (.tail .head))))))) | exact (.tail (.tail (.tail (.tail (.tail (.tail (.tail (.tail .head))))))))) (by kernel_rfl) rfl ?_)
  refine CondP.mk' (fun hb => ?_) (fun hb => ?_)
  · repeat (first | refine val_nil ?_ | refine get_ld h rfl (by first | exact .head | exact (.tail .head) | exact (.tail (.tail .head)) | exact (.tail (.tail (.tail .head))) | exact (.tail (.tail (.tail (.tail .head)))) | exact (.tail (.tail (.tail (.tail (.tail .head))))) | exact (.tail (.tail (.tail (.tail (.tail (.tail .head)))))) | exact (.tail (.tail (.tail (.tail (.tail (.tail (.tail .head))))))) | exact (.tail (.tail (.tail (.tail (.tail (.tail (.tail (.tail .head))))))))) (by kernel_rfl) rfl ?_ | (refine do_st h rfl (by first | exact .head | exact (.tail .head) | exact (.tail (.tail .head)) | exact (.tail (.tail (.tail .head))) | exact (.tail (.tail (.tail (.tail .head)))) | exact (.tail (.tail (.tail (.tail (.tail .head))))) | exact (.tail (.tail (.tail (.tail (.tail (.tail .head)))))) | exact (.tail (.tail (.tail (.tail (.tail (.tail (.tail .head))))))) | exact (.tail (.tail (.tail (.tail (.tail (.tail (.tail (.tail .head))))))))) (by kernel_rfl) rfl rfl ?_; intro w h) | (refine DrewP.go h ?_; intro w h) | (refine AnyP.go ?_; intro _) | refine chk_ld h rfl (by first | exact .head | exact (.tail .head) | exact (.tail (.tail .head)) | exact (.tail (.tail (.tail .head))) | exact (.tail (.tail (.tail (.tail .head)))) | exact (.tail (.tail (.tail (.tail (.tail .head))))) | exact (.tail (.tail (.tail (.tail (.tail (.tail .head)))))) | exact (.tail (.tail (.tail (.tail (.tail (.tail (.tail .head))))))) | exact (.tail (.tail (.tail (.tail (.tail (.tail (.tail (.tail .head))))))))) (by kernel_rfl) rfl ?_)
    refine get_ld h rfl (by first | exact .head | exact (.tail .head) | exact (.tail (.tail .head)) | exact (.tail (.tail (.tail .head))) | exact (.tail (.tail (.tail (.tail .head)))) | exact (.tail (.tail (.tail (.tail (.tail .head))))) | exact (.tail (.tail (.tail (.tail (.tail (.tail .head)))))) | exact (.tail (.tail (.tail (.tail (.tail (.tail (.tail .head))))))) | exact (.tail (.tail (.tail (.tail (.tail (.tail (.tail (.tail .head))))))))) (by kernel_rfl) (x := some r) (by rw [hc]; rfl) ?_
    repeat (first | refine val_nil ?_ | refine get_ld h rfl (by first | exact .head | exact (.tail .head) | exact (.tail (.tail .head)) | exact (.tail (.tail (.tail .head))) | exact (.tail (.tail (.tail (.tail .head)))) | exact (.tail (.tail (.tail (.tail (.tail .head))))) | exact (.tail (.tail (.tail (.tail (.tail (.tail .head)))))) | exact (.tail (.tail (.tail (.tail (.tail (.tail (.tail .head))))))) | exact (.tail (.tail (.tail (.tail (.tail (.tail (.tail (.tail .head))))))))) (by kernel_rfl) rfl ?_ | (refine do_st h rfl (by first | exact .head | exact (.tail .head) | exact (.tail (.tail .head)) | exact (.tail (.tail (.tail .head))) | exact (.tail (.tail (.tail (.tail .head)))) | exact (.tail (.tail (.tail (.tail (.tail .head))))) | exact (.tail (.tail (.tail (.tail (.tail (.tail .head)))))) | exact (.tail (.tail (.tail (.tail (.tail (.tail (.tail .head))))))) | exact (.tail (.tail (.tail (.tail (.tail (.tail (.tail (.tail .head))))))))) (by kernel_rfl) rfl rfl ?_; intro w h) | (refine DrewP.go h ?_; intro w h) | (refine AnyP.go ?_; intro _) | refine chk_ld h rfl (by first | exact .head | exact (.tail .head) | exact (.tail (.tail .head)) | exact (.tail (.tail (.tail .head))) | exact (.tail (.tail (.tail (.tail .head)))) | exact (.tail (.tail (.tail (.tail (.tail .head))))) | exact (.tail (.tail (.tail (.tail (.tail (.tail .head)))))) | exact (.tail (.tail (.tail (.tail (.tail (.tail (.tail .head))))))) | exact (.tail (.tail (.tail (.tail (.tail (.tail (.tail (.tail .head))))))))) (by kernel_rfl) rfl ?_)
    refine do_delete (V := 9) (kl := .int .i64) (vl := .leaf .str) (x := x.1) (by kernel_rfl) kInt h (by first | exact .head | exact (.tail .head) | exact (.tail (.tail .head)) | exact (.tail (.tail (.tail .head))) | exact (.tail (.tail (.tail (.tail .head)))) | exact (.tail (.tail (.tail (.tail (.tail .head))))) | exact (.tail (.tail (.tail (.tail (.tail (.tail .head)))))) | exact (.tail (.tail (.tail (.tail (.tail (.tail (.tail .head))))))) | exact (.tail (.tail (.tail (.tail (.tail (.tail (.tail (.tail .head))))))))) fun w h => ?_
    refine hk _ (h.sub ?_)
    rw [layM, if_pos hb]
    exact (by repeat (first | exact Sub.done | refine Sub.take (by first | exact .head | exact (.tail .head) | exact (.tail (.tail .head)) | exact (.tail (.tail (.tail .head))) | exact (.tail (.tail (.tail (.tail .head)))) | exact (.tail (.tail (.tail (.tail (.tail .head))))) | exact (.tail (.tail (.tail (.tail (.tail (.tail .head)))))) | exact (.tail (.tail (.tail (.tail (.tail (.tail (.tail .head))))))) | exact (.tail (.tail (.tail (.tail (.tail (.tail (.tail (.tail .head))))))))) ?_ | refine Sub.skip ?_))
  · repeat (first | refine val_nil ?_ | refine get_ld h rfl (by first | exact .head | exact (.tail .head) | exact (.tail (.tail .head)) | exact (.tail (.tail (.tail .head))) | exact (.tail (.tail (.tail (.tail .head)))) | exact (.tail (.tail (.tail (.tail (.tail .head))))) | exact (.tail (.tail (.tail (.tail (.tail (.tail .head)))))) | exact (.tail (.tail (.tail (.tail (.tail (.tail (.tail .head))))))) | exact (.tail (.tail (.tail (.tail (.tail (.tail (.tail (.tail .head))))))))) (by kernel_rfl) rfl ?_ | (refine do_st h rfl (by first | exact .head | exact (.tail .head) | exact (.tail (.tail .head)) | exact (.tail (.tail (.tail .head))) | exact (.tail (.tail (.tail (.tail .head)))) | exact (.tail (.tail (.tail (.tail (.tail .head))))) | exact (.tail (.tail (.tail (.tail (.tail (.tail .head)))))) | exact (.tail (.tail (.tail (.tail (.tail (.tail (.tail .head))))))) | exact (.tail (.tail (.tail (.tail (.tail (.tail (.tail (.tail .head))))))))) (by kernel_rfl) rfl rfl ?_; intro w h) | (refine DrewP.go h ?_; intro w h) | (refine AnyP.go ?_; intro _) | refine chk_ld h rfl (by first | exact .head | exact (.tail .head) | exact (.tail (.tail .head)) | exact (.tail (.tail (.tail .head))) | exact (.tail (.tail (.tail (.tail .head)))) | exact (.tail (.tail (.tail (.tail (.tail .head))))) | exact (.tail (.tail (.tail (.tail (.tail (.tail .head)))))) | exact (.tail (.tail (.tail (.tail (.tail (.tail (.tail .head))))))) | exact (.tail (.tail (.tail (.tail (.tail (.tail (.tail (.tail .head))))))))) (by kernel_rfl) rfl ?_)
    refine get_ld h rfl (by first | exact .head | exact (.tail .head) | exact (.tail (.tail .head)) | exact (.tail (.tail (.tail .head))) | exact (.tail (.tail (.tail (.tail .head)))) | exact (.tail (.tail (.tail (.tail (.tail .head))))) | exact (.tail (.tail (.tail (.tail (.tail (.tail .head)))))) | exact (.tail (.tail (.tail (.tail (.tail (.tail (.tail .head))))))) | exact (.tail (.tail (.tail (.tail (.tail (.tail (.tail (.tail .head))))))))) (by kernel_rfl) (x := some r) (by rw [hc]; rfl) ?_
    repeat (first | refine val_nil ?_ | refine get_ld h rfl (by first | exact .head | exact (.tail .head) | exact (.tail (.tail .head)) | exact (.tail (.tail (.tail .head))) | exact (.tail (.tail (.tail (.tail .head)))) | exact (.tail (.tail (.tail (.tail (.tail .head))))) | exact (.tail (.tail (.tail (.tail (.tail (.tail .head)))))) | exact (.tail (.tail (.tail (.tail (.tail (.tail (.tail .head))))))) | exact (.tail (.tail (.tail (.tail (.tail (.tail (.tail (.tail .head))))))))) (by kernel_rfl) rfl ?_ | (refine do_st h rfl (by first | exact .head | exact (.tail .head) | exact (.tail (.tail .head)) | exact (.tail (.tail (.tail .head))) | exact (.tail (.tail (.tail (.tail .head)))) | exact (.tail (.tail (.tail (.tail (.tail .head))))) | exact (.tail (.tail (.tail (.tail (.tail (.tail .head)))))) | exact (.tail (.tail (.tail (.tail (.tail (.tail (.tail .head))))))) | exact (.tail (.tail (.tail (.tail (.tail (.tail (.tail (.tail .head))))))))) (by kernel_rfl) rfl rfl ?_; intro w h) | (refine DrewP.go h ?_; intro w h) | (refine AnyP.go ?_; intro _) | refine chk_ld h rfl (by first | exact .head | exact (.tail .head) | exact (.tail (.tail .head)) | exact (.tail (.tail (.tail .head))) | exact (.tail (.tail (.tail (.tail .head)))) | exact (.tail (.tail (.tail (.tail (.tail .head))))) | exact (.tail (.tail (.tail (.tail (.tail (.tail .head)))))) | exact (.tail (.tail (.tail (.tail (.tail (.tail (.tail .head))))))) | exact (.tail (.tail (.tail (.tail (.tail (.tail (.tail (.tail .head))))))))) (by kernel_rfl) rfl ?_)
    refine do_mapUpdate (K := 3) (V := 9) (kl := .int .i64) (vl := .leaf .str) (x := x.1) (v := x.2) (by kernel_rfl) kInt h (by first | exact .head | exact (.tail .head) | exact (.tail (.tail .head)) | exact (.tail (.tail (.tail .head))) | exact (.tail (.tail (.tail (.tail .head)))) | exact (.tail (.tail (.tail (.tail (.tail .head))))) | exact (.tail (.tail (.tail (.tail (.tail (.tail .head)))))) | exact (.tail (.tail (.tail (.tail (.tail (.tail (.tail .head))))))) | exact (.tail (.tail (.tail (.tail (.tail (.tail (.tail (.tail .head))))))))) fun w h => ?_
    refine hk _ (h.sub ?_)
    rw [layM, if_neg (by rw [hb]; exact Bool.false_ne_true)]
    exact (by repeat (first | exact Sub.done | refine Sub.take (by first | exact .head | exact (.tail .head) | exact (.tail (.tail .head)) | exact (.tail (.tail (.tail .head))) | exact (.tail (.tail (.tail (.tail .head)))) | exact (.tail (.tail (.tail (.tail (.tail .head))))) | exact (.tail (.tail (.tail (.tail (.tail (.tail .head)))))) | exact (.tail (.tail (.tail (.tail (.tail (.tail (.tail .head))))))) | exact (.tail (.tail (.tail (.tail (.tail (.tail (.tail (.tail .head))))))))) ?_ | refine Sub.skip ?_))

theorem flush_inv (m : MS) (l : List (Int × ByteArray)) (i : Nat) (h : i < l.length) : (l.take (i + 1)).foldl layM m = layM ((l.take i).foldl layM m) l[i] := by
  rw [List.take_succ_eq_append_getElem h, List.foldl_append]; rfl

def fl (D : DSt) : Int × DSt :=
  if D.fused && D.left == 0 then (6, D) else
  (0, { D with left := IntKind.i64.wrap (D.left - 1), m := D.cache.foldl layM D.m, cache := [], flushes := IntKind.i64.wrap (D.flushes + 1) })

/-- a write of the cache, read by its number -/
theorem get_wrote {E w : World} {L : List HProp} {s : Sl} {l : List (Int × ByteArray)} {i : Nat} {a0 : Addr} {k : cellsDen [.int .i64, .str] → Pr} (h : Holds E w (ownS 64 2 s (l.flatMap encW) :: L)) (hi : i < l.length) (ha : s.a = some a0)
    (hk : k (l[i].1, l[i].2, ()) w) : GetP Try.prog (vN (Instr.loadAt 64 (.pointer (some (a0.add (i * 2)))))) (.one (.agg [.int .i64, .str])) k w := by
  refine get_el_agg (P := Try.prog) (l[i].1, l[i].2, ()) h.reads_own ha rfl (by kernel_rfl) (by kernel_rfl) (fun j hj => ?_) hk
  have hj : j < 2 := hj
  rw [flat_get encW 2 encW_len l i j hj, List.getElem?_eq_getElem hi]
  rfl

theorem own_addr {E w : World} {L : List HProp} {s : Sl} {l : List (Int × ByteArray)} {i : Nat} (h : Holds E w (ownS 64 2 s (l.flatMap encW) :: L)) (hi : i < l.length) : ∃ a0, s.a = some a0 := by
  obtain ⟨b, off, ha⟩ := h.reads_own.addr (by intro he; have := flat_len encW 2 encW_len l; rw [he] at this; simp at this; omega)
  exact ⟨_, ha⟩

theorem wrap_in (n : Int) (h : -9223372036854775808 ≤ n ∧ n ≤ 9223372036854775807) : IntKind.i64.wrap n = n := IntWalk.i64_in n h

theorem Flush_spec {E w : World} {L : List HProp} {d : Nat} {D : DSt} {k : Int → Pr} (h : Holds E w (Disk d D :: L)) (hn : 0 < D.n) (hcl : D.cache.length ≤ 1073741824)
    (hk : ∀ w', Holds E w' (Disk d (fl D).2 :: L) → k (fl D).1 w') : CallP Try.prog 11 #[.pointer (some ⟨d, 0, none⟩)] tInt k w := by
  obtain ⟨r, c, h⟩ := Disk.opened h
  refine rd11 _ _ _ ?_
  unfold sh11
  refine Len_spec h .head rfl ?_
  have hne : D.n ≠ 0 := by omega
  refine CondP.no (beq_eq_false_iff_ne.2 hne) ?_
  refine burnt_spec h .head (f := D.fused) (n := D.left) rfl rfl ?_
  refine CondP.mk' (fun h2 => ?_) (fun h2 => ?_)
  · have e : fl D = (6, D) := by rw [fl, if_pos h2]
    rw [e] at hk
    exact hk _ (Disk.closed h)
  · have e : fl D = (0, { D with left := IntKind.i64.wrap (D.left - 1), m := D.cache.foldl layM D.m, cache := [], flushes := IntKind.i64.wrap (D.flushes + 1) }) := by
      rw [fl, if_neg (by rw [h2]; exact Bool.false_ne_true)]
    rw [e] at hk
    repeat (first | refine val_nil ?_ | refine get_ld h rfl (by first | exact .head | exact (.tail .head) | exact (.tail (.tail .head)) | exact (.tail (.tail (.tail .head))) | exact (.tail (.tail (.tail (.tail .head)))) | exact (.tail (.tail (.tail (.tail (.tail .head))))) | exact (.tail (.tail (.tail (.tail (.tail (.tail .head)))))) | exact (.tail (.tail (.tail (.tail (.tail (.tail (.tail .head))))))) | exact (.tail (.tail (.tail (.tail (.tail (.tail (.tail (.tail .head))))))))) (by kernel_rfl) rfl ?_ | (refine do_st h rfl (by first | exact .head | exact (.tail .head) | exact (.tail (.tail .head)) | exact (.tail (.tail (.tail .head))) | exact (.tail (.tail (.tail (.tail .head)))) | exact (.tail (.tail (.tail (.tail (.tail .head))))) | exact (.tail (.tail (.tail (.tail (.tail (.tail .head)))))) | exact (.tail (.tail (.tail (.tail (.tail (.tail (.tail .head))))))) | exact (.tail (.tail (.tail (.tail (.tail (.tail (.tail (.tail .head))))))))) (by kernel_rfl) rfl rfl ?_; intro w h) | (refine DrewP.go h ?_; intro w h) | (refine AnyP.go ?_; intro _) | refine chk_ld h rfl (by first | exact .head | exact (.tail .head) | exact (.tail (.tail .head)) | exact (.tail (.tail (.tail .head))) | exact (.tail (.tail (.tail (.tail .head)))) | exact (.tail (.tail (.tail (.tail (.tail .head))))) | exact (.tail (.tail (.tail (.tail (.tail (.tail .head)))))) | exact (.tail (.tail (.tail (.tail (.tail (.tail (.tail .head))))))) | exact (.tail (.tail (.tail (.tail (.tail (.tail (.tail (.tail .head))))))))) (by kernel_rfl) rfl ?_)
    have hlen := (h.pick (.tail (.tail .head))).own_len
    rw [flat_len encW 2 encW_len] at hlen
    have hc2 : c.len = D.cache.length := by omega
    refine LoopP.inv (fun s w => ∃ i : Nat, s = i ∧ i ≤ D.cache.length ∧ Holds E w (pto d (.cells ((dcells D r c).setIfInBounds 6 (.int .i64 (IntKind.i64.wrap (D.left - 1)))) 47 (0, 0)) :: mapI r ((D.cache.take i).foldl layM D.m) :: ownS 64 2 c (D.cache.flatMap encW) :: L))
      (fun s _ => D.cache.length - s.toNat) ⟨0, rfl, Nat.zero_le _, h⟩ ?_
    rintro next s w ⟨i, rfl, hi, h⟩ hnext
    refine AnyP.go fun _ => CondP.mk' (fun h1 => ?_) (fun h1 => ?_)
    · have h1 : i < D.cache.length := by have := cT h1; simp only [hc2] at this; omega
      have hO := h.sub (M := ownS 64 2 c (D.cache.flatMap encW) :: _) (by repeat (first | exact Sub.done | refine Sub.take (by first | exact .head | exact (.tail .head) | exact (.tail (.tail .head)) | exact (.tail (.tail (.tail .head))) | exact (.tail (.tail (.tail (.tail .head)))) | exact (.tail (.tail (.tail (.tail (.tail .head))))) | exact (.tail (.tail (.tail (.tail (.tail (.tail .head)))))) | exact (.tail (.tail (.tail (.tail (.tail (.tail (.tail .head))))))) | exact (.tail (.tail (.tail (.tail (.tail (.tail (.tail (.tail .head))))))))) ?_ | refine Sub.skip ?_))
      obtain ⟨a0, ha⟩ := own_addr hO h1
      refine val_index (Te := 64) (sz := 2) (a := a0) (by kernel_rfl) (by kernel_rfl) ha (by omega) (by simp only [hc2]; omega) ?_
      refine get_wrote hO h1 ha ?_
      refine do_alloc (z := .agg #[.int .i64 0, .string ⟨#[]⟩]) h (by kernel_rfl) fun b w h => ?_
      refine do_st_all h rfl .head (by kernel_rfl) rfl rfl (by intro v hv; simp at hv; rcases hv with rfl | rfl <;> rfl) fun w h => ?_
      refine get_agg (D.cache[i].1, D.cache[i].2, ()) (h.pick .head).own (by kernel_rfl) (by kernel_rfl) rfl (fun j hj => ?_) ?_
      · have hj : j < 2 := hj
        match j, hj with
        | 0, _ => rfl
        | 1, _ => rfl
      refine lay_spec (x := (D.cache[i].1, D.cache[i].2)) (h.sub (M := pto d _ :: mapI r _ :: _) (by repeat (first | exact Sub.done | refine Sub.take (by first | exact .head | exact (.tail .head) | exact (.tail (.tail .head)) | exact (.tail (.tail (.tail .head))) | exact (.tail (.tail (.tail (.tail .head)))) | exact (.tail (.tail (.tail (.tail (.tail .head))))) | exact (.tail (.tail (.tail (.tail (.tail (.tail .head)))))) | exact (.tail (.tail (.tail (.tail (.tail (.tail (.tail .head))))))) | exact (.tail (.tail (.tail (.tail (.tail (.tail (.tail (.tail .head))))))))) ?_ | refine Sub.skip ?_))) rfl fun w h => ?_
      rw [wrap_in _ (by omega)]
      refine hnext _ _ ⟨i + 1, by omega, h1, h.sub ?_⟩ (by omega)
      rw [flush_inv _ _ _ h1]
      exact (by repeat (first | exact Sub.done | refine Sub.take (by first | exact .head | exact (.tail .head) | exact (.tail (.tail .head)) | exact (.tail (.tail (.tail .head))) | exact (.tail (.tail (.tail (.tail .head)))) | exact (.tail (.tail (.tail (.tail (.tail .head))))) | exact (.tail (.tail (.tail (.tail (.tail (.tail .head)))))) | exact (.tail (.tail (.tail (.tail (.tail (.tail (.tail .head))))))) | exact (.tail (.tail (.tail (.tail (.tail (.tail (.tail (.tail .head))))))))) ?_ | refine Sub.skip ?_))
    · have h1 : i = D.cache.length := by have := cF h1; simp only [hc2] at this; omega
      subst h1
      rw [List.take_length] at h
      repeat (first | refine val_nil ?_ | refine get_ld h rfl (by first | exact .head | exact (.tail .head) | exact (.tail (.tail .head)) | exact (.tail (.tail (.tail .head))) | exact (.tail (.tail (.tail (.tail .head)))) | exact (.tail (.tail (.tail (.tail (.tail .head))))) | exact (.tail (.tail (.tail (.tail (.tail (.tail .head)))))) | exact (.tail (.tail (.tail (.tail (.tail (.tail (.tail .head))))))) | exact (.tail (.tail (.tail (.tail (.tail (.tail (.tail (.tail .head))))))))) (by kernel_rfl) rfl ?_ | (refine do_st h rfl (by first | exact .head | exact (.tail .head) | exact (.tail (.tail .head)) | exact (.tail (.tail (.tail .head))) | exact (.tail (.tail (.tail (.tail .head)))) | exact (.tail (.tail (.tail (.tail (.tail .head))))) | exact (.tail (.tail (.tail (.tail (.tail (.tail .head)))))) | exact (.tail (.tail (.tail (.tail (.tail (.tail (.tail .head))))))) | exact (.tail (.tail (.tail (.tail (.tail (.tail (.tail (.tail .head))))))))) (by kernel_rfl) rfl rfl ?_; intro w h) | (refine DrewP.go h ?_; intro w h) | (refine AnyP.go ?_; intro _) | refine chk_ld h rfl (by first | exact .head | exact (.tail .head) | exact (.tail (.tail .head)) | exact (.tail (.tail (.tail .head))) | exact (.tail (.tail (.tail (.tail .head)))) | exact (.tail (.tail (.tail (.tail (.tail .head))))) | exact (.tail (.tail (.tail (.tail (.tail (.tail .head)))))) | exact (.tail (.tail (.tail (.tail (.tail (.tail (.tail .head))))))) | exact (.tail (.tail (.tail (.tail (.tail (.tail (.tail (.tail .head))))))))) (by kernel_rfl) rfl ?_)
      refine hk _ (Disk.closed (r := r) (c := ⟨none, 0, 0⟩) ((h.sub (M := pto d _ :: mapI r (D.cache.foldl layM D.m) :: L) (by repeat (first | exact Sub.done | refine Sub.take (by first | exact .head | exact (.tail .head) | exact (.tail (.tail .head)) | exact (.tail (.tail (.tail .head))) | exact (.tail (.tail (.tail (.tail .head)))) | exact (.tail (.tail (.tail (.tail (.tail .head))))) | exact (.tail (.tail (.tail (.tail (.tail (.tail .head)))))) | exact (.tail (.tail (.tail (.tail (.tail (.tail (.tail .head))))))) | exact (.tail (.tail (.tail (.tail (.tail (.tail (.tail (.tail .head))))))))) ?_ | refine Sub.skip ?_))).own_nil (T := 64) (sz := 2) |>.sub ?_))
      exact (by repeat (first | exact Sub.done | refine Sub.take (by first | exact .head | exact (.tail .head) | exact (.tail (.tail .head)) | exact (.tail (.tail (.tail .head))) | exact (.tail (.tail (.tail (.tail .head)))) | exact (.tail (.tail (.tail (.tail (.tail .head))))) | exact (.tail (.tail (.tail (.tail (.tail (.tail .head)))))) | exact (.tail (.tail (.tail (.tail (.tail (.tail (.tail .head))))))) | exact (.tail (.tail (.tail (.tail (.tail (.tail (.tail (.tail .head))))))))) ?_ | refine Sub.skip ?_))


theorem elemI : ElemT Try.prog 3 1 8 := ⟨(by kernel_rfl), (by kernel_rfl), (by kernel_rfl)⟩
def ints (l : List (Int × ByteArray)) : List Value := l.map fun c => .int .i64 c.1

theorem Dirty_spec {E w : World} {L : List HProp} {d : Nat} {D : DSt} {k : Sl → Pr} (h : Holds E w (Disk d D :: L)) (hn : 0 < D.n) (hcl : D.cache.length ≤ 1073741824)
    (hk : ∀ s w', Holds E w' (ownS 3 1 s (ints D.cache) :: Disk d D :: L) → k s w') : CallP Try.prog 12 #[.pointer (some ⟨d, 0, none⟩)] tSl k w := by
  obtain ⟨r, c, h⟩ := Disk.opened h
  refine rd12 _ _ _ ?_
  unfold sh12
  refine Len_spec h .head rfl ?_
  have hne : D.n ≠ 0 := by omega
  refine CondP.no (beq_eq_false_iff_ne.2 hne) ?_
  repeat (first | refine val_nil ?_ | refine get_ld h rfl (by first | exact .head | exact (.tail .head) | exact (.tail (.tail .head)) | exact (.tail (.tail (.tail .head))) | exact (.tail (.tail (.tail (.tail .head)))) | exact (.tail (.tail (.tail (.tail (.tail .head))))) | exact (.tail (.tail (.tail (.tail (.tail (.tail .head)))))) | exact (.tail (.tail (.tail (.tail (.tail (.tail (.tail .head))))))) | exact (.tail (.tail (.tail (.tail (.tail (.tail (.tail (.tail .head))))))))) (by kernel_rfl) rfl ?_ | (refine do_st h rfl (by first | exact .head | exact (.tail .head) | exact (.tail (.tail .head)) | exact (.tail (.tail (.tail .head))) | exact (.tail (.tail (.tail (.tail .head)))) | exact (.tail (.tail (.tail (.tail (.tail .head))))) | exact (.tail (.tail (.tail (.tail (.tail (.tail .head)))))) | exact (.tail (.tail (.tail (.tail (.tail (.tail (.tail .head))))))) | exact (.tail (.tail (.tail (.tail (.tail (.tail (.tail (.tail .head))))))))) (by kernel_rfl) rfl rfl ?_; intro w h) | (refine DrewP.go h ?_; intro w h) | (refine AnyP.go ?_; intro _) | refine chk_ld h rfl (by first | exact .head | exact (.tail .head) | exact (.tail (.tail .head)) | exact (.tail (.tail (.tail .head))) | exact (.tail (.tail (.tail (.tail .head)))) | exact (.tail (.tail (.tail (.tail (.tail .head))))) | exact (.tail (.tail (.tail (.tail (.tail (.tail .head)))))) | exact (.tail (.tail (.tail (.tail (.tail (.tail (.tail .head))))))) | exact (.tail (.tail (.tail (.tail (.tail (.tail (.tail (.tail .head))))))))) (by kernel_rfl) rfl ?_)
  have hlen := (h.pick (.tail (.tail .head))).own_len
  rw [flat_len encW 2 encW_len] at hlen
  have hc2 : c.len = D.cache.length := by omega
  refine LoopP.inv (fun s w => ∃ i : Nat, s.2 = i ∧ i ≤ D.cache.length ∧ Holds E w (ownS 3 1 s.1 (ints (D.cache.take i)) :: pto d (.cells (dcells D r c) 47 (0, 0)) :: mapI r D.m :: ownS 64 2 c (D.cache.flatMap encW) :: L))
    (fun s _ => D.cache.length - s.2.toNat) ⟨0, rfl, Nat.zero_le _, h.own_nil⟩ ?_
  rintro next ⟨s1, s2⟩ w ⟨i, hs2, hi, h⟩ hnext
  simp only at hs2 h
  subst hs2
  refine AnyP.go fun _ => CondP.mk' (fun h1 => ?_) (fun h1 => ?_)
  · have h1 : i < D.cache.length := by have := cT h1; simp only [hc2] at this; omega
    have hO := h.sub (M := ownS 64 2 c (D.cache.flatMap encW) :: _) (by repeat (first | exact Sub.done | refine Sub.take (by first | exact .head | exact (.tail .head) | exact (.tail (.tail .head)) | exact (.tail (.tail (.tail .head))) | exact (.tail (.tail (.tail (.tail .head)))) | exact (.tail (.tail (.tail (.tail (.tail .head))))) | exact (.tail (.tail (.tail (.tail (.tail (.tail .head)))))) | exact (.tail (.tail (.tail (.tail (.tail (.tail (.tail .head))))))) | exact (.tail (.tail (.tail (.tail (.tail (.tail (.tail (.tail .head))))))))) ?_ | refine Sub.skip ?_))
    obtain ⟨a0, ha⟩ := own_addr hO h1
    refine val_index (Te := 64) (sz := 2) (a := a0) (by kernel_rfl) (by kernel_rfl) ha (by omega) (by simp only [hc2]; omega) ?_
    refine get_wrote hO h1 ha ?_
    refine do_alloc (z := .agg #[.int .i64 0, .string ⟨#[]⟩]) h (by kernel_rfl) fun b w h => ?_
    refine do_st_all h rfl .head (by kernel_rfl) rfl rfl (by intro v hv; simp at hv; rcases hv with rfl | rfl <;> rfl) fun w h => ?_
    refine get_ld h rfl .head (by kernel_rfl) (x := D.cache[i].1) rfl ?_
    refine do_build (Te := 3) (sz := 1) [.int .i64 D.cache[i].1] h (by kernel_rfl) rfl fun t w ht h => ?_
    have hl1 := (h.sub (M := ownS 3 1 s1 (ints (D.cache.take i)) :: L) (by repeat (first | exact Sub.done | refine Sub.take (by first | exact .head | exact (.tail .head) | exact (.tail (.tail .head)) | exact (.tail (.tail (.tail .head))) | exact (.tail (.tail (.tail (.tail .head)))) | exact (.tail (.tail (.tail (.tail (.tail .head))))) | exact (.tail (.tail (.tail (.tail (.tail (.tail .head)))))) | exact (.tail (.tail (.tail (.tail (.tail (.tail (.tail .head))))))) | exact (.tail (.tail (.tail (.tail (.tail (.tail (.tail (.tail .head))))))))) ?_ | refine Sub.skip ?_))).own_len
    have hl2 : s1.len = i := by
      have := hl1.1
      simp only [ints, List.length_map, List.length_take, Nat.mul_one] at this
      omega
    refine do_append (s := s1) (cs := ints (D.cache.take i)) (Te2 := 3) h (by first | exact .head | exact (.tail .head) | exact (.tail (.tail .head)) | exact (.tail (.tail (.tail .head))) | exact (.tail (.tail (.tail (.tail .head)))) | exact (.tail (.tail (.tail (.tail (.tail .head))))) | exact (.tail (.tail (.tail (.tail (.tail (.tail .head)))))) | exact (.tail (.tail (.tail (.tail (.tail (.tail (.tail .head))))))) | exact (.tail (.tail (.tail (.tail (.tail (.tail (.tail (.tail .head))))))))) (by kernel_rfl) (by kernel_rfl) elemI h.reads_own (by intro v hv; simp at hv; subst hv; rfl) (by rw [ht, hl2]; omega) (by rw [ht, hl2]; omega) fun s' w hs' h => ?_
    rw [wrap_in _ (by omega)]
    refine hnext _ _ ⟨i + 1, by simp, h1, h.sub ?_⟩ (by simp; omega)
    have e : ints (D.cache.take (i + 1)) = ints (D.cache.take i) ++ [.int .i64 D.cache[i].1] := by
      unfold ints; rw [List.take_succ_eq_append_getElem h1, List.map_append]; rfl
    rw [e]
    exact (by repeat (first | exact Sub.done | refine Sub.take (by first | exact .head | exact (.tail .head) | exact (.tail (.tail .head)) | exact (.tail (.tail (.tail .head))) | exact (.tail (.tail (.tail (.tail .head)))) | exact (.tail (.tail (.tail (.tail (.tail .head))))) | exact (.tail (.tail (.tail (.tail (.tail (.tail .head)))))) | exact (.tail (.tail (.tail (.tail (.tail (.tail (.tail .head))))))) | exact (.tail (.tail (.tail (.tail (.tail (.tail (.tail (.tail .head))))))))) ?_ | refine Sub.skip ?_))
  · have h1 : i = D.cache.length := by have := cF h1; simp only [hc2] at this; omega
    subst h1
    rw [List.take_length] at h
    refine hk _ _ ?_
    have h2 := h.sub (M := pto d (.cells (dcells D r c) 47 (0, 0)) :: mapI r D.m :: ownS 64 2 c (D.cache.flatMap encW) :: ownS 3 1 s1 (ints D.cache) :: L) (by repeat (first | exact Sub.done | refine Sub.take (by first | exact .head | exact (.tail .head) | exact (.tail (.tail .head)) | exact (.tail (.tail (.tail .head))) | exact (.tail (.tail (.tail (.tail .head)))) | exact (.tail (.tail (.tail (.tail (.tail .head))))) | exact (.tail (.tail (.tail (.tail (.tail (.tail .head)))))) | exact (.tail (.tail (.tail (.tail (.tail (.tail (.tail .head))))))) | exact (.tail (.tail (.tail (.tail (.tail (.tail (.tail (.tail .head))))))))) ?_ | refine Sub.skip ?_))
    exact (Disk.closed h2).swap

theorem New_spec {E w : World} {L : List HProp} {n : Int} {k : (Option Addr × Int × Unit) → Pr} (h : Holds E w L) (hbad : (n < 1 ∨ 4096 < n) → k (none, 1, ()) w)
    (hk : 1 ≤ n → n ≤ 4096 → ∀ d w', Holds E w' (Disk d { n := n, m := ([], 0), cache := [], writes := 0, flushes := 0, fused := false, left := 0 } :: L) → k (some ⟨d, 0, none⟩, 0, ()) w') :
    CallP Try.prog 8 #[.int .i64 n] (.tup [.leaf .ptr, .leaf (.int .i64)]) k w := by
  refine rd8 _ _ _ ?_
  unfold sh8
  refine JoinP.go (CondP.mk' (fun hb => ?_) (fun hb => ?_))
  · exact AnyP.go fun _ => CondP.yes rfl (hbad (.inl (cT hb)))
  · refine AnyP.go fun _ => CondP.mk' (fun h1 => hbad (.inr (cT h1))) (fun h1 => ?_)
    refine do_makeMap h fun r w h => ?_
    refine do_box h fun d w h => ?_
    have h1 := cF h1; have hb := cF hb
    refine hk (by omega) (by omega) d _ (Disk.closed (r := r) (c := ⟨none, 0, 0⟩) (h.own_nil (T := 64) (sz := 2) |>.sub ?_))
    unfold mapI
    refine Sub.take (.tail .head) (Sub.take (L1 := ownS 64 2 ⟨none, 0, 0⟩ [] :: L) ?_ ?_)
    · unfold mapB; exact .tail .head
    · exact .done

def lastW : List (Int × ByteArray) → Int → Option ByteArray
  | [], _ => none
  | c :: cs, x => match lastW cs x with
    | some s => some s
    | none => if c.1 = x then some c.2 else none
theorem lastW_append (x : Int) (b : List (Int × ByteArray)) : ∀ a : List (Int × ByteArray), lastW (a ++ b) x = (lastW b x).or (lastW a x)
  | [] => by simp [lastW]
  | c :: a => by
    simp only [List.cons_append, lastW, lastW_append x b a]
    cases lastW b x <;> simp
def rdD (D : DSt) (x : Int) : ByteArray := (lastW D.cache x).getD ((mlook eqInt x D.m.1).getD zeros)

theorem Read_spec {E w : World} {L : List HProp} {d : Nat} {D : DSt} {x : Int} {k : (ByteArray × Int × Unit) → Pr} (h : Holds E w (Disk d D :: L)) (hn : 0 < D.n) (hcl : D.cache.length ≤ 1073741824)
    (hk : ∀ w', Holds E w' (Disk d D :: L) → k (if rightM D.n x ≠ 0 then (⟨#[]⟩, rightM D.n x, ()) else (rdD D x, 0, ())) w') :
    CallP Try.prog 14 #[.pointer (some ⟨d, 0, none⟩), .int .i64 x] (.tup [.leaf .str, .leaf (.int .i64)]) k w := by
  obtain ⟨r, c, h⟩ := Disk.opened h
  refine rd14 _ _ _ _ ?_
  unfold sh14
  refine right_spec h .head rfl hn ?_
  refine CondP.mk' (fun hb => ?_) (fun hb => ?_)
  · have hb := neT hb
    rw [if_pos hb] at hk
    exact hk _ (Disk.closed h)
  · have hb := neF hb
    rw [if_neg (fun hh => hh hb)] at hk
    repeat (first | refine val_nil ?_ | refine get_ld h rfl (by first | exact .head | exact (.tail .head) | exact (.tail (.tail .head)) | exact (.tail (.tail (.tail .head))) | exact (.tail (.tail (.tail (.tail .head)))) | exact (.tail (.tail (.tail (.tail (.tail .head))))) | exact (.tail (.tail (.tail (.tail (.tail (.tail .head)))))) | exact (.tail (.tail (.tail (.tail (.tail (.tail (.tail .head))))))) | exact (.tail (.tail (.tail (.tail (.tail (.tail (.tail (.tail .head))))))))) (by kernel_rfl) rfl ?_ | (refine do_st h rfl (by first | exact .head | exact (.tail .head) | exact (.tail (.tail .head)) | exact (.tail (.tail (.tail .head))) | exact (.tail (.tail (.tail (.tail .head)))) | exact (.tail (.tail (.tail (.tail (.tail .head))))) | exact (.tail (.tail (.tail (.tail (.tail (.tail .head)))))) | exact (.tail (.tail (.tail (.tail (.tail (.tail (.tail .head))))))) | exact (.tail (.tail (.tail (.tail (.tail (.tail (.tail (.tail .head))))))))) (by kernel_rfl) rfl rfl ?_; intro w h) | (refine DrewP.go h ?_; intro w h) | (refine AnyP.go ?_; intro _) | refine chk_ld h rfl (by first | exact .head | exact (.tail .head) | exact (.tail (.tail .head)) | exact (.tail (.tail (.tail .head))) | exact (.tail (.tail (.tail (.tail .head)))) | exact (.tail (.tail (.tail (.tail (.tail .head))))) | exact (.tail (.tail (.tail (.tail (.tail (.tail .head)))))) | exact (.tail (.tail (.tail (.tail (.tail (.tail (.tail .head))))))) | exact (.tail (.tail (.tail (.tail (.tail (.tail (.tail (.tail .head))))))))) (by kernel_rfl) rfl ?_)
    have hlen := (h.pick (.tail (.tail .head))).own_len
    rw [flat_len encW 2 encW_len] at hlen
    have hc2 : c.len = D.cache.length := by omega
    rw [wrap_in _ (by simp only [hc2]; omega)]
    refine LoopP.inv (fun s w => -1 ≤ s ∧ s < D.cache.length ∧ lastW (D.cache.drop (s + 1).toNat) x = none ∧ Holds E w (pto d (.cells (dcells D r c) 47 (0, 0)) :: mapI r D.m :: ownS 64 2 c (D.cache.flatMap encW) :: L))
      (fun s _ => (s + 1).toNat) ⟨by simp only [hc2]; omega, by simp only [hc2]; omega, ?_, h⟩ ?_
    · have : ((c.len : Int) - 1 + 1).toNat = D.cache.length := by rw [hc2]; omega
      rw [this, List.drop_length]; rfl
    rintro next s w ⟨hs0, hs1, hs2, h⟩ hnext
    refine AnyP.go fun _ => CondP.mk' (fun h1 => ?_) (fun h1 => ?_)
    · have h1 : 0 ≤ s := by have := cT h1; omega
      obtain ⟨i, rfl⟩ := Int.eq_ofNat_of_zero_le h1
      have h1 : i < D.cache.length := by omega
      have hO := h.sub (M := ownS 64 2 c (D.cache.flatMap encW) :: _) (by repeat (first | exact Sub.done | refine Sub.take (by first | exact .head | exact (.tail .head) | exact (.tail (.tail .head)) | exact (.tail (.tail (.tail .head))) | exact (.tail (.tail (.tail (.tail .head)))) | exact (.tail (.tail (.tail (.tail (.tail .head))))) | exact (.tail (.tail (.tail (.tail (.tail (.tail .head)))))) | exact (.tail (.tail (.tail (.tail (.tail (.tail (.tail .head))))))) | exact (.tail (.tail (.tail (.tail (.tail (.tail (.tail (.tail .head))))))))) ?_ | refine Sub.skip ?_))
      obtain ⟨a0, ha⟩ := own_addr hO h1
      repeat (first | refine val_nil ?_ | refine get_ld h rfl (by first | exact .head | exact (.tail .head) | exact (.tail (.tail .head)) | exact (.tail (.tail (.tail .head))) | exact (.tail (.tail (.tail (.tail .head)))) | exact (.tail (.tail (.tail (.tail (.tail .head))))) | exact (.tail (.tail (.tail (.tail (.tail (.tail .head)))))) | exact (.tail (.tail (.tail (.tail (.tail (.tail (.tail .head))))))) | exact (.tail (.tail (.tail (.tail (.tail (.tail (.tail (.tail .head))))))))) (by kernel_rfl) rfl ?_ | (refine do_st h rfl (by first | exact .head | exact (.tail .head) | exact (.tail (.tail .head)) | exact (.tail (.tail (.tail .head))) | exact (.tail (.tail (.tail (.tail .head)))) | exact (.tail (.tail (.tail (.tail (.tail .head))))) | exact (.tail (.tail (.tail (.tail (.tail (.tail .head)))))) | exact (.tail (.tail (.tail (.tail (.tail (.tail (.tail .head))))))) | exact (.tail (.tail (.tail (.tail (.tail (.tail (.tail (.tail .head))))))))) (by kernel_rfl) rfl rfl ?_; intro w h) | (refine DrewP.go h ?_; intro w h) | (refine AnyP.go ?_; intro _) | refine chk_ld h rfl (by first | exact .head | exact (.tail .head) | exact (.tail (.tail .head)) | exact (.tail (.tail (.tail .head))) | exact (.tail (.tail (.tail (.tail .head)))) | exact (.tail (.tail (.tail (.tail (.tail .head))))) | exact (.tail (.tail (.tail (.tail (.tail (.tail .head)))))) | exact (.tail (.tail (.tail (.tail (.tail (.tail (.tail .head))))))) | exact (.tail (.tail (.tail (.tail (.tail (.tail (.tail (.tail .head))))))))) (by kernel_rfl) rfl ?_)
      refine val_index (Te := 64) (sz := 2) (a := a0) (by kernel_rfl) (by kernel_rfl) ha (by omega) (by simp only [hc2]; omega) ?_
      have hspot : a0.spot = none := by
        obtain ⟨b, off, hb'⟩ := hO.reads_own.addr (by intro he; have := flat_len encW 2 encW_len D.cache; rw [he] at this; simp at this; omega)
        rw [ha] at hb'; cases hb'; rfl
      refine get_el (P := Try.prog) (i := i * 2 + 0) D.cache[i].1 hO.reads_own ha (Addr.add_add _ _ _ hspot) (by kernel_rfl) (by rw [flat_get encW 2 encW_len _ _ _ (by omega), List.getElem?_eq_getElem h1]; rfl) ?_
      have hdrop : D.cache.drop i = D.cache[i] :: D.cache.drop (i + 1) := List.drop_eq_getElem_cons h1
      have hs2' : lastW (D.cache.drop (i + 1)) x = none := by have e : ((i : Int) + 1).toNat = i + 1 := by omega
                                                              rw [e] at hs2; exact hs2
      refine CondP.mk' (fun h2 => ?_) (fun h2 => ?_)
      · have h2 := eqT h2
        repeat (first | refine val_nil ?_ | refine get_ld h rfl (by first | exact .head | exact (.tail .head) | exact (.tail (.tail .head)) | exact (.tail (.tail (.tail .head))) | exact (.tail (.tail (.tail (.tail .head)))) | exact (.tail (.tail (.tail (.tail (.tail .head))))) | exact (.tail (.tail (.tail (.tail (.tail (.tail .head)))))) | exact (.tail (.tail (.tail (.tail (.tail (.tail (.tail .head))))))) | exact (.tail (.tail (.tail (.tail (.tail (.tail (.tail (.tail .head))))))))) (by kernel_rfl) rfl ?_ | (refine do_st h rfl (by first | exact .head | exact (.tail .head) | exact (.tail (.tail .head)) | exact (.tail (.tail (.tail .head))) | exact (.tail (.tail (.tail (.tail .head)))) | exact (.tail (.tail (.tail (.tail (.tail .head))))) | exact (.tail (.tail (.tail (.tail (.tail (.tail .head)))))) | exact (.tail (.tail (.tail (.tail (.tail (.tail (.tail .head))))))) | exact (.tail (.tail (.tail (.tail (.tail (.tail (.tail (.tail .head))))))))) (by kernel_rfl) rfl rfl ?_; intro w h) | (refine DrewP.go h ?_; intro w h) | (refine AnyP.go ?_; intro _) | refine chk_ld h rfl (by first | exact .head | exact (.tail .head) | exact (.tail (.tail .head)) | exact (.tail (.tail (.tail .head))) | exact (.tail (.tail (.tail (.tail .head)))) | exact (.tail (.tail (.tail (.tail (.tail .head))))) | exact (.tail (.tail (.tail (.tail (.tail (.tail .head)))))) | exact (.tail (.tail (.tail (.tail (.tail (.tail (.tail .head))))))) | exact (.tail (.tail (.tail (.tail (.tail (.tail (.tail (.tail .head))))))))) (by kernel_rfl) rfl ?_)
        refine val_index (Te := 64) (sz := 2) (a := a0) (by kernel_rfl) (by kernel_rfl) ha (by omega) (by simp only [hc2]; omega) ?_
        refine get_el (P := Try.prog) (i := i * 2 + 1) D.cache[i].2 hO.reads_own ha (Addr.add_add _ _ _ hspot) (by kernel_rfl) (by rw [flat_get encW 2 encW_len _ _ _ (by omega), List.getElem?_eq_getElem h1]; rfl) ?_
        have e : rdD D x = D.cache[i].2 := by
          have e1 : lastW (D.cache.take i ++ D.cache.drop i) x = some D.cache[i].2 := by
            rw [lastW_append, hdrop]
            simp only [lastW, hs2']
            rw [if_pos h2]; rfl
          rw [List.take_append_drop] at e1
          rw [rdD, e1]; rfl
        rw [e] at hk
        exact hk _ (Disk.closed h)
      · have h2 := eqF h2
        rw [wrap_in _ (by omega)]
        refine hnext _ _ ⟨by omega, by omega, ?_, h⟩ (by omega)
        have e : ((i : Int) - 1 + 1).toNat = i := by omega
        rw [e, hdrop]
        simp only [lastW, hs2']
        rw [if_neg h2]
    · have h1 : s = -1 := by have := cF h1; omega
      subst h1
      have hnone : lastW D.cache x = none := by simpa using hs2
      have e : rdD D x = (mlook eqInt x D.m.1).getD zeros := by rw [rdD, hnone]; rfl
      rw [e] at hk
      repeat (first | refine val_nil ?_ | refine get_ld h rfl (by first | exact .head | exact (.tail .head) | exact (.tail (.tail .head)) | exact (.tail (.tail (.tail .head))) | exact (.tail (.tail (.tail (.tail .head)))) | exact (.tail (.tail (.tail (.tail (.tail .head))))) | exact (.tail (.tail (.tail (.tail (.tail (.tail .head)))))) | exact (.tail (.tail (.tail (.tail (.tail (.tail (.tail .head))))))) | exact (.tail (.tail (.tail (.tail (.tail (.tail (.tail (.tail .head))))))))) (by kernel_rfl) rfl ?_ | (refine do_st h rfl (by first | exact .head | exact (.tail .head) | exact (.tail (.tail .head)) | exact (.tail (.tail (.tail .head))) | exact (.tail (.tail (.tail (.tail .head)))) | exact (.tail (.tail (.tail (.tail (.tail .head))))) | exact (.tail (.tail (.tail (.tail (.tail (.tail .head)))))) | exact (.tail (.tail (.tail (.tail (.tail (.tail (.tail .head))))))) | exact (.tail (.tail (.tail (.tail (.tail (.tail (.tail (.tail .head))))))))) (by kernel_rfl) rfl rfl ?_; intro w h) | (refine DrewP.go h ?_; intro w h) | (refine AnyP.go ?_; intro _) | refine chk_ld h rfl (by first | exact .head | exact (.tail .head) | exact (.tail (.tail .head)) | exact (.tail (.tail (.tail .head))) | exact (.tail (.tail (.tail (.tail .head)))) | exact (.tail (.tail (.tail (.tail (.tail .head))))) | exact (.tail (.tail (.tail (.tail (.tail (.tail .head)))))) | exact (.tail (.tail (.tail (.tail (.tail (.tail (.tail .head))))))) | exact (.tail (.tail (.tail (.tail (.tail (.tail (.tail (.tail .head))))))))) (by kernel_rfl) rfl ?_)
      refine get_lookup_ok (K := 3) (V := 9) (kl := .int .i64) (vl := .leaf .str) (x := x) (z := ⟨#[]⟩) (by kernel_rfl) kInt (by kernel_rfl) h (by first | exact .head | exact (.tail .head) | exact (.tail (.tail .head)) | exact (.tail (.tail (.tail .head))) | exact (.tail (.tail (.tail (.tail .head)))) | exact (.tail (.tail (.tail (.tail (.tail .head))))) | exact (.tail (.tail (.tail (.tail (.tail (.tail .head)))))) | exact (.tail (.tail (.tail (.tail (.tail (.tail (.tail .head))))))) | exact (.tail (.tail (.tail (.tail (.tail (.tail (.tail (.tail .head))))))))) ?_
      cases hl : mlook eqInt x D.m.1 with
      | none =>
        rw [hl] at hk
        refine CondP.yes rfl ?_
        exact empty_spec h fun w h => hk _ (Disk.closed h)
      | some v =>
        rw [hl] at hk
        refine CondP.no rfl ?_
        exact hk _ (Disk.closed h)

end Go.Proofs.Ytebicdddbeneoaa
