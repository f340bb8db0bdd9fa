/- The law DiskReads: the walk. -/
import Derived.Test.YtebicdddbeneoaaDk4
namespace Go.Proofs.Ytebicdddbeneoaa
open Go.Sh
attribute [local irreducible] pto rob old ownS roS hstar hex hpure hemp mapB Disk

def strs (l : List ByteArray) : List Value := l.map Value.string
theorem elemS : ElemT Try.prog 9 1 16 := ⟨(by kernel_rfl), (by kernel_rfl), (by kernel_rfl)⟩

theorem reads_walk {W : World} {script : Sl} {ops : List OpV} (hs : Reads W script 4 (ops.flatMap encOp)) (hcap : script.len ≤ 9223372036854775807) {at_ : Int} (ha0 : 0 ≤ at_) (ha1 : at_ ≤ 255) {s : ByteArray} (hsz : s.size ≤ 9223372036854775807) {k : Bool → Pr}
    (hk : ∀ w', Holds W w' [old W] → k true w') : CallP Try.prog 4 #[.slice script.a script.len script.cap, .int .u8 at_, .string s] tBool k W := by
  have hsl := script_len hs
  refine rd4 _ _ _ _ _ ?_
  unfold sh4
  refine New_spec (Holds.start W) (fun h => absurd h (by omega)) fun _ _ d w h => ?_
  refine JoinP.go (CondP.no rfl ?_)
  refine get_pure false (by kernel_rfl) ?_
  refine AnyP.go fun _ => JoinP.go (CondP.no rfl ?_)
  refine AnyP.go fun _ => CondP.mk' (fun hbig => ?_) (fun hbig => ?_)
  · refine JoinP.go (CondP.yes rfl ?_)
    refine get_pure true (by kernel_rfl) ?_
    refine AnyP.go fun _ => JoinP.go (CondP.yes rfl ?_)
    refine known_spec h fun w h => AnyP.go fun _ => hk _ h.drop
  have hbig : s.size ≤ 300 := by have := cF hbig; omega
  have hn : Int.tmod (IntKind.i64.wrap at_) 8 = at_ % 8 := by
    rw [wrap_in _ (by omega), Int.tmod_eq_emod_of_nonneg ha0]
  simp only [hn]
  generalize hN : at_ % 8 = N at *
  have hN0 : 0 ≤ N := by omega
  have hN8 : N < 8 := by omega
  refine LoopP.inv (fun t w => ∃ (i : Nat) (D : DSt), t = i ∧ i ≤ 30 ∧ i ≤ ops.length ∧ Fine D i ∧ Holds W w [Disk d D, old W]) (fun t _ => 30 - t.toNat)
    ⟨0, D0 8, rfl, by omega, by omega, D0_fine, h⟩ ?_
  rintro next t w ⟨i, D, rfl, hi30, hi, hD, h⟩ hnext
  have hDn : 0 < D.n := by rw [hD.n]; omega
  have hDl : D.cache.length ≤ 1073741824 := by have := hD.len; omega
  have next' : ∀ (D' : DSt) (w : World), i < 30 → i < ops.length → Fine D' (i + 1) → Holds W w [Disk d D', old W] → next (IntKind.i64.wrap (i + 1)) w := by
    intro D' w h1 h2 hD' h
    rw [wrap_in _ (by omega)]
    exact hnext _ _ ⟨i + 1, D', by omega, by omega, by omega, hD', h⟩ (by omega)
  refine AnyP.go fun _ => JoinP.go ?_
  by_cases hc : i < ops.length ∧ i < 30
  · -- one more step of the script
    obtain ⟨hc1, hc2⟩ := hc
    refine CondP.yes (decide_eq_true (by omega)) (AnyP.go fun _ => CondP.yes (decide_eq_true (by omega)) (JoinP.go (JoinP.go ?_)))
    have hO := (h.sub (M := old W :: []) (by repeat (first | exact Sub.done | refine Sub.take (by first | exact .head | exact (.tail .head) | exact (.tail (.tail .head)) | exact (.tail (.tail (.tail .head))) | exact (.tail (.tail (.tail (.tail .head)))) | exact (.tail (.tail (.tail (.tail (.tail .head))))) | exact (.tail (.tail (.tail (.tail (.tail (.tail .head)))))) | exact (.tail (.tail (.tail (.tail (.tail (.tail (.tail .head))))))) | exact (.tail (.tail (.tail (.tail (.tail (.tail (.tail (.tail .head))))))))) ?_ | refine Sub.skip ?_))).reads_old hs
    obtain ⟨b, off, hb⟩ := script_addr hs hc1
    have e0 : ∀ j, Addr.add (Addr.add ⟨b, off, none⟩ (i * 4)) j = Addr.add ⟨b, off, none⟩ (i * 4 + j) := fun j => Addr.add_add _ _ _ rfl
    refine val_index (Te := 31) (sz := 4) (a := ⟨b, off, none⟩) (by kernel_rfl) (by kernel_rfl) hb (by omega) (by omega) ?_
    refine get_el (P := Try.prog) (i := i * 4 + 0) ops[i].kind hO hb (e0 0) (by kernel_rfl) (script_cell hs hc1 0 (by omega)) ?_
    have second : ∀ (D' : DSt) (w : World), Fine D' (i + 1) → Holds W w [Disk d D', old W] → JoinP (S := Unit) (fun _ => AnyP fun _ => next (IntKind.i64.wrap (i + 1))) (fun J_6 =>
        ValP Try.prog (vN (Instr.indexAt 22 (.slice script.a script.len script.cap) (.int .i64 i))) tAddr fun t73 =>
        GetP Try.prog (vN (Instr.loadAt 3 (.pointer (some (Addr.add t73 0))))) tInt fun t75 =>
        CondP ((t75 : Int) == 2) (
        CallP Try.prog 11 #[.pointer (some ⟨d, 0, none⟩)] tInt fun t78 =>
        J_6 ()) (
        J_6 ())) w := by
      intro D' w hD' h
      have hO := (h.sub (M := old W :: []) (by repeat (first | exact Sub.done | refine Sub.take (by first | exact .head | exact (.tail .head) | exact (.tail (.tail .head)) | exact (.tail (.tail (.tail .head))) | exact (.tail (.tail (.tail (.tail .head)))) | exact (.tail (.tail (.tail (.tail (.tail .head))))) | exact (.tail (.tail (.tail (.tail (.tail (.tail .head)))))) | exact (.tail (.tail (.tail (.tail (.tail (.tail (.tail .head))))))) | exact (.tail (.tail (.tail (.tail (.tail (.tail (.tail (.tail .head))))))))) ?_ | refine Sub.skip ?_))).reads_old hs
      refine JoinP.go ?_
      refine val_index (Te := 31) (sz := 4) (a := ⟨b, off, none⟩) (by kernel_rfl) (by kernel_rfl) hb (by omega) (by omega) ?_
      refine get_el (P := Try.prog) (i := i * 4 + 0) ops[i].kind hO hb (e0 0) (by kernel_rfl) (script_cell hs hc1 0 (by omega)) ?_
      refine CondP.mk' (fun h2 => ?_) (fun h2 => ?_)
      · refine Flush_spec h (by rw [hD'.n]; omega) (by have := hD'.len; omega) fun w h => AnyP.go fun _ => ?_
        exact next' _ _ hc2 hc1 (fl_fine hD') h
      · exact AnyP.go fun _ => next' _ _ hc2 hc1 hD' h
    refine CondP.mk' (fun h2 => ?_) (fun h2 => ?_)
    · refine DrewP.go h fun w h => ?_
      have hO := (h.sub (M := old W :: []) (by repeat (first | exact Sub.done | refine Sub.take (by first | exact .head | exact (.tail .head) | exact (.tail (.tail .head)) | exact (.tail (.tail (.tail .head))) | exact (.tail (.tail (.tail (.tail .head)))) | exact (.tail (.tail (.tail (.tail (.tail .head))))) | exact (.tail (.tail (.tail (.tail (.tail (.tail .head)))))) | exact (.tail (.tail (.tail (.tail (.tail (.tail (.tail .head))))))) | exact (.tail (.tail (.tail (.tail (.tail (.tail (.tail (.tail .head))))))))) ?_ | refine Sub.skip ?_))).reads_old hs
      refine val_index (Te := 31) (sz := 4) (a := ⟨b, off, none⟩) (by kernel_rfl) (by kernel_rfl) hb (by omega) (by omega) ?_
      refine get_el (P := Try.prog) (i := i * 4 + 1) ops[i].at_ hO hb (e0 1) (by kernel_rfl) (script_cell hs hc1 1 (by omega)) ?_
      refine val_index (Te := 31) (sz := 4) (a := ⟨b, off, none⟩) (by kernel_rfl) (by kernel_rfl) hb (by omega) (by omega) ?_
      refine get_el (P := Try.prog) (i := i * 4 + 2) ops[i].s hO hb (e0 2) (by kernel_rfl) (script_cell hs hc1 2 (by omega)) ?_
      refine Write_spec h hDn hDl fun w h => AnyP.go fun _ => ?_
      exact (second _ w (wr_fine hD _ _) h).out
    · exact AnyP.go fun _ => (second D w (hD.mono (by omega)) h).out
  · -- the script is at its end
    refine CondP.mk' (fun h1 => AnyP.go fun _ => CondP.no (decide_eq_false (by have := cT h1; omega)) ?_) (fun h1 => AnyP.go fun _ => CondP.no rfl ?_)
    all_goals
      refine LoopP.inv (fun q w => ∃ j : Nat, q.2 = j ∧ j ≤ 8 ∧ Holds W w (ownS 9 1 q.1 (strs ((List.range j).map fun (j : Nat) => rdD D j)) :: [Disk d D, old W])) (fun q _ => 8 - q.2.toNat) ⟨0, rfl, by omega, h.own_nil⟩ ?_
      rintro next2 ⟨q1, q2⟩ w ⟨j, hq, hj, h⟩ hnext2
      simp only at hq h
      subst hq
      have hl2 : q1.len = j := by
        have := h.own_len.1
        simp [strs] at this
        omega
      refine AnyP.go fun _ => CondP.mk' (fun h1 => ?_) (fun h1 => ?_)
      · have h1 : j < 8 := by have := cT h1; omega
        refine Read_to (D := D) (r := 0) (s := rdD D j) (h.sub (M := Disk d D :: ownS 9 1 q1 _ :: old W :: []) (by repeat (first | exact Sub.done | refine Sub.take (by first | exact .head | exact (.tail .head) | exact (.tail (.tail .head)) | exact (.tail (.tail (.tail .head))) | exact (.tail (.tail (.tail (.tail .head)))) | exact (.tail (.tail (.tail (.tail (.tail .head))))) | exact (.tail (.tail (.tail (.tail (.tail (.tail .head)))))) | exact (.tail (.tail (.tail (.tail (.tail (.tail (.tail .head))))))) | exact (.tail (.tail (.tail (.tail (.tail (.tail (.tail (.tail .head))))))))) ?_ | refine Sub.skip ?_))) hDn hDl (by rw [rightM_in (by omega) (by rw [hD.n]; omega)]; simp) fun w h => ?_
        refine do_build (Te := 9) (sz := 1) (len := 1) (strs [rdD D j]) h (by kernel_rfl) rfl fun t w ht h => ?_
        refine do_append (Te2 := 9) h (by first | exact .head | exact (.tail .head) | exact (.tail (.tail .head)) | exact (.tail (.tail (.tail .head))) | exact (.tail (.tail (.tail (.tail .head)))) | exact (.tail (.tail (.tail (.tail (.tail .head))))) | exact (.tail (.tail (.tail (.tail (.tail (.tail .head)))))) | exact (.tail (.tail (.tail (.tail (.tail (.tail (.tail .head))))))) | exact (.tail (.tail (.tail (.tail (.tail (.tail (.tail (.tail .head))))))))) (by kernel_rfl) (by kernel_rfl) elemS h.reads_own (by intro v hv; simp [strs] at hv; subst hv; rfl) (by rw [ht, hl2]; omega) (by rw [ht, hl2]; omega) fun s' w hs' h => ?_
        rw [wrap_in _ (by omega)]
        refine hnext2 _ _ ⟨j + 1, by simp, by omega, h.sub ?_⟩ (by simp; omega)
        have e : strs ((List.range (j + 1)).map fun (j : Nat) => rdD D j) = strs ((List.range j).map fun (j : Nat) => rdD D j) ++ strs [rdD D j] := by
          unfold strs; rw [List.range_succ, List.map_append, List.map_append]; rfl
        rw [e]
        exact (by repeat (first | exact Sub.done | refine Sub.take (by first | exact .head | exact (.tail .head) | exact (.tail (.tail .head)) | exact (.tail (.tail (.tail .head))) | exact (.tail (.tail (.tail (.tail .head)))) | exact (.tail (.tail (.tail (.tail (.tail .head))))) | exact (.tail (.tail (.tail (.tail (.tail (.tail .head)))))) | exact (.tail (.tail (.tail (.tail (.tail (.tail (.tail .head))))))) | exact (.tail (.tail (.tail (.tail (.tail (.tail (.tail (.tail .head))))))))) ?_ | refine Sub.skip ?_))
      · have h1 : j = 8 := by have := cF h1; omega
        subst h1
        refine Write_spec (h.sub (M := Disk d D :: ownS 9 1 q1 _ :: old W :: []) (by repeat (first | exact Sub.done | refine Sub.take (by first | exact .head | exact (.tail .head) | exact (.tail (.tail .head)) | exact (.tail (.tail (.tail .head))) | exact (.tail (.tail (.tail (.tail .head)))) | exact (.tail (.tail (.tail (.tail (.tail .head))))) | exact (.tail (.tail (.tail (.tail (.tail (.tail .head)))))) | exact (.tail (.tail (.tail (.tail (.tail (.tail (.tail .head))))))) | exact (.tail (.tail (.tail (.tail (.tail (.tail (.tail (.tail .head))))))))) ?_ | refine Sub.skip ?_))) hDn hDl fun w h => ?_
        have hz := wr_zero hD hN0 hN8 s
        have hD' := wr_fine hD N s
        have hrd : ∀ x : Int, rdD (wr D N s).2 x = if x = N ∧ (wr D N s).1 = 0 then pad s else rdD D x := by
          intro x
          by_cases hf : (wr D N s).1 = 0
          · rw [wr_rd hf]; by_cases hx : x = N <;> simp [hx, hf]
          · rw [wr_no hf, if_neg (fun hh => hf hh.2)]
        generalize (wr D N s).1 = f at *
        generalize (wr D N s).2 = D' at *
        refine LoopP.inv (fun q w => ∃ j : Nat, q = j ∧ j ≤ 8 ∧ Holds W w [Disk d D', ownS 9 1 q1 (strs ((List.range 8).map fun (j : Nat) => rdD D j)), old W]) (fun q _ => 8 - q.toNat) ⟨0, rfl, by omega, h⟩ ?_
        rintro next3 q w ⟨j, rfl, hj, h⟩ hnext3
        refine AnyP.go fun _ => CondP.mk' (fun h1 => ?_) (fun h1 => ?_)
        · have h1 : j < 8 := by have := cT h1; omega
          refine Read_to (D := D') (r := 0) (s := rdD D' j) h (by rw [hD'.n]; omega) (by have := hD'.len; omega) (by rw [rightM_in (by omega) (by rw [hD'.n]; omega)]; simp) fun w h => ?_
          have go : ∀ w, Holds W w [Disk d D', ownS 9 1 q1 (strs ((List.range 8).map fun (j : Nat) => rdD D j)), old W] → next3 (IntKind.i64.wrap (j + 1)) w := by
            intro w h
            rw [wrap_in _ (by omega)]
            exact hnext3 _ _ ⟨j + 1, by omega, by omega, h⟩ (by omega)
          have hsize := rdD_size hD' j
          have hsz' : (((rdD D' j).size : Int) != 128) = false := by rw [hsize]; rfl
          have hsame : ∀ x y : ByteArray, x = y → (!(x.toList == y.toList)) = false := by rintro x _ rfl; simp
          refine JoinP.go (CondP.no rfl (AnyP.go fun _ => JoinP.go (CondP.no hsz' (JoinP.go ?_))))
          by_cases hjN : (j : Int) = N
          · refine CondP.no (by rw [hjN]; simp) (AnyP.go fun _ => JoinP.go ?_)
            by_cases hf : f = 0
            · refine CondP.no (by rw [hf]; rfl) (AnyP.go fun _ => AnyP.go fun _ => JoinP.go (CondP.no rfl (JoinP.go (CondP.yes (by rw [hjN]; simp) (AnyP.go fun _ => JoinP.go (CondP.yes (by rw [hf]; rfl) ?_))))))
              refine Pad_spec h (by omega) ?_
              refine AnyP.go fun _ => AnyP.go fun _ => CondP.no (hsame _ _ ?_) (go _ h)
              rw [hrd, if_pos ⟨hjN, hf⟩]
            · refine CondP.yes (bne_iff_ne.2 hf) ?_
              have hO := (h.sub (M := ownS 9 1 q1 (strs ((List.range 8).map fun (j : Nat) => rdD D j)) :: []) (by repeat (first | exact Sub.done | refine Sub.take (by first | exact .head | exact (.tail .head) | exact (.tail (.tail .head)) | exact (.tail (.tail (.tail .head))) | exact (.tail (.tail (.tail (.tail .head)))) | exact (.tail (.tail (.tail (.tail (.tail .head))))) | exact (.tail (.tail (.tail (.tail (.tail (.tail .head)))))) | exact (.tail (.tail (.tail (.tail (.tail (.tail (.tail .head))))))) | exact (.tail (.tail (.tail (.tail (.tail (.tail (.tail (.tail .head))))))))) ?_ | refine Sub.skip ?_))).reads_own
              obtain ⟨b1, o1, hb1⟩ := hO.addr (by simp [strs, List.range_succ])
              refine val_index (Te := 9) (sz := 1) (a := ⟨b1, o1, none⟩) (by kernel_rfl) (by kernel_rfl) hb1 (by omega) (by show (j : Int) < (q1.len : Int); omega) ?_
              refine get_el (P := Try.prog) (i := j * 1) (rdD D j) hO hb1 rfl (by kernel_rfl) (by simp [strs, h1, Leaf.val]) ?_
              refine AnyP.go fun _ => AnyP.go fun _ => JoinP.go (CondP.no (hsame _ _ ?_) (JoinP.go (CondP.yes (by rw [hjN]; simp) (AnyP.go fun _ => JoinP.go (CondP.no (beq_eq_false_iff_ne.2 hf) (AnyP.go fun _ => AnyP.go fun _ => CondP.no rfl (go _ h)))))))
              rw [hrd, if_neg (fun hh => hf hh.2)]
          · refine CondP.yes (bne_iff_ne.2 hjN) (AnyP.go fun _ => JoinP.go (CondP.yes rfl ?_))
            have hO := (h.sub (M := ownS 9 1 q1 (strs ((List.range 8).map fun (j : Nat) => rdD D j)) :: []) (by repeat (first | exact Sub.done | refine Sub.take (by first | exact .head | exact (.tail .head) | exact (.tail (.tail .head)) | exact (.tail (.tail (.tail .head))) | exact (.tail (.tail (.tail (.tail .head)))) | exact (.tail (.tail (.tail (.tail (.tail .head))))) | exact (.tail (.tail (.tail (.tail (.tail (.tail .head)))))) | exact (.tail (.tail (.tail (.tail (.tail (.tail (.tail .head))))))) | exact (.tail (.tail (.tail (.tail (.tail (.tail (.tail (.tail .head))))))))) ?_ | refine Sub.skip ?_))).reads_own
            obtain ⟨b1, o1, hb1⟩ := hO.addr (by simp [strs, List.range_succ])
            refine val_index (Te := 9) (sz := 1) (a := ⟨b1, o1, none⟩) (by kernel_rfl) (by kernel_rfl) hb1 (by omega) (by show (j : Int) < (q1.len : Int); omega) ?_
            refine get_el (P := Try.prog) (i := j * 1) (rdD D j) hO hb1 rfl (by kernel_rfl) (by simp [strs, h1, Leaf.val]) ?_
            refine AnyP.go fun _ => AnyP.go fun _ => JoinP.go (CondP.no (hsame _ _ ?_) (JoinP.go (CondP.no (beq_eq_false_iff_ne.2 hjN) (AnyP.go fun _ => JoinP.go (CondP.no rfl (AnyP.go fun _ => AnyP.go fun _ => CondP.no rfl (go _ h)))))))
            rw [hrd, if_neg (fun hh => hjN hh.1)]
        · refine JoinP.go (CondP.yes ?_ ?_)
          · by_cases hf : f = 0
            · have := hz.1 hf
              rw [hf, decide_eq_true (by omega : (s.size : Int) ≤ 128)]; rfl
            · have : ¬ s.size ≤ 128 := fun hh => hf (hz.2 hh)
              rw [decide_eq_false (by omega : ¬ (s.size : Int) ≤ 128), beq_eq_false_iff_ne.2 hf]; rfl
          · refine known_spec h fun w h => AnyP.go fun _ => hk _ (h.sub (by repeat (first | exact Sub.done | refine Sub.take (by first | exact .head | exact (.tail .head) | exact (.tail (.tail .head)) | exact (.tail (.tail (.tail .head))) | exact (.tail (.tail (.tail (.tail .head)))) | exact (.tail (.tail (.tail (.tail (.tail .head))))) | exact (.tail (.tail (.tail (.tail (.tail (.tail .head)))))) | exact (.tail (.tail (.tail (.tail (.tail (.tail (.tail .head))))))) | exact (.tail (.tail (.tail (.tail (.tail (.tail (.tail (.tail .head))))))))) ?_ | refine Sub.skip ?_)))

end Go.Proofs.Ytebicdddbeneoaa
