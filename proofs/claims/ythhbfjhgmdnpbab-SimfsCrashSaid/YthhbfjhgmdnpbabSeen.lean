/- THE WALK of seen (package heronlaw14). -/
import Derived.Test.YthhbfjhgmdnpbabDiskC
import Derived.Test.YthhbfjhgmdnpbabStr
import Derived.Test.YthhbfjhgmdnpbabRow
namespace Go.Proofs.Ythhbfjhgmdnpbab
open Go.RowKit Go.Maps
/-- what is told of an inode, and its bytes -/
def fileV (d : Dk) (i : Int) : List Value := match d.fs i with
  | none => [.int .i64 0, .int .i64 0, .int .i64 0, .int .i64 0, .string .empty]
  | some x => [.int .i64 i, .int .i64 ((d.se x.nm).getD 0), .int .i64 (x.ge : Int), .int .i64 (x.by_.length : Int), .string (strB x.by_)]
def seenV (d : Dk) (k : Nat) : List Value := (List.range k).flatMap fun (j : Nat) => fileV d ((j : Int) + 1)
theorem seenV_succ (d : Dk) (k : Nat) : seenV d (k + 1) = seenV d k ++ fileV d ((k : Int) + 1) := by
  unfold seenV
  rw [List.range_succ, List.flatMap_append]; simp
theorem fileV_len (d : Dk) (i : Int) : (fileV d i).length = 5 := by
  unfold fileV; split <;> rfl
theorem infoFile : (Try.prog.info? 41).map (fun i => (i.zero, i.size, i.bytes)) = some (some (.agg #[.int .i64 0, .int .i64 0, .int .i64 0, .int .i64 0, .string .empty]), 5, 48) := by kernel_rfl
theorem zero_file (w : World) : (zeroValue 41).run Try.prog w = .ok (.agg #[.int .i64 0, .int .i64 0, .int .i64 0, .int .i64 0, .string .empty]) w := (zero_of_info (n := 5) (by kernel_rfl)).1 w
theorem news_blk {w : World} {b : Nat} {t : TypeId} {cs : Array Value} (h : Blk w b t cs) : ∀ ad, some (⟨b, 0, none⟩ : Addr) = some ad → ∀ (j : Nat) (u : Value), cs.toList[j]? = some u → w.cell? (ad.add j) = some u := by
  rintro ad e j u hj
  obtain rfl := Option.some.inj e
  have : (⟨b, 0, none⟩ : Addr).add j = ⟨b, j, none⟩ := by
    unfold Addr.add
    by_cases h : j = 0
    · subst h; simp
    · simp [h]
  rw [this, h.cell j, ← Array.getElem?_toList]; exact hj
def SeenQ (W : World) (d : Dk) (k : Nat) (e : Ending) (w' : World) : Prop := ∃ v, e = .returned v ∧ w'.ownsRow W.heap.size 41 5 v k (seenV d k) ∧ Below W.heap.size W w'
set_option maxRecDepth 20000 in
set_option maxHeartbeats 2000000 in
theorem seen_any {W : World} {N : Nat} {C : Nat → Nat} {c p n : Nat} {d : Dk} (h : DC W N C c p n d) (m : Nat) (hm : m ≤ 1000000) : Calls Try.prog 7 #[.pointer (some ⟨p, 0, none⟩), .int .i64 (m : Int)] W (SeenQ W d m) := by
  have H := Lib.hid h
  have hzf := zero_file
  clear h
  go_enter Try.func7, Try.ntmps7
  go_wp2_with fail
  go_loopw [5, 6] (fun s5 s6 wr => ∃ k : Nat, k ≤ m ∧ s6 = .int .i64 ((k : Int) + 1) ∧ Hid (wr.ownsRow W.heap.size 41 5 s5 k (seenV d k)) ∧ Hid (Below W.heap.size W wr)) (fun _ s6 _ => m + 1 - (intOf s6).toNat)
  case atStart => exact ⟨0, Nat.zero_le _, rfl, Lib.hid (show W.ownsRow W.heap.size 41 5 (.slice none 0 0) 0 [] from World.ownsRow_nil _ _ _ 5), Lib.hid (Below.refl _ _)⟩
  case round =>
    obtain ⟨k, hk, rfl, O1, B1⟩ := hrel
    by_cases hlt : k < m
    · have hki : (k : Int) + 1 ≤ (m : Int) := by omega
      have CI := Lib.hid (inode_c (H.out.keep B1.out (Sam.refl _ _)) ((k : Int) + 1) ⟨by omega, by omega⟩)
      have HFV : Hid (seenV d (k + 1) = seenV d k ++ fileV d ((k : Int) + 1)) := Lib.hid (seenV_succ d k)
      unfold Dk.inode at CI
      unfold fileV at HFV
      cases hx : d.fs ((k : Int) + 1) with
      | none =>
        rw [hx] at CI HFV
        simp only at CI HFV
        unfold statV at CI
        go_wp2_with fail
        refine CI.out.mono ?_
        rintro e w2 ⟨rfl, hb⟩
        have O2 := Lib.hid (own_keep O1.out hb)
        have B2 := Lib.hid (B1.out.trans (hb.mono B1.out.size))
        simp only
        clear hb CI O1 B1
        go_upto_region 7 with fail
        obtain ⟨w3, hw3⟩ : ∃ w3, w3 = w2.alloc (.cells #[.int .i64 0, .int .i64 0, .int .i64 0, .int .i64 0] 39) := ⟨_, rfl⟩
        have hb3 : Below w2.heap.size w2 w3 := by rw [hw3]; exact (Below.refl _ _).alloc (Nat.le_refl _) _
        have O3 := Lib.hid (own_keep O2.out hb3)
        have B3 := Lib.hid (B2.out.trans (hb3.mono B2.out.size))
        rw [← hw3]
        clear hw3 hb3 O2 B2
        have N4 := Lib.hid (news_blk (Blk.new w3 41 #[.int .i64 0, .int .i64 0, .int .i64 0, .int .i64 0, .string .empty] rfl))
        have O4 := Lib.hid (World.ownsRow.alloc O3.out (.cells #[.int .i64 0, .int .i64 0, .int .i64 0, .int .i64 0, .string .empty] 41))
        have B4 := Lib.hid (B3.out.alloc B3.out.size (.cells #[.int .i64 0, .int .i64 0, .int .i64 0, .int .i64 0, .string .empty] 41))
        go_wp2_with ((at_builtin; go_must (refine append_row rfl (.tmp 24) (.tmp 26) 32 41 rfl Try.underlying32 infoFile rfl (by decide) W.heap.size u5 k (seenV d k) rfl O4.out (some ⟨w3.heap.size, 0, none⟩) 1 1 [.int .i64 0, .int .i64 0, .int .i64 0, .int .i64 0, .string .empty] rfl rfl (fun e => by cases e) N4.out (fun u hu => by simp only [List.mem_cons, List.not_mem_nil, or_false] at hu; rcases hu with rfl | rfl | rfl | rfl | rfl <;> rfl) (by omega) (by unfold maxLen; omega) B4.out.size ?_); intro v5 w5 ho5 hg5 ha5; refine halt ?_))
        refine unhalt ?_
        have O5 : Hid (w5.ownsRow W.heap.size 41 5 v5 (k + 1) (seenV d (k + 1))) := Lib.hid (by rw [HFV.out]; exact ho5)
        have B5 := Lib.hid (B4.out.grown hg5 B4.out.size (fun j hj => (World.ownsRow.lt O4.out j hj).1))
        clear ho5 hg5 ha5 N4 O4 B4 O3 B3
        go_wp2_with fail
        go_roundw
        case rel => exact ⟨k + 1, by omega, by go_num, O5, B5⟩
        case measure => simp [intOf]; omega
      | some x =>
        rw [hx] at CI HFV
        simp only at CI HFV
        unfold statV at CI
        obtain ⟨sv, hsv⟩ : ∃ sv : Int, sv = (d.se x.nm).getD 0 := ⟨_, rfl⟩
        obtain ⟨gv, hgv⟩ : ∃ gv : Int, gv = (x.ge : Int) := ⟨_, rfl⟩
        obtain ⟨nv, hnv⟩ : ∃ nv : Int, nv = (x.by_.length : Int) := ⟨_, rfl⟩
        have hlen := H.out.ok.len _ x hx
        have hgeb := H.out.ok.ge _ x hx
        have hbig := H.out.ok.big
        have HRD : Hid (∀ w', Below W.heap.size W w' → Calls Try.prog 17 #[.pointer (some ⟨p, 0, none⟩), .int .i64 ((k : Int) + 1), .int .i64 gv, .int .i64 0, .int .i64 nv] w' (BytesQ w' (x.by_, 0))) := Lib.hid (fun w' hb => by
          have h1 := read_c (H.out.keep hb (Sam.refl _ _)) ((k : Int) + 1) gv 0 nv ⟨by omega, by omega⟩ ⟨by omega, by omega⟩ ⟨by omega, by omega⟩
          have h2 : d.read ((k : Int) + 1) gv 0 nv = (x.by_, 0) := by
            unfold Dk.read
            rw [if_neg (by omega), hx]
            simp only
            rw [if_neg (by simp [hgv]), hnv]
            simp
          rw [h2] at h1
          exact h1)
        rw [← hsv, ← hgv, ← hnv] at CI HFV
        clear hx hsv hgv hnv hlen hgeb
        go_wp2_with fail
        refine CI.out.mono ?_
        rintro e w2 ⟨rfl, hb⟩
        have O2 := Lib.hid (own_keep O1.out hb)
        have B2 := Lib.hid (B1.out.trans (hb.mono B1.out.size))
        simp only
        clear hb CI O1 B1
        go_upto_region 8 with fail
        obtain ⟨w3, hw3⟩ : ∃ w3, w3 = w2.alloc (.cells #[.int .i64 ((k : Int) + 1), .int .i64 sv, .int .i64 gv, .int .i64 nv] 39) := ⟨_, rfl⟩
        obtain ⟨bs, hbs⟩ : ∃ bs, bs = w2.heap.size := ⟨_, rfl⟩
        have hb3 : Below w2.heap.size w2 w3 := by rw [hw3]; exact (Below.refl _ _).alloc (Nat.le_refl _) _
        have K3 : Hid (Blk w3 bs 39 #[.int .i64 ((k : Int) + 1), .int .i64 sv, .int .i64 gv, .int .i64 nv]) := Lib.hid (by rw [hw3]; exact Blk.new w2 _ _ hbs)
        have O3' := Lib.hid (own_keep O2.out hb3)
        have B3' := Lib.hid (B2.out.trans (hb3.mono B2.out.size))
        have s2 : w3.cell? ⟨bs, 2, none⟩ = some (.int .i64 gv) := (K3.out.cell 2).trans rfl
        have s3 : w3.cell? ⟨bs, 3, none⟩ = some (.int .i64 nv) := (K3.out.cell 3).trans rfl
        rw [← hw3, ← hbs]
        clear hw3 hb3 O2 B2 hbs
        go_wp2_with fail
        refine (HRD.out _ B3'.out).mono ?_
        rintro e w3b ⟨vb, rfl, hob, hbb⟩
        obtain ⟨Ab, cb, rfl, _, _, hrb⟩ := hob.form
        have cv : (convert 46 9 (.slice Ab x.by_.length cb)).run Try.prog w3b = .ok (.string (strB x.by_)) w3b := conv_bytes w3b Ab x.by_.length cb x.by_ hrb
        have K3b := Lib.hid (K3.out.keep hbb)
        have r0 : w3b.cell? ⟨bs, 0, none⟩ = some (.int .i64 ((k : Int) + 1)) := (K3b.out.cell 0).trans rfl
        have r1 : w3b.cell? ⟨bs, 1, none⟩ = some (.int .i64 sv) := (K3b.out.cell 1).trans rfl
        have r2 : w3b.cell? ⟨bs, 2, none⟩ = some (.int .i64 gv) := (K3b.out.cell 2).trans rfl
        have r3 : w3b.cell? ⟨bs, 3, none⟩ = some (.int .i64 nv) := (K3b.out.cell 3).trans rfl
        have O3 := Lib.hid (own_keep O3'.out hbb)
        have B3 := Lib.hid (B3'.out.trans (hbb.mono B3'.out.size))
        clear hob hbb hrb O3' B3' s2 s3 K3 K3b HRD
        have N4 := Lib.hid (news_blk (Blk.new w3b 41 #[.int .i64 ((k : Int) + 1), .int .i64 sv, .int .i64 gv, .int .i64 nv, .string (strB x.by_)] rfl))
        have O4 := Lib.hid (World.ownsRow.alloc O3.out (.cells #[.int .i64 ((k : Int) + 1), .int .i64 sv, .int .i64 gv, .int .i64 nv, .string (strB x.by_)] 41))
        have B4 := Lib.hid (B3.out.alloc B3.out.size (.cells #[.int .i64 ((k : Int) + 1), .int .i64 sv, .int .i64 gv, .int .i64 nv, .string (strB x.by_)] 41))
        go_wp2_with ((at_builtin; go_must (refine append_row rfl (.tmp 38) (.tmp 43) 32 41 rfl Try.underlying32 infoFile rfl (by decide) W.heap.size u5 k (seenV d k) rfl O4.out (some ⟨w3b.heap.size, 0, none⟩) 1 1 [.int .i64 ((k : Int) + 1), .int .i64 sv, .int .i64 gv, .int .i64 nv, .string (strB x.by_)] rfl rfl (fun e => by cases e) N4.out (fun u hu => by simp only [List.mem_cons, List.not_mem_nil, or_false] at hu; rcases hu with rfl | rfl | rfl | rfl | rfl <;> rfl) (by omega) (by unfold maxLen; omega) B4.out.size ?_); intro v5 w5 ho5 hg5 ha5; refine halt ?_))
        refine unhalt ?_
        have O5 : Hid (w5.ownsRow W.heap.size 41 5 v5 (k + 1) (seenV d (k + 1))) := Lib.hid (by rw [HFV.out]; exact ho5)
        have B5 := Lib.hid (B4.out.grown hg5 B4.out.size (fun j hj => (World.ownsRow.lt O4.out j hj).1))
        clear ho5 hg5 ha5 N4 O4 B4 O3 B3
        go_wp2_with fail
        go_roundw
        case rel => exact ⟨k + 1, by omega, by go_num, O5, B5⟩
        case measure => simp [intOf]; omega
    · obtain rfl : k = m := by omega
      have hki : ¬ (k : Int) + 1 ≤ (k : Int) := by omega
      go_wp2_with fail
      go_ret
      exact ⟨_, rfl, O1.out, B1.out⟩
end Go.Proofs.Ythhbfjhgmdnpbab
