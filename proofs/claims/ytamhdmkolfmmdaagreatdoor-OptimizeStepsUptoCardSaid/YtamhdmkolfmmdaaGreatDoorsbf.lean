/- The document's targets of the rule neutral lie before their step (plain). -/
import Derived.Test.YtamhdmkolfmmdaaGreatDoorsbe
import Derived.Test.YtamhdmkolfmmdaaGreatDoorsaa
set_option linter.unusedVariables false
set_option linter.unusedSimpArgs false
namespace Go.Proofs.YtamhdmkolfmmdaaGreatDoor
open Go.RowKit
set_option maxRecDepth 100000
theorem z3 {P : Prop} (h : P := by
 obtain ⟨mz, hmz⟩ := xE LR.length
 rw [← hmz] at he
 subst he
 have HPZ := hD hpz
 have HCZ := hD hcz
 have HMZ := hD hmz
 clear hbz hpz hcz hmz
 go_wp2_with fail
 go_ret2
 unfold kal
 rw [HRN.out]
 exact ⟨HBZ.out, Az, cz, by rw [HMZ.out]; rfl, HCZ.out, HPZ.out⟩) : P := h
theorem z28 {P : Prop} (h : P := by
 have := Reads.of_alloc (w7.setCell ⟨X, 1, none⟩ (.slice (some ⟨w7.heap.size, 0, none⟩) 2 2)) #[.int .i64 k1, .int .i64 k0] 3 (B := w7.heap.size + 1) (by omega) rfl
 rw [hsz] at this
 rw [hw8]
 exact this.more (by simp [World.setCell])) : P := h
theorem y98 {P : Prop} (h : P := by
 refine tkH (i := 0) hHeld ?_
 try simp only [Act.put, gE, gF, gG]
 refine tkH (i := 1) hHeld ?_
 try simp only [Act.put, gE, gF, gG]
 refine tkH (i := 2) hHeld ?_
 try simp only [Act.put, gE, gF, gG]
 refine tkH (i := 3) hHeld ?_
 try simp only [Act.put, gE, gF, gG]
 refine tkH (i := 4) hHeld ?_
 try simp only [Act.put, gE, gF, gG]
 refine tkH (i := 5) hHeld ?_
 try simp only [Act.put, gE, gF, gG]
 first
 | guard_hyp t541q0
   refine tkH (i := 6) hHeld ?_
   try simp only [Act.put, gE, gF, gG]
   refine tkH (i := 7) hHeld ?_
   try simp only [Act.put, gE, gF, gG]
   refine tkH (i := 8) hHeld ?_
   try simp only [Act.put, gE, gF, gG]
   refine tkH (i := 9) hHeld ?_
   try simp only [Act.put, gE, gF, gG]
   refine tkH (i := 10) hHeld ?_
   try simp only [Act.put, gE, gF, gG]
   refine tkH (i := 11) hHeld ?_
   try simp only [Act.put, gE, gF, gG]
   first
   | guard_hyp t487q0
     refine tkH (i := 14) hHeld ?_
     try simp only [Act.put, gE, gF, gG]
     refine tkH (i := 15) hHeld ?_
     try simp only [Act.put, gE, gF, gG]
     refine tkO (i := 12) (fun K hK => ?_)
     go_simp
     refine hK.out _ _ hHeld ?_
     clear hK K
     try simp only [Act.put, gE, gF, gG]
     refine tkO (i := 13) (fun K hK => ?_)
     go_simp
     go_at_call 144
     refine HW1.out.mono ?_
     rintro e w2 ⟨hb2, A2, c2, he2, hc2, hp2⟩
     have HR2 := hD (HRP.out w2 A2 c2 hp2 hc2)
     rw [HL1.out] at he2
     subst he2
     have HB2 := hD (HBD.out.trans (hb2.mono HBD.out.size))
     have hHeld2 := HS.out w2 HB2.out
     clear hb2 hc2 hp2 HW1 HRP hHeld
     refine hK.out _ _ hHeld2 ?_
     clear hK K
     try simp only [Act.put, gE, gF, gG]
     refine tkO (i := 16) (fun K hK => ?_)
     go_simp
     go_at_call 143
     refine HR2.out.mono ?_
     rintro e wz ⟨hbz, hz⟩
     have HBZ := hD (HB2.out.trans (hbz.mono HB2.out.size))
     have hHeldZ := HS.out wz HBZ.out
     clear hbz hHeld2
     cases R with
     | none =>
      have hz : e = .returned (.tuple #[.slice none 0 0, .bool false]) := hz
      subst hz
      have t524q0 := True.intro
      exact y81
     | some L =>
      obtain ⟨Az, cz, he, hcz, hpz⟩ := hz
      obtain ⟨mz, hmz⟩ := xE L.length
      rw [← hmz] at he
      subst he
      have HPZ := hD hpz
      have HCZ := hD hcz
      have HMZ := hD hmz
      clear hpz hcz hmz
      exact y81
   | guard_hyp t487q1
     refine tkH (i := 12) hHeld ?_
     try simp only [Act.put, gE, gF, gG]
     refine tkH (i := 13) hHeld ?_
     try simp only [Act.put, gE, gF, gG]
     refine tkH (i := 15) hHeld ?_
     try simp only [Act.put, gE, gF, gG]
     refine tkH (i := 16) hHeld ?_
     try simp only [Act.put, gE, gF, gG]
     refine tkH (i := 17) hHeld ?_
     try simp only [Act.put, gE, gF, gG]
     refine tkH (i := 18) hHeld ?_
     try simp only [Act.put, gE, gF, gG]
     refine tkH (i := 19) hHeld ?_
     try simp only [Act.put, gE, gF, gG]
     refine kb8 (i := 14) (j := 21) (by kernel_rfl) rfl rfl (fun K hK => ?_) (fun K hK => ?_)
     ·
      go_simp
      have HBE := hD (HBD.out.alloc HBD.out.size (.cells #[.int .i64 k0, .int .i64 j1] 3))
      have hHeldE := HS.out _ HBE.out
      refine hK.out _ _ hHeldE ?_
      clear hK K
      try simp only [Act.put, gE, gF, gG]
      refine tkH (i := 20) hHeldE ?_
      try simp only [Act.put, gE, gF, gG]
      refine tkO (i := 21) (fun K hK => ?_)
      go_simp
      have HBF := hD (HBE.out.alloc HBE.out.size (.cells #[.string ⟨#[]⟩, .slice none 0 0, .int .i64 0, .string ⟨#[]⟩, .int .i64 0] 76))
      have hHeldF := HS.out _ HBF.out
      refine hK.out _ _ hHeldF ?_
      clear hK K
      try simp only [Act.put, gE, gF, gG]
      refine tkO (i := 22) (fun K hK => ?_)
      go_simp
      obtain ⟨w3, hw3⟩ := xE (((w2.alloc (.cells #[.int .i64 k0, .int .i64 j1] 3)).alloc (.cells #[.string ⟨#[102, 105, 114, 115, 116, 102, 105, 110, 100]⟩, .slice (some ⟨w2.heap.size, 0, none⟩) 2 2, .int .i64 0, .string ⟨tx.toArray⟩, .int .i64 4] 76)).drew)
      rw [← hw3]
      have hb3 : Below w.heap.size w w3 := by rw [hw3]; exact ((HB2.out.alloc HB2.out.size _).alloc (by have := HB2.out.size; simp; omega) _).drew
      have hx3 : Blk w3 (w2.heap.size + 1) 76 #[.string ⟨#[102, 105, 114, 115, 116, 102, 105, 110, 100]⟩, .slice (some ⟨w2.heap.size, 0, none⟩) 2 2, .int .i64 0, .string ⟨tx.toArray⟩, .int .i64 4] := by rw [hw3]; exact (show Blk _ _ _ _ from by have := Blk.new (w2.alloc (.cells #[.int .i64 k0, .int .i64 j1] 3)) 76 #[.string ⟨#[102, 105, 114, 115, 116, 102, 105, 110, 100]⟩, .slice (some ⟨w2.heap.size, 0, none⟩) 2 2, .int .i64 0, .string ⟨tx.toArray⟩, .int .i64 4]; rw [show (w2.alloc (.cells #[.int .i64 k0, .int .i64 j1] 3)).heap.size = w2.heap.size + 1 by simp] at this; exact this)
      have hr3 : Reads w3 w3.heap.size 1 (some ⟨w2.heap.size, 0, none⟩) 2 [.int .i64 k0, .int .i64 j1] := by rw [hw3]; exact ((Reads.of_alloc w2 #[.int .i64 k0, .int .i64 j1] 3 (B := w2.heap.size + 1) (by omega) rfl).alloc (by simp) _).more (by simp)
      exact y72
     ·
      go_simp
      have HBE := hD (HBD.out.alloc HBD.out.size (.cells #[.string ⟨#[]⟩, .slice none 0 0, .int .i64 0, .string ⟨#[]⟩, .int .i64 0] 76))
      have hHeldE := HS.out _ HBE.out
      refine hK.out _ _ hHeldE ?_
      clear hK K
      try simp only [Act.put, gE, gF, gG]
      refine tkO (i := 14) (fun K hK => ?_)
      go_simp
      have HBF := hD (HBE.out.alloc HBE.out.size (.cells #[.int .i64 k0, .int .i64 j1] 3))
      have hHeldF := HS.out _ HBF.out
      refine hK.out _ _ hHeldF ?_
      clear hK K
      try simp only [Act.put, gE, gF, gG]
      refine tkH (i := 20) hHeldF ?_
      try simp only [Act.put, gE, gF, gG]
      refine tkO (i := 22) (fun K hK => ?_)
      go_simp
      obtain ⟨w3, hw3⟩ := xE (((w2.alloc (.cells #[.string ⟨#[102, 105, 114, 115, 116, 102, 105, 110, 100]⟩, .slice (some ⟨w2.heap.size + 1, 0, none⟩) 2 2, .int .i64 0, .string ⟨tx.toArray⟩, .int .i64 4] 76)).alloc (.cells #[.int .i64 k0, .int .i64 j1] 3)).drew)
      rw [← hw3]
      have hb3 : Below w.heap.size w w3 := by rw [hw3]; exact ((HB2.out.alloc HB2.out.size _).alloc (by have := HB2.out.size; simp; omega) _).drew
      have hx3 : Blk w3 (w2.heap.size) 76 #[.string ⟨#[102, 105, 114, 115, 116, 102, 105, 110, 100]⟩, .slice (some ⟨w2.heap.size + 1, 0, none⟩) 2 2, .int .i64 0, .string ⟨tx.toArray⟩, .int .i64 4] := by rw [hw3]; exact (show Blk _ _ _ _ from (Blk.new w2 76 #[.string ⟨#[102, 105, 114, 115, 116, 102, 105, 110, 100]⟩, .slice (some ⟨w2.heap.size + 1, 0, none⟩) 2 2, .int .i64 0, .string ⟨tx.toArray⟩, .int .i64 4]).alloc (.cells #[.int .i64 k0, .int .i64 j1] 3))
      have hr3 : Reads w3 w3.heap.size 1 (some ⟨w2.heap.size + 1, 0, none⟩) 2 [.int .i64 k0, .int .i64 j1] := by rw [hw3]; exact (by have := Reads.of_alloc (w2.alloc (.cells #[.string ⟨#[102, 105, 114, 115, 116, 102, 105, 110, 100]⟩, .slice (some ⟨w2.heap.size + 1, 0, none⟩) 2 2, .int .i64 0, .string ⟨tx.toArray⟩, .int .i64 4] 76)) #[.int .i64 k0, .int .i64 j1] 3 (B := w2.heap.size + 2) (by simp) rfl; rw [show (w2.alloc (.cells #[.string ⟨#[102, 105, 114, 115, 116, 102, 105, 110, 100]⟩, .slice (some ⟨w2.heap.size + 1, 0, none⟩) 2 2, .int .i64 0, .string ⟨tx.toArray⟩, .int .i64 4] 76)).heap.size = w2.heap.size + 1 by simp] at this; exact this.more (by simp))
      exact y72
   | guard_hyp t487q2
     refine tkH (i := 12) hHeld ?_
     try simp only [Act.put, gE, gF, gG]
     refine tkH (i := 13) hHeld ?_
     try simp only [Act.put, gE, gF, gG]
     refine tkO (i := 14) (fun K hK => ?_)
     go_simp
     have HBE := hD (HBD.out.alloc HBD.out.size (.cells #[.int .i64 k1, .int .i64 k0] 3))
     have hHeldE := HS.out _ HBE.out
     refine hK.out _ _ hHeldE ?_
     clear hK K
     try simp only [Act.put, gE, gF, gG]
     refine tkH (i := 15) hHeldE ?_
     try simp only [Act.put, gE, gF, gG]
     refine tkO (i := 16) (fun K hK => ?_)
     go_simp
     obtain ⟨w8, hw8⟩ := xE (((w7.setCell ⟨X, 1, none⟩ (.slice (some ⟨w7.heap.size, 0, none⟩) 2 2)).alloc (.cells #[.int .i64 k1, .int .i64 k0] 3)).drew)
     have hsz : (w7.setCell ⟨X, 1, none⟩ (.slice (some ⟨w7.heap.size, 0, none⟩) 2 2)).heap.size = w7.heap.size := by simp [World.setCell]
     have hbs : Below w.heap.size w (w7.setCell ⟨X, 1, none⟩ (.slice (some ⟨w7.heap.size, 0, none⟩) 2 2)) := HB7.out.setCell (p := ⟨X, 1, none⟩) hX5 _
     have hb8 : Below w.heap.size w w8 := by rw [hw8]; exact (hbs.alloc hbs.size _).drew
     have hx8 : Blk w8 X 76 #[.string ⟨#[60, 61]⟩, .slice (some ⟨w7.heap.size, 0, none⟩) 2 2, .int .i64 0, .string ⟨#[]⟩, .int .i64 2] := by rw [hw8]; exact (show Blk _ _ _ _ from (HX7.out.set_ 1 (.slice (some ⟨w7.heap.size, 0, none⟩) 2 2)).alloc (.cells #[.int .i64 k1, .int .i64 k0] 3))
     have hr8 : Reads w8 w8.heap.size 1 (some ⟨w7.heap.size, 0, none⟩) 2 [.int .i64 k1, .int .i64 k0] := by
      exact z28
     rw [← hw8]
     have HB8 := hD hb8
     have hHeld8 := HS.out w8 hb8
     have HW8 := hD (HWR.out (Oz.mk Oz.oLe [(k1 : Int), (k0 : Int)] 0 [] 2) w8 (some ⟨w7.heap.size, 0, none⟩) 2 2 hb8 rfl hr8)
     obtain ⟨v0', v1', v2, v3, v4, _⟩ := blk5 hx8
     clear hw8 hsz hbs hb8 hx8 hr8 f1 v1
     refine hK.out _ _ hHeld8 ?_
     clear hK K
     try simp only [Act.put, gE, gF, gG]
     refine wpAnyH_done (by kernel_rfl) ?_ _
     refine NoPanic.normal ?_
     try simp only [Act.put, gE, gF, gG]
     go_wp2_with fail
     refine HW8.out.mono ?_
     rintro e w9 ⟨hb9, A9, c9, he9, hc9, hp9⟩
     rw [HL1.out] at he9
     subst he9
     have HB9 := hD (HB8.out.trans (hb9.mono HB8.out.size))
     have hrm := HRMV.out (Oz.mk Oz.oLe [(k1 : Int), (k0 : Int)] 0 [] 2) HXB.out w9 A9 c9 hp9
     obtain ⟨LR, hLR⟩ := xE (Rf.removeL (l.set i (Oz.mk Oz.oLe [(k1 : Int), (k0 : Int)] 0 [] 2)) j)
     rw [← hLR] at hrm
     have HRM9 := hD hrm
     have HRN : Hid (R = some LR) := hD (by rw [HRX.out, hLR])
     clear hb9 hc9 hp9 HW8 hrm hLR v0' v1' v2 v3 v4
     go_wp2_with fail
     refine HRM9.out.mono ?_
     rintro e wz ⟨hbz, Az, cz, he, hcz, hpz⟩
     have HBZ := hD (HB9.out.trans (hbz.mono HB9.out.size))
     obtain ⟨mz, hmz⟩ := xE LR.length
     rw [← hmz] at he
     subst he
     have HPZ := hD hpz
     have HCZ := hD hcz
     have HMZ := hD hmz
     clear hbz hpz hcz hmz
     go_wp2_with fail
     go_ret2
     unfold kal
     rw [HRN.out]
     exact ⟨HBZ.out, Az, cz, by rw [HMZ.out]; rfl, HCZ.out, HPZ.out⟩
   | refine tkH (i := 12) hHeld ?_
     try simp only [Act.put, gE, gF, gG]
     refine tkH (i := 13) hHeld ?_
     try simp only [Act.put, gE, gF, gG]
     refine tkO (i := 14) (fun K hK => ?_)
     go_simp
     have HBE := hD (HBD.out.alloc HBD.out.size (.cells #[.int .i64 k1, .int .i64 k0] 3))
     have hHeldE := HS.out _ HBE.out
     refine hK.out _ _ hHeldE ?_
     clear hK K
     try simp only [Act.put, gE, gF, gG]
     refine tkH (i := 15) hHeldE ?_
     try simp only [Act.put, gE, gF, gG]
     refine tkO (i := 16) (fun K hK => ?_)
     go_simp
     obtain ⟨w8, hw8⟩ := xE (((w7.setCell ⟨X, 1, none⟩ (.slice (some ⟨w7.heap.size, 0, none⟩) 2 2)).alloc (.cells #[.int .i64 k1, .int .i64 k0] 3)).drew)
     have hsz : (w7.setCell ⟨X, 1, none⟩ (.slice (some ⟨w7.heap.size, 0, none⟩) 2 2)).heap.size = w7.heap.size := by simp [World.setCell]
     have hbs : Below w.heap.size w (w7.setCell ⟨X, 1, none⟩ (.slice (some ⟨w7.heap.size, 0, none⟩) 2 2)) := HB7.out.setCell (p := ⟨X, 1, none⟩) hX5 _
     have hb8 : Below w.heap.size w w8 := by rw [hw8]; exact (hbs.alloc hbs.size _).drew
     have hx8 : Blk w8 X 76 #[.string ⟨#[60]⟩, .slice (some ⟨w7.heap.size, 0, none⟩) 2 2, .int .i64 0, .string ⟨#[]⟩, .int .i64 2] := by rw [hw8]; exact (show Blk _ _ _ _ from (HX7.out.set_ 1 (.slice (some ⟨w7.heap.size, 0, none⟩) 2 2)).alloc (.cells #[.int .i64 k1, .int .i64 k0] 3))
     have hr8 : Reads w8 w8.heap.size 1 (some ⟨w7.heap.size, 0, none⟩) 2 [.int .i64 k1, .int .i64 k0] := by
      exact z28
     rw [← hw8]
     have HB8 := hD hb8
     have hHeld8 := HS.out w8 hb8
     have HW8 := hD (HWR.out (Oz.mk Oz.oLt [(k1 : Int), (k0 : Int)] 0 [] 2) w8 (some ⟨w7.heap.size, 0, none⟩) 2 2 hb8 rfl hr8)
     obtain ⟨v0', v1', v2, v3, v4, _⟩ := blk5 hx8
     clear hw8 hsz hbs hb8 hx8 hr8 f1 v1
     refine hK.out _ _ hHeld8 ?_
     clear hK K
     try simp only [Act.put, gE, gF, gG]
     refine wpAnyH_done (by kernel_rfl) ?_ _
     refine NoPanic.normal ?_
     try simp only [Act.put, gE, gF, gG]
     go_wp2_with fail
     refine HW8.out.mono ?_
     rintro e w9 ⟨hb9, A9, c9, he9, hc9, hp9⟩
     rw [HL1.out] at he9
     subst he9
     have HB9 := hD (HB8.out.trans (hb9.mono HB8.out.size))
     have hrm := HRMV.out (Oz.mk Oz.oLt [(k1 : Int), (k0 : Int)] 0 [] 2) HXB.out w9 A9 c9 hp9
     obtain ⟨LR, hLR⟩ := xE (Rf.removeL (l.set i (Oz.mk Oz.oLt [(k1 : Int), (k0 : Int)] 0 [] 2)) j)
     rw [← hLR] at hrm
     have HRM9 := hD hrm
     have HRN : Hid (R = some LR) := hD (by rw [HRX.out, hLR])
     clear hb9 hc9 hp9 HW8 hrm hLR v0' v1' v2 v3 v4
     go_wp2_with fail
     refine HRM9.out.mono ?_
     rintro e wz ⟨hbz, Az, cz, he, hcz, hpz⟩
     have HBZ := hD (HB9.out.trans (hbz.mono HB9.out.size))
     obtain ⟨mz, hmz⟩ := xE LR.length
     rw [← hmz] at he
     subst he
     have HPZ := hD hpz
     have HCZ := hD hcz
     have HMZ := hD hmz
     clear hbz hpz hcz hmz
     go_wp2_with fail
     go_ret2
     unfold kal
     rw [HRN.out]
     exact ⟨HBZ.out, Az, cz, by rw [HMZ.out]; rfl, HCZ.out, HPZ.out⟩
 | first
   | guard_hyp t519q0
     first
     | guard_hyp t493q0
       refine tkH (i := 6) hHeld ?_
       try simp only [Act.put, gE, gF, gG]
       refine tkH (i := 7) hHeld ?_
       try simp only [Act.put, gE, gF, gG]
       refine tkO (i := 8) (fun K hK => ?_)
       go_simp
       first
       | guard_hyp t59q0
         go_at_call 130
       | refine hK.out _ _ hHeld ?_
         clear hK K
         try simp only [Act.put, gE, gF, gG]
         refine tkO (i := 9) (fun K hK => ?_)
         go_simp
         go_at_call 79
       refine (HCL.out _).mono ?_
       rintro e w2 ⟨hb2, he2⟩
       have HB2 := hD (HBD.out.trans (hb2.mono HBD.out.size))
       have hx2 := HX1.out.below ((Below.drew (Below.refl _ _)).trans hb2) HX1.out.lt
       obtain ⟨y0, y1, y2, y3, y4, n0, n1, n2, n3, n4⟩ := blk5 hx2
       first
       | guard_hyp t59q0
       | guard_hyp t59q1
         have he2 : e = .returned (.tuple #[ka4, .int .i64 2, .bool true]) := he2
         subst he2
       | guard_hyp t59q2
         have he2 : e = .returned (.tuple #[(valV (max a b)), .int .i64 0, .bool true]) := he2
         subst he2
       | guard_hyp t59q3
         have he2 : e = .returned (.tuple #[(valV (min a b)), .int .i64 0, .bool true]) := he2
         subst he2
       | guard_hyp t59q4
         have he2 : e = .returned (.tuple #[(valV (a - b)), .int .i64 0, .bool true]) := he2
         subst he2
       | have he2 : e = .returned (.tuple #[(valV (a + b)), .int .i64 0, .bool true]) := he2
         subst he2
       have hHeld2 := HS.out w2 HB2.out
       clear hb2 hx2 hHeld
       first
       | guard_hyp t59q0
         cases r with
         | none =>
          have he2 : e = .returned (.tuple #[ka4, .int .i64 2, .bool true]) := he2
          subst he2
          unfold ka4
          refine hK.out _ _ hHeld2 ?_
          clear hK K
          try simp only [Act.put, gE, gF, gG]
          refine tkH (i := 9) hHeld2 ?_
          try simp only [Act.put, gE, gF, gG]
          refine tkH (i := 10) hHeld2 ?_
          try simp only [Act.put, gE, gF, gG]
          refine tkH (i := 11) hHeld2 ?_
          try simp only [Act.put, gE, gF, gG]
          refine tkO (i := 12) (fun K hK => ?_)
          go_simp
          have HB3 := hD (kba HB2.out (.int .i64 0) (.int .i64 0) (.bool false) (.string ⟨#[]⟩) (.slice none 0 0))
          have t534q0 := True.intro
          exact y91
         | some m =>
          have he2 : e = .returned (.tuple #[(valV m), .int .i64 0, .bool true]) := he2
          subst he2
          unfold valV
          refine hK.out _ _ hHeld2 ?_
          clear hK K
          try simp only [Act.put, gE, gF, gG]
          refine tkH (i := 9) hHeld2 ?_
          try simp only [Act.put, gE, gF, gG]
          refine tkH (i := 10) hHeld2 ?_
          try simp only [Act.put, gE, gF, gG]
          refine tkH (i := 11) hHeld2 ?_
          try simp only [Act.put, gE, gF, gG]
          refine tkO (i := 12) (fun K hK => ?_)
          go_simp
          have HB3 := hD (kba HB2.out (.int .i64 1) (.int .i64 m) (.bool false) (.string ⟨#[]⟩) (.slice none 0 0))
          exact y91
       | guard_hyp t59q1
         unfold ka4
         refine hK.out _ _ hHeld2 ?_
         clear hK K
         try simp only [Act.put, gE, gF, gG]
         refine tkH (i := 10) hHeld2 ?_
         try simp only [Act.put, gE, gF, gG]
         refine tkH (i := 11) hHeld2 ?_
         try simp only [Act.put, gE, gF, gG]
         refine tkH (i := 12) hHeld2 ?_
         try simp only [Act.put, gE, gF, gG]
         refine tkO (i := 13) (fun K hK => ?_)
         go_simp
         have HB3 := hD (kba HB2.out (.int .i64 0) (.int .i64 (0)) (.bool false) (.string ⟨#[]⟩) (.slice none 0 0))
         have hHeld3 := HS.out _ HB3.out
         refine hK.out _ _ hHeld3 ?_
         clear hK K
         try simp only [Act.put, gE, gF, gG]
         refine tkO (i := 14) (fun K hK => ?_)
         go_simp
         refine hK.out _ _ hHeld3 ?_
         clear hK K
         try simp only [Act.put, gE, gF, gG]
         refine tkO (i := 15) (fun K hK => ?_)
         go_simp
         refine hK.out _ _ hHeld3 ?_
         clear hK K
         try simp only [Act.put, gE, gF, gG]
         refine wpAnyH_done (by kernel_rfl) ?_ _
         refine NoPanic.normal ?_
         try simp only [Act.put, gE, gF, gG]
         go_wp2_with fail
         refine bodyPost_ret (v := .tuple #[ka4, .int .i64 2, .bool true]) (by simp [results, Tryz.results83, go_sem, ka4, y0, y1, y2, y3, y4]) rfl ?_
         exact ⟨HB3.out, rfl⟩
       | guard_hyp t59q2
         unfold valV
         refine hK.out _ _ hHeld2 ?_
         clear hK K
         try simp only [Act.put, gE, gF, gG]
         refine tkH (i := 10) hHeld2 ?_
         try simp only [Act.put, gE, gF, gG]
         refine tkH (i := 11) hHeld2 ?_
         try simp only [Act.put, gE, gF, gG]
         refine tkH (i := 12) hHeld2 ?_
         try simp only [Act.put, gE, gF, gG]
         refine tkO (i := 13) (fun K hK => ?_)
         go_simp
         have HB3 := hD (kba HB2.out (.int .i64 1) (.int .i64 (max a b)) (.bool false) (.string ⟨#[]⟩) (.slice none 0 0))
         have hHeld3 := HS.out _ HB3.out
         refine hK.out _ _ hHeld3 ?_
         clear hK K
         try simp only [Act.put, gE, gF, gG]
         refine tkO (i := 14) (fun K hK => ?_)
         go_simp
         refine hK.out _ _ hHeld3 ?_
         clear hK K
         try simp only [Act.put, gE, gF, gG]
         refine tkO (i := 15) (fun K hK => ?_)
         go_simp
         refine hK.out _ _ hHeld3 ?_
         clear hK K
         try simp only [Act.put, gE, gF, gG]
         refine wpAnyH_done (by kernel_rfl) ?_ _
         refine NoPanic.normal ?_
         try simp only [Act.put, gE, gF, gG]
         go_wp2_with fail
         refine bodyPost_ret (v := .tuple #[(valV (max a b)), .int .i64 0, .bool true]) (by simp [results, Tryz.results83, go_sem, valV, y0, y1, y2, y3, y4]) rfl ?_
         exact ⟨HB3.out, rfl⟩
       | guard_hyp t59q3
         unfold valV
         refine hK.out _ _ hHeld2 ?_
         clear hK K
         try simp only [Act.put, gE, gF, gG]
         refine tkH (i := 10) hHeld2 ?_
         try simp only [Act.put, gE, gF, gG]
         refine tkH (i := 11) hHeld2 ?_
         try simp only [Act.put, gE, gF, gG]
         refine tkH (i := 12) hHeld2 ?_
         try simp only [Act.put, gE, gF, gG]
         refine tkO (i := 13) (fun K hK => ?_)
         go_simp
         have HB3 := hD (kba HB2.out (.int .i64 1) (.int .i64 (min a b)) (.bool false) (.string ⟨#[]⟩) (.slice none 0 0))
         have hHeld3 := HS.out _ HB3.out
         refine hK.out _ _ hHeld3 ?_
         clear hK K
         try simp only [Act.put, gE, gF, gG]
         refine tkO (i := 14) (fun K hK => ?_)
         go_simp
         refine hK.out _ _ hHeld3 ?_
         clear hK K
         try simp only [Act.put, gE, gF, gG]
         refine tkO (i := 15) (fun K hK => ?_)
         go_simp
         refine hK.out _ _ hHeld3 ?_
         clear hK K
         try simp only [Act.put, gE, gF, gG]
         refine wpAnyH_done (by kernel_rfl) ?_ _
         refine NoPanic.normal ?_
         try simp only [Act.put, gE, gF, gG]
         go_wp2_with fail
         refine bodyPost_ret (v := .tuple #[(valV (min a b)), .int .i64 0, .bool true]) (by simp [results, Tryz.results83, go_sem, valV, y0, y1, y2, y3, y4]) rfl ?_
         exact ⟨HB3.out, rfl⟩
       | guard_hyp t59q4
         unfold valV
         refine hK.out _ _ hHeld2 ?_
         clear hK K
         try simp only [Act.put, gE, gF, gG]
         refine tkH (i := 10) hHeld2 ?_
         try simp only [Act.put, gE, gF, gG]
         refine tkH (i := 11) hHeld2 ?_
         try simp only [Act.put, gE, gF, gG]
         refine tkH (i := 12) hHeld2 ?_
         try simp only [Act.put, gE, gF, gG]
         refine tkO (i := 13) (fun K hK => ?_)
         go_simp
         have HB3 := hD (kba HB2.out (.int .i64 1) (.int .i64 (a - b)) (.bool false) (.string ⟨#[]⟩) (.slice none 0 0))
         have hHeld3 := HS.out _ HB3.out
         refine hK.out _ _ hHeld3 ?_
         clear hK K
         try simp only [Act.put, gE, gF, gG]
         refine tkO (i := 14) (fun K hK => ?_)
         go_simp
         refine hK.out _ _ hHeld3 ?_
         clear hK K
         try simp only [Act.put, gE, gF, gG]
         refine tkO (i := 15) (fun K hK => ?_)
         go_simp
         refine hK.out _ _ hHeld3 ?_
         clear hK K
         try simp only [Act.put, gE, gF, gG]
         refine wpAnyH_done (by kernel_rfl) ?_ _
         refine NoPanic.normal ?_
         try simp only [Act.put, gE, gF, gG]
         go_wp2_with fail
         refine bodyPost_ret (v := .tuple #[(valV (a - b)), .int .i64 0, .bool true]) (by simp [results, Tryz.results83, go_sem, valV, y0, y1, y2, y3, y4]) rfl ?_
         exact ⟨HB3.out, rfl⟩
       | unfold valV
         refine hK.out _ _ hHeld2 ?_
         clear hK K
         try simp only [Act.put, gE, gF, gG]
         refine tkH (i := 10) hHeld2 ?_
         try simp only [Act.put, gE, gF, gG]
         refine tkH (i := 11) hHeld2 ?_
         try simp only [Act.put, gE, gF, gG]
         refine tkH (i := 12) hHeld2 ?_
         try simp only [Act.put, gE, gF, gG]
         refine tkO (i := 13) (fun K hK => ?_)
         go_simp
         have HB3 := hD (kba HB2.out (.int .i64 1) (.int .i64 (a + b)) (.bool false) (.string ⟨#[]⟩) (.slice none 0 0))
         have hHeld3 := HS.out _ HB3.out
         refine hK.out _ _ hHeld3 ?_
         clear hK K
         try simp only [Act.put, gE, gF, gG]
         refine tkO (i := 14) (fun K hK => ?_)
         go_simp
         refine hK.out _ _ hHeld3 ?_
         clear hK K
         try simp only [Act.put, gE, gF, gG]
         refine tkO (i := 15) (fun K hK => ?_)
         go_simp
         refine hK.out _ _ hHeld3 ?_
         clear hK K
         try simp only [Act.put, gE, gF, gG]
         refine wpAnyH_done (by kernel_rfl) ?_ _
         refine NoPanic.normal ?_
         try simp only [Act.put, gE, gF, gG]
         go_wp2_with fail
         refine bodyPost_ret (v := .tuple #[(valV (a + b)), .int .i64 0, .bool true]) (by simp [results, Tryz.results83, go_sem, valV, y0, y1, y2, y3, y4]) rfl ?_
         exact ⟨HB3.out, rfl⟩
     | refine kb8 (i := 6) (j := 7) (by kernel_rfl) rfl rfl (fun K hK => ?_) (fun K hK => ?_)
       ·
        go_simp
        have hH1 := HK.out _ (((Below.refl wc.heap.size wc).alloc (Nat.le_refl _) (.cells #[.int .i64 0, .int .i64 0, .bool false, .string ⟨#[]⟩, .slice none 0 0] 40)).drew)
        refine hK.out _ _ hH1 ?_
        clear hK K
        try simp only [Act.put, gE, gF, gG]
        refine tkO (i := 7) (fun K hK => ?_)
        have t538q0 := True.intro
        exact y95
       ·
        go_simp
        have hH1 := HK.out _ (((Below.refl wc.heap.size wc).alloc (Nat.le_refl _) (.cells #[.int .i64 0, .int .i64 0, .bool false, .string ⟨#[]⟩, .slice none 0 0] 40)).drew)
        refine hK.out _ _ hH1 ?_
        clear hK K
        try simp only [Act.put, gE, gF, gG]
        refine tkO (i := 6) (fun K hK => ?_)
        exact y95
   | refine tkH (i := 6) hHeld ?_
     try simp only [Act.put, gE, gF, gG]
     refine tkH (i := 7) hHeld ?_
     try simp only [Act.put, gE, gF, gG]
     refine tkH (i := 8) hHeld ?_
     try simp only [Act.put, gE, gF, gG]
     refine tkH (i := 9) hHeld ?_
     try simp only [Act.put, gE, gF, gG]
     refine tkH (i := 10) hHeld ?_
     try simp only [Act.put, gE, gF, gG]
     refine tkH (i := 11) hHeld ?_
     try simp only [Act.put, gE, gF, gG]
     refine tkH (i := 12) hHeld ?_
     try simp only [Act.put, gE, gF, gG]
     refine tkH (i := 13) hHeld ?_
     try simp only [Act.put, gE, gF, gG]
     refine kb8 (i := 14) (j := 15) (by kernel_rfl) rfl rfl (fun K hK => ?_) (fun K hK => ?_)
     ·
      go_simp
      have HBE := hD (HBD.out.alloc HBD.out.size (.cells #[.string ⟨#[]⟩, .slice none 0 0, .int .i64 0, .string ⟨#[]⟩, .int .i64 0] 76))
      have HSE := hD (HSD.out.alloc (.cells #[.string ⟨#[]⟩, .slice none 0 0, .int .i64 0, .string ⟨#[]⟩, .int .i64 0] 76))
      have hHeldE := HSS _ HBE.out HSE.out
      refine hK.out _ _ hHeldE ?_
      clear hK K
      try simp only [Act.put, gE, gF, gG]
      refine tkO (i := 15) (fun K hK => ?_)
      have t537q0 := True.intro
      exact y94
     ·
      go_simp
      have HBE := hD (HBD.out.alloc HBD.out.size (.cells #[.string ⟨#[]⟩, .slice none 0 0, .int .i64 0, .string ⟨#[]⟩, .int .i64 0] 76))
      have HSE := hD (HSD.out.alloc (.cells #[.string ⟨#[]⟩, .slice none 0 0, .int .i64 0, .string ⟨#[]⟩, .int .i64 0] 76))
      have hHeldE := HSS _ HBE.out HSE.out
      refine hK.out _ _ hHeldE ?_
      clear hK K
      try simp only [Act.put, gE, gF, gG]
      refine tkO (i := 14) (fun K hK => ?_)
      exact y94) : P := h
theorem kgm {i : Nat} {l : List Nat} (h : ∀ j ∈ l, j < i) (b : Bool) {a : Int} (ha : ∃ j : Nat, a = (j : Int) ∧ j < i) : ∀ j ∈ Rf.addL l b a, j < i := fun j hj => by
 obtain ⟨m, rfl, hm⟩ := ha
 unfold Rf.addL at hj
 cases b with
 | false => exact h j hj
 | true =>
  rcases List.mem_append.1 hj with hj | hj
  ·
   exact h j hj
  ·
   simp only [List.mem_cons, List.not_mem_nil, or_false] at hj
   rw [hj, Int.toNat_natCast]
   exact hm
theorem tg_lt {l : List St} (hc : kac l = 0) {i : Nat} {s : St} (hs : l[i]? = some s) : ∀ j ∈ Rf.targetsL l i, j < i := by
 have ha : ∀ k, k < s.args.length → ∃ j : Nat, Oz.arg s k = (j : Int) ∧ j < i := fun k hk => by
  obtain ⟨j, t, _, h2, _, h4, _⟩ := kah hc hs hk
  exact ⟨j, h4, h2⟩
 have h0 : ∀ j ∈ ([] : List Nat), j < i := fun j hj => by cases hj
 unfold Rf.targetsL
 rw [kad hs]
 dsimp only
 by_cases e : s.op = Oz.oNot
 ·
  rw [if_pos e]
  have hl : s.args.length = 1 := kae hc hs 1 (by rw [e]; show (_ : Option Nat) = _; kernel_rfl)
  obtain ⟨j, t, h1, h2, h3, h4, h5⟩ := kah hc hs (k := 0) (by omega)
  rw [h4, h5]
  by_cases e2 : t.op = Oz.oNot
  ·
   rw [if_pos e2]
   have hl2 : t.args.length = 1 := kae hc h3 1 (by rw [e2]; show (_ : Option Nat) = _; kernel_rfl)
   obtain ⟨m, _, _, g2, _, g4, _⟩ := kah hc h3 (k := 0) (by omega)
   rw [g4, Int.toNat_natCast]
   intro q hq
   simp only [List.mem_cons, List.not_mem_nil, or_false] at hq
   omega
  ·
   rw [if_neg e2]
   exact h0
 rw [if_neg e]
 by_cases e1 : s.args.length < 2
 ·
  rw [if_pos e1]
  exact h0
 rw [if_neg e1]
 have a0 := ha 0 (by omega)
 have a1 := ha 1 (by omega)
 repeat' split
 all_goals first | exact h0 | exact kgm (kgm h0 _ a0) _ a1 | exact kgm h0 _ a0
theorem fs_at {α β : Type} {f : α → Option β} : ∀ {l : List α} {p : Nat} {a : α} {b : β}, (∀ (q : Nat) x, q < p → l[q]? = some x → f x = none) → l[p]? = some a → f a = some b → l.findSome? f = some b
 | [], p, a, b, _, h, _ => by simp at h
 | x :: l, 0, a, b, _, h, hf => by
  injection h with h
  subst h
  rw [List.findSome?_cons, hf]
 | x :: l, p + 1, a, b, h0, h, hf => by
  rw [List.findSome?_cons, h0 0 x (by omega) rfl]
  exact fs_at (p := p) (fun q y hq hy => h0 (q + 1) y (by omega) hy) h hf
theorem kgk {α β : Type} {f : α → Option β} {l : List α} (h : ∀ (q : Nat) x, q < l.length → l[q]? = some x → f x = none) : l.findSome? f = none := by
 rw [List.findSome?_eq_none_iff]
 intro x hx
 obtain ⟨q, hq⟩ := List.getElem?_of_mem hx
 exact h q x (gH hq).1 hq
end Go.Proofs.YtamhdmkolfmmdaaGreatDoor
